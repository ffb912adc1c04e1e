/- maps.Values at api.File, and what slices.Collect makes of it: the store's files, each once, in some order. -/
import Derived.Test.YtmpheeanjjfddaaDoorHStr
import Derived.Test.YtmpheeanjjfddaaDoorHBase
import Derived.Maps.OwnSet
import Derived.StringKeys
import Derived.RangeFuncNested
import Derived.RangeFuncMany
import Derived.RangeFuncLeaves
import Derived.RangeFuncBox
import Derived.Sort.MapsRangeIn
import Derived.Sort.KeysCollected
import Derived.Maps.AppendAt
import Derived.WalkKit
import Derived.OwnWalkIn
import Derived.TacticsInMore
import Derived.RegionIn
import Derived.LoopNIn
import Derived.LoopIn
import Derived.Shelf.Abstract
namespace Go.Proofs.YtmpheeanjjfddaaDoor.X
open Go.RowKit Go.Maps Go.Sort Go.Shelf Go.Proofs.YtmpheeanjjfddaaDoorW.PrintWords
set_option linter.unusedSimpArgs false
set_option linter.unusedVariables false
attribute [local go_sem] Oper.semAt_some

structure FileU where
  n : ByteArray
  t : ByteArray
  s : Bool
  f : Int
def fileV (x : FileU) : Value := .agg #[.string x.n, .string x.t, .int .i64 x.f, .bool x.s]
def fileD (x : FileU) : DataW Unit := .agg [.lit (.string x.n.data.toList), .lit (.string x.t.data.toList), .lit (.int .i64 x.f), .lit (.bool x.s)]
def zF : FileU := ⟨⟨#[]⟩, ⟨#[]⟩, false, 0⟩
def RF : Value → Option (DataW Unit × List MemPlace)
  | .agg ⟨[.string n, .string t, .int .i64 f, .bool s]⟩ => some (fileD ⟨n, t, s, f⟩, [])
  | _ => none
theorem RF_mk (x : FileU) : RF (fileV x) = some (fileD x, []) := rfl
theorem RF_inv {v : Value} {z : DataW Unit × List MemPlace} (h : RF v = some z) : ∃ x, v = fileV x ∧ z = (fileD x, []) := by
  unfold RF at h
  split at h
  · rename_i n t f s
    exact ⟨⟨n, t, s, f⟩, rfl, (Option.some.inj h).symm⟩
  · exact absurd h (by simp)
theorem fileD_inj {x y : FileU} (h : fileD x = fileD y) : x = y := by
  obtain ⟨n, t, s, f⟩ := x
  obtain ⟨n', t', s', f'⟩ := y
  unfold fileD at h
  injection h with h
  injection h with h1 h
  injection h with h2 h
  injection h with h3 h
  injection h with h4 h
  injection h1 with h1
  injection h1 with h1
  injection h2 with h2
  injection h2 with h2
  injection h4 with h4
  injection h4 with h4
  injection h3 with h3
  injection h3 with _ h3
  have e1 : n = n' := data_eq h1
  have e2 : t = t' := data_eq h2
  simp only at h3 h4
  subst e1 e2 h3 h4
  rfl
theorem keyS : Keyed Tryd.prog 9 := string_keyed Tryd.underlying9
theorem zeroFile (w : World) : (zeroValue 25).run Tryd.prog w = .ok (fileV zF) w := by kernel_rfl
/-- The value of an entry. -/
def ValAt (D0 : DataW Unit) (p : List UInt8 × FileU) : Prop := ∀ zd, D0.atKey (.string p.1) zd = fileD p.2
/-- All have come. -/
def AllOf (D0 : DataW Unit) (ps : List (List UInt8 × FileU)) : Prop := (ps.map (·.1)).Perm (strKeys D0) ∧ ∀ p ∈ ps, ValAt D0 p
/-- Some have come. -/
def PartOf (D0 : DataW Unit) (ps : List (List UInt8 × FileU)) : Prop := (ps.map (·.1)).Nodup ∧ ∀ p ∈ ps, ValAt D0 p
/-- A variable's cells. -/
def fileC (x : FileU) : List Value := [.string x.n, .string x.t, .int .i64 x.f, .bool x.s]
namespace Vals
theorem ownsRow_lower {w : World} {b b' : Nat} {e : TypeId} {size n : Nat} {v : Value} {xs : List Value} (h : w.ownsRow b e size v n xs) (hb : b' ≤ b) : w.ownsRow b' e size v n xs := by
  obtain ⟨h1, h2⟩ := h
  refine ⟨h1, ?_⟩
  rcases h2 with h2 | ⟨g, cap, cur, hv, hg, hr⟩
  · exact .inl h2
  · exact .inr ⟨g, cap, cur, hv, Nat.le_trans hb hg, hr⟩
theorem ownsRow_block {w : World} {b : Nat} {e : TypeId} {size n : Nat} {v : Value} {xs : List Value} {k : Nat} (h : w.ownsRow b e size v n xs) (hk : k < b) : some k ≠ v.ownBlock := by
  rcases h.2 with ⟨rfl, _⟩ | ⟨g, cap, cur, rfl, hg, _⟩
  · intro e; cases e
  · intro e; have := Option.some.inj e; simp at this; omega
end Vals
open Vals
theorem fileC_len (x : FileU) : (fileC x).length = 4 := rfl

set_option maxRecDepth 100000 in
set_option maxHeartbeats 1000000 in
theorem values_in (n : Nat) (mb : Option Nat) (w : World) :
    CallsIn .wide n Tryd.prog 28 #[.map mb] w fun e w' => e = .returned (.func (.func 43) #[] #[.pointer (some ⟨w.heap.size, 0, none⟩)]) ∧ w' = w.alloc (.cells #[.map mb] 45) := by
  refine callsIn_of_wp Tryd.func28 rfl trivial ?_ rfl
  simp only [Tryd.ntmps28, List.size_toArray, List.length_cons, List.length_nil, Nat.reduceAdd, Nat.reduceSub, Array.replicate_succ, Array.replicate_zero, List.push_toArray, List.append_toArray, List.nil_append, List.cons_append]
  gi_wp2
  go_ret
  exact ⟨rfl, rfl⟩

set_option maxRecDepth 100000 in
set_option maxHeartbeats 4000000 in
theorem values1_in (n : Nat) (hn : 1 ≤ n) (l Bm b nn : Nat) (D0 : DataW Unit) (J Jx : List FileU → World → Prop)
    (hY : ∀ pre x W, J pre W → pre.length < Maps.size D0 → YieldAt .wide (n - 1) Tryd.prog l #[.agg #[.string x.n, .string x.t, .int .i64 x.f, .bool x.s]] W fun e W' =>
      (e = .returned (.bool true) ∧ J (pre ++ [x]) W' ∧ KeepsWalks W W') ∨ (e = .returned (.bool false) ∧ Jx (pre ++ [x]) W'))
    (W : World) (hJ : AbidesFrom W.heap.size J) (hm : W.cell? ⟨Bm, 0, none⟩ = some (.map (some b))) (hown : W.ownsMap Tryd.prog 9 RF b nn D0) (h0 : J [] W) :
    CallsIn .wide n Tryd.prog 43 #[.func (.yield l) #[] #[], .pointer (some ⟨Bm, 0, none⟩)] W fun e W' => (∃ v, e = .returned v) ∧
      ((∃ xs, (∃ ps, AllOf D0 ps ∧ xs = ps.map (·.2)) ∧ J xs W') ∨ (∃ pre, (∃ ps, PartOf D0 ps ∧ pre = ps.map (·.2)) ∧ Jx pre W')) := by
  refine callsIn_of_wp Tryd.func43 rfl trivial ?_ rfl
  simp only [Tryd.ntmps43, List.size_toArray, List.length_cons, List.length_nil, Nat.reduceAdd, Nat.reduceSub, Array.replicate_succ, Array.replicate_zero, List.push_toArray, List.append_toArray, List.nil_append, List.cons_append]
  gi_wp2_with (first
    | (gi_at_range; refine wpListIn_range_own _ rfl _ 45 rfl 9 25 keyS Tryd.underlying45 _ b nn _ rfl hown ?_; intro w0 hrg0 hg0 hs0)
    | gi_in)
  go_frame
  gi_loopw [4] (fun _ wr => ∃ (left : Lit → Bool) (cnt : Nat) (ps : List (List UInt8 × FileU)), wr.ranges Tryd.prog 9 RF b W.heap.size nn D0 left cnt ∧ ps.length + cnt ≤ Maps.size D0 ∧ Collected D0 left (ps.map (·.1)) ∧ (∀ p ∈ ps, ValAt D0 p) ∧ J (ps.map (·.2)) wr)
    (fun _ wr => wr.rangeLeft b W.heap.size)
  case atStart =>
    exact ⟨_, _, [], hrg0, by simp, Collected.start D0, by simp, hJ [] W w0 none h0 hg0 (fun r e => by cases e)⟩
  case round =>
    obtain ⟨left, cnt, ps, hrg, hcs, hC, hV, hJs⟩ := hrel
    gi_wp2_with (first
      | (gi_at_next; refine wpListIn_next_ranges _ rfl _ rfl 9 keyS RF encStr (fun x : FileU => (Value.agg #[.string x.n, .string x.t, .int .i64 x.f, .bool x.s])) (fun key kl hk => by obtain ⟨x, hx, _⟩ := Maps.keyOf_str Tryd.underlying9 hk; exact ⟨x, hx⟩) (fun v y hv => by obtain ⟨c, rfl, _⟩ := RF_inv hv; exact ⟨c, rfl⟩) b W.heap.size nn _ _ _ rfl hrg ?_ ?_)
      | gi_in)
    · intro hc0 hl0
      gi_wp2
      go_end0
      exact ⟨⟨_, rfl⟩, .inl ⟨_, ⟨ps, ⟨hC.perm hown keyS Tryd.underlying9 hl0, hV⟩, rfl⟩, hJs⟩⟩
    · intro x c kl yd yp w2 cnt2 hkey hlk hv hat hrg2 hlt hg2 hs2 hen
      obtain ⟨x', ex, rfl, _⟩ := Maps.keyOf_str Tryd.underlying9 hkey
      obtain rfl : x = x' := encStr_inj ex
      obtain ⟨c', ec, ez⟩ := RF_inv hv
      have ez' : (fileD c, []) = (yd, yp) := Option.some.inj ((RF_mk c).symm.trans hv)
      obtain rfl : fileD c = yd := (Prod.mk.inj ez').1
      clear ec ez c'
      have hJ2 : J (ps.map (·.2)) w2 := hJ _ wr w2 (some W.heap.size) hJs hg2 (fun r e => by cases e; exact ⟨Nat.le_refl _, hrg.iter_walk⟩)
      have hg3 : w2.grownBy (w2.alloc (.cells #[.string c.n, .string c.t, .int .i64 c.f, .bool c.s] 25)) none := World.grownBy_alloc _ _ _
      have hJ3 : J (ps.map (·.2)) (w2.alloc (.cells #[.string c.n, .string c.t, .int .i64 c.f, .bool c.s] 25)) := hJ _ w2 _ none hJ2 hg3 (fun r e => by cases e)
      obtain ⟨fn, tmps, assign, body, hy, hR⟩ := hY (ps.map (·.2)) c _ hJ3 (by simp; omega)

      clear hs2
      gi_wp2
      refine hR.mono ?_
      have hC2 : Collected D0 (fun z => left z && !z.sameKey (.string x)) ((ps ++ [(x, c)]).map (·.1)) := by simpa using hC.step hlk hat
      have hV2 : ∀ p ∈ ps ++ [(x, c)], ValAt D0 p := fun p hp => (List.mem_append.1 hp).elim (hV p) (fun e => by simp at e; subst e; exact hat)
      rintro e W3 (⟨rfl, hJ3, hk3⟩ | ⟨rfl, hJx3⟩)
      · gi_wp2
        have hrg3 := (hrg2.alloc (.cells #[.string c.n, .string c.t, .int .i64 c.f, .bool c.s] 25)).of_walks hk3
        go_roundw
        case rel => exact ⟨_, cnt2, ps ++ [(x, c)], hrg3, by simp; omega, hC2, hV2, by simpa using hJ3⟩
        case measure => rw [hrg3.left_eq, hrg.left_eq]; exact hlt
      · gi_wp2
        refine bodyPost_ret (results_none rfl _ _ _) rfl ?_
        exact ⟨⟨_, rfl⟩, .inr ⟨_, ⟨ps ++ [(x, c)], ⟨hC2.1, hV2⟩, by simp⟩, hJx3⟩⟩

theorem values_stops (n : Nat) (hn : 1 ≤ n) (Bm b nn : Nat) (D0 : DataW Unit) (w : World) (hBm : Bm < w.heap.size)
    (hm : w.cell? ⟨Bm, 0, none⟩ = some (.map (some b))) (hown : w.ownsMap Tryd.prog 9 RF b nn D0) :
    SeqStopsK .wide n Tryd.prog 43 #[.pointer (some ⟨Bm, 0, none⟩)] (fun x : FileU => #[Value.agg #[.string x.n, .string x.t, .int .i64 x.f, .bool x.s]]) KeepsWalks (fun xs => ∃ ps, AllOf D0 ps ∧ xs = ps.map (·.2)) (fun pre => ∃ ps, PartOf D0 ps ∧ pre = ps.map (·.2)) (Maps.size D0) w := fun l J Jx W hW hJ _ hY h0 => by
  have hown' : W.ownsMap Tryd.prog 9 RF b nn D0 := by
    have hbl := hown.lt
    obtain ⟨es, clock, hb, Ft, hs, hD⟩ := hown
    exact ⟨es, clock, (hW.block b hbl).trans hb, Ft, hs, hD⟩
  exact values1_in n hn l Bm b nn D0 J Jx hY W hJ ((hW.cell (p := ⟨Bm, 0, none⟩) hBm).trans hm) hown' h0

theorem info_file : (Tryd.prog.info? 25).map (fun i => (i.zero, i.size, i.bytes)) = some (some (fileV zF), 4, 48) := by kernel_rfl
theorem cells_new (W : World) (l : List Value) (t : TypeId) : ∀ (j : Nat) (u : Value), l[j]? = some u → (W.alloc (.cells l.toArray t)).cell? ((⟨W.heap.size, 0, none⟩ : Addr).add j) = some u := by
  intro j u h
  have hb := blk_new W (.cells l.toArray t (0, 0))
  have := blk_cell hb j
  refine Eq.trans ?_ (this.trans ?_)
  · by_cases hj : j = 0
    · subst hj; simp [Addr.add]
    · simp [Addr.add, hj]
  · simpa using h
theorem flat_len (l : List FileU) : (l.flatMap fileC).length = l.length * 4 := by
  induction l with
  | nil => rfl
  | cons x r ih => simp [List.flatMap_cons, ih, fileC_len]; omega
theorem hold4 {W : World} {b : Nat} {x : FileU} {t : TypeId} (h : W.heap[b]? = some (.cells #[.string x.n, .string x.t, .int .i64 x.f, .bool x.s] t (0, 0))) :
    W.cell? ⟨b, 0, none⟩ = some (.string x.n) ∧ W.cell? ⟨b, 1, none⟩ = some (.string x.t) ∧ W.cell? ⟨b, 2, none⟩ = some (.int .i64 x.f) ∧ W.cell? ⟨b, 3, none⟩ = some (.bool x.s) :=
  ⟨(blk_cell h 0).trans rfl, (blk_cell h 1).trans rfl, (blk_cell h 2).trans rfl, (blk_cell h 3).trans rfl⟩
theorem below_lower {a c : World} {n m : Nat} (h : Below n a c) (hm : m ≤ n) : Below m a c := h.mono hm

set_option maxRecDepth 100000 in
set_option maxHeartbeats 4000000 in
/-- slices.AppendSeq(nil, maps.Values(m)). -/
theorem appendVals (Bm b nn : Nat) (D0 : DataW Unit) (w : World) (hBm : Bm < w.heap.size) (hN : Maps.size D0 ≤ 2000000000000)
    (hm : w.cell? ⟨Bm, 0, none⟩ = some (.map (some b))) (hown : w.ownsMap Tryd.prog 9 RF b nn D0) :
    Calls Tryd.prog 51 #[.slice none 0 0, .func (.func 43) #[] #[.pointer (some ⟨Bm, 0, none⟩)]] w fun e w' =>
      ∃ (v : Value) (ps : List (List UInt8 × FileU)), e = .returned v ∧ AllOf D0 ps ∧ w'.ownsRow w.heap.size 25 4 v ps.length ((ps.map (·.2)).flatMap fileC) ∧ Below w.heap.size w w' := by
  obtain ⟨i0, hi, hz0, hz1, hz2⟩ := info_parts info_file
  refine (callsIn_wide (n := 9)).1 ?_
  refine callsIn_of_wp_marks Tryd.func51 rfl trivial ?_ rfl
  simp only [Tryd.ntmps51, List.size_toArray, List.length_cons, List.length_nil, Nat.reduceAdd, Nat.reduceSub, Array.replicate_succ, Array.replicate_zero, List.push_toArray, List.append_toArray, List.nil_append, List.cons_append]
  gi_wp2
  have bO := Boxed.new w 40 (.slice none 0 0)
  have hB0 : Below w.heap.size w (w.alloc (.cells #[.slice none 0 0] 40)) := (Below.refl _ w).alloc (Nat.le_refl _) _
  have hm1 : (w.alloc (.cells #[.slice none 0 0] 40)).cell? ⟨Bm, 0, none⟩ = some (.map (some b)) := (hB0.cell (p := ⟨Bm, 0, none⟩) hBm).trans hm
  have ho1 := hown.alloc (.cells #[.slice none 0 0] 40)
  refine wpIn_rangeFunc_ownH rfl (by omega) (gf := 43) (lb := #[.pointer (some ⟨Bm, 0, none⟩)]) rfl trivial (enters_of Tryd.func43 (by kernel_rfl) rfl)
    (values_stops (9 - 1) (by omega) Bm b nn D0 _ (by simp; omega) hm1 ho1) KeepsWalks.trans (fun W l o o' _ h1 _ h2 => KeepsWalks.putObj _ h1 h2) (Below.refl _ _) (fun _ => rfl)
    (fun (pre : List FileU) W => (∃ v, Boxed W w.heap.size 40 v ∧ W.ownsRow (w.heap.size + 1) 25 4 v pre.length (pre.flatMap fileC) ∧ True) ∧ Below w.heap.size w W)
    (fun _ _ _ => False)
    (OwnFrom.and (Own.from (holdsRow_own (w.heap.size + 1) w.heap.size 40 25 4 (fun pre : List FileU => pre.length) (fun pre => pre.flatMap fileC) (fun _ _ => True)) _) (ownFrom_below (Nat.le_refl _) (by simp)))
    (fun _ _ _ _ _ hs _ _ => hs)
    ⟨⟨_, bO, World.ownsRow_nil _ _ _ _, trivial⟩, hB0⟩
    (fun x a' W => ∃ Bv, w.heap.size < Bv ∧ W.heap[Bv]? = some (.cells #[.string x.n, .string x.t, .int .i64 x.f, .bool x.s] 25 (0, 0)) ∧ a' = { tmps := #[.slice none 0 0, .func (.func 43) #[] #[.pointer (some ⟨Bm, 0, none⟩)], .pointer (some ⟨w.heap.size, 0, none⟩), undef, .slice none 0 0, .pointer (some ⟨Bv, 0, none⟩), .func (.func 43) #[] #[.pointer (some ⟨Bm, 0, none⟩)], .agg #[.string x.n, .string x.t, .int .i64 x.f, .bool x.s], undef, undef, undef, undef, undef], defers := [] }) ?ax ?assign ?body ?done ?stop
  case ax =>
    rintro x a' _ X Y row ⟨Bv, h1, h2, h3⟩ hg hrow
    refine ⟨Bv, h1, (hg.block Bv (blk_lt h2) (fun e => ?_)).trans h2, h3⟩
    obtain ⟨_, o, ho, hc⟩ := hrow Bv e.symm
    rw [h2] at ho; cases ho; cases hc
  case assign =>
    rintro l pre x W K ⟨⟨v, hv, hrow, _⟩, hB⟩ hK
    have hlt := hv.lt
    gi_wp2
    refine hK _ _ ((KeepsOthers.alloc W _).from _) (KeepsWalks.alloc _ _) ⟨⟨v, hv.alloc _, hrow.alloc _, trivial⟩, hB.alloc hB.size _⟩ ⟨W.heap.size, by omega, blk_new W _, rfl⟩
  case body =>
    rintro lo pre x a' W _ _ ⟨⟨v, hv, hrow, _⟩, hB⟩ ⟨Bv, hBv, hx, rfl⟩ hlt
    have hc := hv.cell
    obtain ⟨x0, x1, x2, x3⟩ := hold4 hx
    have hw := hB.size
    gi_wp2_with (gi_at_builtin; refine wpListIn_append_own _ rfl _ _ 40 rfl (w.heap.size + 1) 25 i0 (fileV zF) 4 48 Tryd.underlying40 hi hz0 hz1 hz2 rfl (by decide) _ _ _ rfl (hrow.alloc _) ⟨W.heap.size, 0, none⟩ 1 1 (fileC x) rfl rfl (cells_new W (fileC x) 25) (by simp [fileC, Value.oneCell']) (by unfold maxLen; omega) (by omega) (by have := hv.lt; simp; omega) ?_; intro v' w1 hown' hgrow _; obtain ⟨g', cap', rfl⟩ := ownsRow_succ hown'; obtain ⟨hv1, hv2, hr2, hk2, hb2⟩ := hv.appended (by decide) (ownsRow_lower hrow (by omega)) hB.size (Nat.le_refl _) (ownsRow_lower hown' (by omega)) hgrow; have hc1 := hv1.cell; have hf1 := hv1.frozen)
    refine ⟨hk2.from _, hk2.walks, ⟨_, hv2, ?_, trivial⟩, hB.trans hb2⟩
    have hr3 := hown'.kept (grownBy_setCell' w1 w.heap.size (.slice (some ⟨g', 0, none⟩) (pre.length + 1) cap')) (.inr (ownsRow_block hown' (by omega)).symm)
    simpa using hr3
  case done =>
    rintro D ys W hD ⟨ps, hps, rfl⟩ ⟨⟨v, hv, hrow, _⟩, hB⟩ hK
    have hc := hv.cell
    gi_wp2
    refine ⟨by simp, .inl ⟨_, _, rfl, run_takeDeferred hK, ?_⟩⟩
    refine ⟨_, results_tmp rfl _ _ _, v, ps, rfl, hps, ?_, hB.trans (belowK_b (w := w) (Nat.le_refl _) W D _ _ (by simp at hD; omega) hK rfl rfl)⟩
    rw [List.length_map] at hrow
    exact ownsRow_lower (ownsRow_putObj hrow _ hK rfl) (show w.heap.size ≤ w.heap.size + 1 by omega)
  case stop =>
    rintro D c pre W _ _ h _
    exact h.elim

set_option maxRecDepth 100000 in
set_option maxHeartbeats 1000000 in
/-- slices.Collect(maps.Values(m)). -/
theorem collectVals (Bm b nn : Nat) (D0 : DataW Unit) (w : World) (hBm : Bm < w.heap.size) (hN : Maps.size D0 ≤ 2000000000000)
    (hm : w.cell? ⟨Bm, 0, none⟩ = some (.map (some b))) (hown : w.ownsMap Tryd.prog 9 RF b nn D0) :
    Calls Tryd.prog 41 #[.func (.func 43) #[] #[.pointer (some ⟨Bm, 0, none⟩)]] w fun e w' =>
      ∃ (v : Value) (ps : List (List UInt8 × FileU)), e = .returned v ∧ AllOf D0 ps ∧ w'.ownsRow w.heap.size 25 4 v ps.length ((ps.map (·.2)).flatMap fileC) ∧ Below w.heap.size w w' := by
  have h := appendVals Bm b nn D0 w hBm hN hm hown
  go_enter Tryd.func41, Tryd.ntmps41
  go_wp2_with (go_at_call 51; refine h.mono ?_; rintro e w' ⟨v, ps, rfl, hps, hrow, hb⟩)
  go_ret
  exact ⟨v, ps, rfl, hps, hrow, hb⟩
end Go.Proofs.YtmpheeanjjfddaaDoor.X
