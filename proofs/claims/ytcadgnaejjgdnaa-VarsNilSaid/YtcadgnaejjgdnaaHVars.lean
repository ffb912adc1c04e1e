/- vars.Table: New, Set, Get as contracts over the two maps' data. -/
import Derived.Test.YtcadgnaejjgdnaaHVarsNil
import Derived.Maps.OwnSet
import Derived.StringKeys
import Derived.RegionTactic
import Derived.BigRegion
namespace Go.Proofs.Ytcadgnaejjgdnaa.X
open Go.Maps Go.WideMaps Go.RowKit Go.Proofs.YtcadgnaejjgdnaaW.PrintWords Go.Proofs.YtcadgnaejjgdnaaW.PrintLast Go.Proofs.YtcadgnaejjgdnaaW.PrintMore
set_option linter.unusedSimpArgs false
set_option linter.unusedVariables false

structure VarU where
  n : ByteArray
  t : ByteArray
  s : Bool
  f : Int
def varV (x : VarU) : Value := .agg #[.string x.n, .string x.t, .bool x.s, .int .i64 x.f]
def varD (x : VarU) : DataW Unit := .agg [.lit (.string x.n.data.toList), .lit (.string x.t.data.toList), .lit (.bool x.s), .lit (.int .i64 x.f)]
def zV : VarU := ⟨⟨#[]⟩, ⟨#[]⟩, false, 0⟩
def RV : Value → Option (DataW Unit × List MemPlace)
  | .agg ⟨[.string n, .string t, .bool s, .int .i64 f]⟩ => some (varD ⟨n, t, s, f⟩, [])
  | _ => none
theorem RV_mk (x : VarU) : RV (varV x) = some (varD x, []) := rfl
theorem RV_inv {v : Value} {z : DataW Unit × List MemPlace} (h : RV v = some z) : ∃ x, v = varV x ∧ z = (varD x, []) := by
  unfold RV at h
  split at h
  · rename_i n t s f
    exact ⟨⟨n, t, s, f⟩, rfl, (Option.some.inj h).symm⟩
  · exact absurd h (by simp)
theorem varD_inj {x y : VarU} (h : varD x = varD y) : x = y := by
  obtain ⟨n, t, s, f⟩ := x
  obtain ⟨n', t', s', f'⟩ := y
  unfold varD at h
  injection h with h
  injection h with h1 h
  injection h with h2 h
  injection h with h3 h
  injection h with h4 h
  injection h1 with h1
  injection h1 with h1
  injection h2 with h2
  injection h2 with h2
  injection h3 with h3
  injection h3 with h3
  injection h4 with h4
  injection h4 with _ h4
  have e1 : n = n' := data_eq h1
  have e2 : t = t' := data_eq h2
  simp only at h3 h4
  subst e1 e2 h3 h4
  rfl
theorem keyS : Keyed Try.prog 9 := string_keyed Try.underlying9
theorem zeroVar (w : World) : (zeroValue 82).run Try.prog w = .ok (varV zV) w := by kernel_rfl
/-- 'v, ok := t.vars[k]': the value written out. -/
theorem wpList_lookup_var {P : Program} (w : World) {ops : Array Oper} {rest : List Oper} {o : Oper} {a : Act} {Q : Exit → Act → World → Prop} (hg : o.guard = none) (m x : Operand) (t : TypeId) (hop : o.op = Op.lookup t m x true)
    (k e : TypeId) (K : Keyed P k) (ht : P.underlying t = some (.map k e)) (hz : (zeroValue e).run P w = .ok (varV zV) w) (b n : Nat) (D : DataW Unit)
    (hm : a.eval m = .map (some b)) (hown : w.ownsMap P k RV b n D) (key : Value) (kl : Lit) (hx : a.eval x = key) (hkey : keyOf P k key = some kl)
    (hK : ∀ y : VarU, D.atKey kl (varD zV) = varD y → wpList P ops Q rest (a.put o.dst (.tuple #[.agg #[.string y.n, .string y.t, .bool y.s, .int .i64 y.f], .bool (Go.Maps.has D kl)])) w) :
    wpList P ops Q (o :: rest) a w :=
  wpList_lookup_own_ok w hg m x t hop k e K ht RV hz (varD zV) [] (RV_mk zV) b n D hm hown key kl hx hkey (fun v ps hv => by
    obtain ⟨y, rfl, hy⟩ := RV_inv hv
    injection hy with hy _
    exact hK y hy)

/-- A table at g: its maps' blocks and data. -/
def Tab (g m1 m2 : Nat) (al : Bool) (n1 n2 : Nat) (D1 D2 : DataW Unit) (W : World) : Prop :=
  W.heap[g]? = some (.cells #[.map (some m1), .map (some m2), .bool al] 160 (0, 0)) ∧ W.ownsMap Try.prog 9 RV m1 n1 D1 ∧ W.ownsMap Try.prog 9 (plainElem Try.prog 4) m2 n2 D2 ∧ m1 ≠ m2
theorem Tab.grown {g m1 m2 n1 n2 : Nat} {al : Bool} {D1 D2 : DataW Unit} {W W1 : World} (h : Tab g m1 m2 al n1 n2 D1 D2 W) (hg : W.grownBy W1 none) : Tab g m1 m2 al n1 n2 D1 D2 W1 :=
  ⟨(hg.block g (blk_lt h.1) (by simp)).trans h.1, h.2.1.kept hg (by simp), h.2.2.1.kept hg (by simp), h.2.2.2⟩
theorem grown_of_below {w w1 : World} (h : Below w.heap.size w w1) : w.grownBy w1 none := ⟨h.os, h.tape, h.output, h.size, fun k hk _ => h.block k hk⟩
theorem grown_alloc_set {w w1 : World} (h : w.grownBy w1 none) {g j : Nat} {v : Value} (hg : w.heap.size ≤ g) : w.grownBy (w1.setCell ⟨g, j, none⟩ v) none :=
  ⟨h.os, h.tape, h.output, Nat.le_trans h.size (KeepsWalks.setCell _ _ _).size, fun k hk hn => (Below.heap_setCell _ _ _ k (by simp; omega)).trans (h.block k hk hn)⟩

set_option maxRecDepth 100000 in
set_option maxHeartbeats 2000000 in
theorem newT (w : World) : Calls Try.prog 36 #[] w fun e w' => ∃ g m1 m2, e = .returned (.pointer (some ⟨g, 0, none⟩)) ∧ w.heap.size ≤ g ∧ w.heap.size ≤ m1 ∧ w.heap.size ≤ m2 ∧ Tab g m1 m2 false 0 0 (.map []) (.map []) w' ∧ Below w.heap.size w w' := by
  have hmm := @run_makeMap Try.prog
  go_enter Try.func36, Try.ntmps36
  go_wp2
  go_ret
  have a1 : Below w.heap.size w (w.alloc (.map #[] 0)) := below_alloc (Below.refl _ _) _
  have e1 : (w.alloc (.map #[] 0)).heap.size = w.heap.size + 1 := by simp
  have e2 : ((w.alloc (.map #[] 0)).alloc (.map #[] 0)).heap.size = w.heap.size + 1 + 1 := by simp
  have m1 := ((World.ownsMap_made w Try.prog 9 RV).alloc (.map #[] 0)).alloc (.cells #[.map (some w.heap.size), .map (some (w.heap.size + 1)), .bool false] 160)
  have m2 := (World.ownsMap_made (H := Unit) (w.alloc (.map #[] 0)) Try.prog 9 (plainElem Try.prog 4)).alloc (.cells #[.map (some w.heap.size), .map (some (w.heap.size + 1)), .bool false] 160)
  rw [e1] at m2
  have b1 := blk_new ((w.alloc (.map #[] 0)).alloc (.map #[] 0)) (.cells #[.map (some w.heap.size), .map (some (w.heap.size + 1)), .bool false] 160 (0, 0))
  rw [e2] at b1
  exact ⟨w.heap.size + 1 + 1, w.heap.size, w.heap.size + 1, rfl, by omega, by omega, by omega, ⟨b1, m1, m2, by omega⟩, below_alloc (below_alloc a1 _) _⟩
set_option maxRecDepth 100000 in
set_option maxHeartbeats 4000000 in
theorem getT (g m1 m2 n1 n2 : Nat) (al : Bool) (D1 D2 : DataW Unit) (s : ByteArray) (w : World) (hs : s.size ≤ maxLen) (h : Tab g m1 m2 al n1 n2 D1 D2 w) :
    Calls Try.prog 43 #[.pointer (some ⟨g, 0, none⟩), .string s] w fun e w' => ∃ y : VarU, D1.atKey (.string s.data.toList) (varD zV) = varD y ∧ e = .returned (.tuple #[varV y, .bool (Go.Maps.has D1 (.string s.data.toList))]) ∧ Below w.heap.size w w' := by
  have hkey : keyOf Try.prog 9 (.string s) = some (.string s.data.toList) := keyOf_string_mk Try.underlying9 hs
  obtain ⟨h1, h2, h3, h4⟩ := h
  have c0 := blk_cell h1 0
  have hlt := blk_lt h1
  have c0' : (w.alloc (.cells #[.string ⟨#[]⟩, .string ⟨#[]⟩, .bool false, .int .i64 0] 82)).cell? ⟨g, 0, none⟩ = some (.map (some m1)) := (blk_cell (blk_alloc h1 _) 0).trans rfl
  have HM := Aside0.mk (h2.alloc (.cells #[.string ⟨#[]⟩, .string ⟨#[]⟩, .bool false, .int .i64 0] 82))
  go_enter Try.func43, Try.ntmps43
  go_wp2_with (first | (at_lookup; refine wpList_lookup_var _ rfl _ _ 158 rfl 9 82 keyS Try.underlying158 (zeroVar _) m1 n1 D1 rfl HM.out _ _ rfl hkey ?_; intro y hy))
  refine bodyPost_ret (results_ct rfl _ _ w.heap.size 82 #[.string y.n, .string y.t, .bool y.s, .int .i64 y.f] (0, 0) _ rfl (blk_alloc (blk_new w _) _) Try.underlying82 rfl (by kernel_rfl)) rfl ?_
  exact ⟨y, hy, rfl, below_alloc (below_alloc (Below.refl _ _) _) _⟩
/-- A look-up's run, the value written out. -/
theorem look_run {P : Program} {w : World} {t k e : TypeId} {b n : Nat} {D : DataW Unit} {key : Value} {kl : Lit} (h : w.ownsMap P k RV b n D) (K : Keyed P k) (ht : P.underlying t = some (.map k e)) (hz : (zeroValue e).run P w = .ok (varV zV) w) (hkey : keyOf P k key = some kl) :
    ∃ y : VarU, D.atKey kl (varD zV) = varD y ∧ (Instr.lookup t (.map (some b)) key true).run P w = .ok (.tuple #[.agg #[.string y.n, .string y.t, .bool y.s, .int .i64 y.f], .bool (Go.Maps.has D kl)]) w := by
  obtain ⟨v, ps, hrun, hv⟩ := h.look_ok K ht hz (RV_mk zV) hkey
  obtain ⟨y, rfl, hy⟩ := RV_inv hv
  injection hy with hy _
  exact ⟨y, hy, hrun⟩
theorem look_run' {P : Program} {w : World} {t k e : TypeId} {b n : Nat} {D : DataW Unit} {key : Value} {kl : Lit} {y : VarU} (hy : D.atKey kl (varD zV) = varD y) (h : w.ownsMap P k RV b n D) (K : Keyed P k) (ht : P.underlying t = some (.map k e)) (hz : (zeroValue e).run P w = .ok (varV zV) w) (hkey : keyOf P k key = some kl) :
    (Instr.lookup t (.map (some b)) key true).run P w = .ok (.tuple #[.agg #[.string y.n, .string y.t, .bool y.s, .int .i64 y.f], .bool (Go.Maps.has D kl)]) w := by
  obtain ⟨y', hy', hrun⟩ := look_run h K ht hz hkey
  rw [hrun, varD_inj (hy'.symm.trans hy)]
theorem grown_none {w X W : World} {row : Option Nat} (h : w.grownBy X none) (k : X.grownBy W row) : w.grownBy W row :=
  ⟨k.os.trans h.os, k.tape.trans h.tape, k.output.trans h.output, Nat.le_trans h.size k.size, fun i hi hn => (k.block i (Nat.lt_of_lt_of_le hi h.size) hn).trans (h.block i hi (by simp))⟩
theorem grown_drew {w X : World} (h : w.grownBy X none) : w.grownBy X.drew none := ⟨h.os, h.tape, h.output, h.size, h.block⟩
set_option maxRecDepth 100000 in
set_option maxHeartbeats 8000000 in
theorem setT (g m1 m2 n1 n2 : Nat) (al : Bool) (D1 D2 : DataW Unit) (x : VarU) (w : World) (hs : x.n.size ≤ maxLen) (hne : x.n.toList ≠ []) (hf0 : 0 ≤ x.f) (hf4 : x.f ≤ 4) (hn : n1 < maxLen) (h : Tab g m1 m2 al n1 n2 D1 D2 w) :
    ∃ y : VarU, D1.atKey (.string x.n.data.toList) (varD zV) = varD y ∧
    Calls Try.prog 47 #[.pointer (some ⟨g, 0, none⟩), .agg #[.string x.n, .string x.t, .bool x.s, .int .i64 x.f]] w fun e w' => e = .returned (.int .i64 0) ∧
      Tab g m1 m2 al (n1 + 1) n2 (if Go.Maps.has D1 (.string x.n.data.toList) = true ∧ x.f < y.f then D1 else D1.put (.string x.n.data.toList) (varD x)) D2 w' ∧ w.grownBy w' (some m1) := by
  have hkey : keyOf Try.prog 9 (.string x.n) = some (.string x.n.data.toList) := keyOf_string_mk Try.underlying9 hs
  have hT := h
  obtain ⟨h1, h2, h3, h4⟩ := h
  have hgB : w.grownBy (w.alloc (.cells #[.string x.n, .string x.t, .bool x.s, .int .i64 x.f] 82)) none := World.grownBy_alloc _ _ _
  have b0 := blk_alloc h1 (.cells #[.string x.n, .string x.t, .bool x.s, .int .i64 x.f] 82)
  have c0 : (w.alloc (.cells #[.string x.n, .string x.t, .bool x.s, .int .i64 x.f] 82)).cell? ⟨g, 0, none⟩ = some (.map (some m1)) := (blk_cell b0 0).trans rfl
  have hM := h2.alloc (.cells #[.string x.n, .string x.t, .bool x.s, .int .i64 x.f] 82)
  obtain ⟨y, hy, hlk⟩ := look_run (w := w.alloc (.cells #[.string x.n, .string x.t, .bool x.s, .int .i64 x.f] 82)) (t := 158) hM keyS Try.underlying158 (zeroVar _) hkey
  refine ⟨y, hy, ?_⟩
  have c0d : ((w.alloc (.cells #[.string x.n, .string x.t, .bool x.s, .int .i64 x.f] 82)).drew).cell? ⟨g, 0, none⟩ = some (.map (some m1)) := c0
  have b0a := blk_alloc b0 (.cells #[.string ⟨#[]⟩, .string ⟨#[]⟩, .bool false, .int .i64 0] 82)
  have c0a : ((w.alloc (.cells #[.string x.n, .string x.t, .bool x.s, .int .i64 x.f] 82)).alloc (.cells #[.string ⟨#[]⟩, .string ⟨#[]⟩, .bool false, .int .i64 0] 82)).cell? ⟨g, 0, none⟩ = some (.map (some m1)) := (blk_cell b0a 0).trans rfl
  have c0ad : (((w.alloc (.cells #[.string x.n, .string x.t, .bool x.s, .int .i64 x.f] 82)).alloc (.cells #[.string ⟨#[]⟩, .string ⟨#[]⟩, .bool false, .int .i64 0] 82)).drew).cell? ⟨g, 0, none⟩ = some (.map (some m1)) := c0a
  have hlk1 := look_run' (w := (w.alloc (.cells #[.string x.n, .string x.t, .bool x.s, .int .i64 x.f] 82)).drew) (t := 158) hy hM keyS Try.underlying158 (zeroVar _) hkey
  have hMa := hM.alloc (.cells #[.string ⟨#[]⟩, .string ⟨#[]⟩, .bool false, .int .i64 0] 82)
  have hlk2 := look_run' (w := ((w.alloc (.cells #[.string x.n, .string x.t, .bool x.s, .int .i64 x.f] 82)).alloc (.cells #[.string ⟨#[]⟩, .string ⟨#[]⟩, .bool false, .int .i64 0] 82)).drew) (t := 158) hy hMa keyS Try.underlying158 (zeroVar _) hkey
  have hlk3 := look_run' (w := (w.alloc (.cells #[.string x.n, .string x.t, .bool x.s, .int .i64 x.f] 82)).alloc (.cells #[.string ⟨#[]⟩, .string ⟨#[]⟩, .bool false, .int .i64 0] 82)) (t := 158) hy hMa keyS Try.underlying158 (zeroVar _) hkey
  have hem : x.n.toList.isEmpty = false := List.isEmpty_eq_false_iff.2 hne
  have q1 : decide (x.f < 0) = false := decide_eq_false (by omega)
  have q2 : decide (x.f > 4) = false := decide_eq_false (by omega)
  have HM := Aside0.mk hM
  obtain ⟨hsB, hhs⟩ : ∃ z, Go.Maps.has D1 (.string x.n.data.toList) = z := ⟨_, rfl⟩
  rw [hhs] at hlk hlk1 hlk2 hlk3 ⊢
  have HT := Aside0.mk hT
  have HG := Aside0.mk hgB
  clear hT hhs h1 h2 h3 b0 hM hgB b0a hMa
  have hmg : some g ≠ some m1 := by
    rintro e
    injection e with e
    subst e
    obtain ⟨es, clock, hb, _⟩ := HT.out.2.1
    rw [HT.out.1] at hb
    cases hb
  have HNE := Aside0.mk hmg
  clear hmg
  cases hsB with
  | false =>
    rw [if_neg (fun h => by cases h.1)]
    go_enter Try.func47, Try.ntmps47
    have hMy := ((HT.out.2.1.alloc (.cells #[.string x.n, .string x.t, .bool x.s, .int .i64 x.f] 82)).alloc (.cells #[.string y.n, .string y.t, .bool y.s, .int .i64 y.f] 82))
    have b0y := blk_alloc (blk_alloc HT.out.1 (.cells #[.string x.n, .string x.t, .bool x.s, .int .i64 x.f] 82)) (.cells #[.string y.n, .string y.t, .bool y.s, .int .i64 y.f] 82)
    have c0y : (((w.alloc (.cells #[.string x.n, .string x.t, .bool x.s, .int .i64 x.f] 82)).alloc (.cells #[.string y.n, .string y.t, .bool y.s, .int .i64 y.f] 82)).drew).cell? ⟨g, 0, none⟩ = some (.map (some m1)) := (blk_cell b0y 0).trans rfl
    have c0yy : (((w.alloc (.cells #[.string x.n, .string x.t, .bool x.s, .int .i64 x.f] 82)).alloc (.cells #[.string y.n, .string y.t, .bool y.s, .int .i64 y.f] 82)).drew.drew).cell? ⟨g, 0, none⟩ = some (.map (some m1)) := c0y
    obtain ⟨w3, hst0, r1, r2⟩ := World.ownsMap.store (w := ((w.alloc (.cells #[.string x.n, .string x.t, .bool x.s, .int .i64 x.f] 82)).alloc (.cells #[.string y.n, .string y.t, .bool y.s, .int .i64 y.f] 82)).drew.drew) hMy keyS (t := 158) Try.underlying158 hn hkey (RV_mk x)
    have hst : (Instr.mapUpdate 158 (.map (some m1)) (.string x.n) (.agg #[.string x.n, .string x.t, .bool x.s, .int .i64 x.f])).run Try.prog (((w.alloc (.cells #[.string x.n, .string x.t, .bool x.s, .int .i64 x.f] 82)).alloc (.cells #[.string y.n, .string y.t, .bool y.s, .int .i64 y.f] 82)).drew.drew) = .ok () w3 := hst0
    have R3 := Aside0.mk (And.intro r1 r2)
    clear hst0 r1 r2 hMy b0y
    have HF := Aside0.mk (show Tab g m1 m2 al (n1 + 1) n2 (D1.put (.string x.n.data.toList) (varD x)) D2 w3 ∧ w.grownBy w3 (some m1) from by
      have gA : w.grownBy (((w.alloc (.cells #[.string x.n, .string x.t, .bool x.s, .int .i64 x.f] 82)).alloc (.cells #[.string y.n, .string y.t, .bool y.s, .int .i64 y.f] 82)).drew.drew) none := grown_drew (grown_drew (grown_none (World.grownBy_alloc _ _ _) (World.grownBy_alloc _ _ _)))
      have g3 := grown_none gA R3.out.2.grown
      exact ⟨⟨(g3.block g (blk_lt HT.out.1) HNE.out).trans HT.out.1, R3.out.1, HT.out.2.2.1.kept g3 (fun e => HT.out.2.2.2 (by injection e with e; exact e.symm)), HT.out.2.2.2⟩, g3⟩)
    clear R3
    go_wp2
    go_region
    all_goals
      go_wp2
      go_region
      all_goals
        go_wp2
        go_ret
        exact ⟨rfl, HF.out⟩
  | true =>
    by_cases hxy : x.f < y.f
    · rw [if_pos ⟨rfl, hxy⟩]
      have q3 : decide (y.f > x.f) = true := decide_eq_true hxy
      have HF := Aside0.mk (show Tab g m1 m2 al (n1 + 1) n2 D1 D2 (((w.alloc (.cells #[.string x.n, .string x.t, .bool x.s, .int .i64 x.f] 82)).alloc (.cells #[.string y.n, .string y.t, .bool y.s, .int .i64 y.f] 82)).drew) ∧ w.grownBy (((w.alloc (.cells #[.string x.n, .string x.t, .bool x.s, .int .i64 x.f] 82)).alloc (.cells #[.string y.n, .string y.t, .bool y.s, .int .i64 y.f] 82)).drew) (some m1) from by
        have gA : w.grownBy (((w.alloc (.cells #[.string x.n, .string x.t, .bool x.s, .int .i64 x.f] 82)).alloc (.cells #[.string y.n, .string y.t, .bool y.s, .int .i64 y.f] 82)).drew) none := grown_drew (grown_none (World.grownBy_alloc _ _ _) (World.grownBy_alloc _ _ _))
        have hT1 := HT.out.grown gA
        exact ⟨⟨hT1.1, hT1.2.1.mono (Nat.le_succ _), hT1.2.2⟩, ⟨gA.os, gA.tape, gA.output, gA.size, fun k hk _ => gA.block k hk (by simp)⟩⟩)
      go_enter Try.func47, Try.ntmps47
      go_wp2
      go_region
      all_goals
        go_wp2
        go_ret
        exact ⟨rfl, HF.out⟩
    · rw [if_neg (fun h => hxy h.2)]
      have q3 : decide (y.f > x.f) = false := decide_eq_false hxy
      go_enter Try.func47, Try.ntmps47
      have hMy := ((HT.out.2.1.alloc (.cells #[.string x.n, .string x.t, .bool x.s, .int .i64 x.f] 82)).alloc (.cells #[.string y.n, .string y.t, .bool y.s, .int .i64 y.f] 82))
      have b0y := blk_alloc (blk_alloc HT.out.1 (.cells #[.string x.n, .string x.t, .bool x.s, .int .i64 x.f] 82)) (.cells #[.string y.n, .string y.t, .bool y.s, .int .i64 y.f] 82)
      have c0y : (((w.alloc (.cells #[.string x.n, .string x.t, .bool x.s, .int .i64 x.f] 82)).alloc (.cells #[.string y.n, .string y.t, .bool y.s, .int .i64 y.f] 82)).drew).cell? ⟨g, 0, none⟩ = some (.map (some m1)) := (blk_cell b0y 0).trans rfl
      have c0yy : (((w.alloc (.cells #[.string x.n, .string x.t, .bool x.s, .int .i64 x.f] 82)).alloc (.cells #[.string y.n, .string y.t, .bool y.s, .int .i64 y.f] 82)).drew.drew).cell? ⟨g, 0, none⟩ = some (.map (some m1)) := c0y
      obtain ⟨w3, hst0, r1, r2⟩ := World.ownsMap.store (w := ((w.alloc (.cells #[.string x.n, .string x.t, .bool x.s, .int .i64 x.f] 82)).alloc (.cells #[.string y.n, .string y.t, .bool y.s, .int .i64 y.f] 82)).drew.drew) hMy keyS (t := 158) Try.underlying158 hn hkey (RV_mk x)
      have hst : (Instr.mapUpdate 158 (.map (some m1)) (.string x.n) (.agg #[.string x.n, .string x.t, .bool x.s, .int .i64 x.f])).run Try.prog (((w.alloc (.cells #[.string x.n, .string x.t, .bool x.s, .int .i64 x.f] 82)).alloc (.cells #[.string y.n, .string y.t, .bool y.s, .int .i64 y.f] 82)).drew.drew) = .ok () w3 := hst0
      have R3 := Aside0.mk (And.intro r1 r2)
      clear hst0 r1 r2 hMy b0y
      have HF := Aside0.mk (show Tab g m1 m2 al (n1 + 1) n2 (D1.put (.string x.n.data.toList) (varD x)) D2 w3 ∧ w.grownBy w3 (some m1) from by
        have gA : w.grownBy (((w.alloc (.cells #[.string x.n, .string x.t, .bool x.s, .int .i64 x.f] 82)).alloc (.cells #[.string y.n, .string y.t, .bool y.s, .int .i64 y.f] 82)).drew.drew) none := grown_drew (grown_drew (grown_none (World.grownBy_alloc _ _ _) (World.grownBy_alloc _ _ _)))
        have g3 := grown_none gA R3.out.2.grown
        exact ⟨⟨(g3.block g (blk_lt HT.out.1) HNE.out).trans HT.out.1, R3.out.1, HT.out.2.2.1.kept g3 (fun e => HT.out.2.2.2 (by injection e with e; exact e.symm)), HT.out.2.2.2⟩, g3⟩)
      clear R3
      go_wp2
      go_region
      all_goals
        go_wp2
        go_region
        all_goals
          go_wp2
          go_ret
          exact ⟨rfl, HF.out⟩
end Go.Proofs.Ytcadgnaejjgdnaa.X
