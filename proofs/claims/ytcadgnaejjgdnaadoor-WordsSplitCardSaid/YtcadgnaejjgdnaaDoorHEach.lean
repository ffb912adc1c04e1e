/- words.Each's literal: what a range over it comes to. -/
import Derived.RangeFuncNested
import Derived.RangeFuncBound
import Derived.RangeFuncCalls
import Derived.RangeFuncLeaves
import Derived.RangeFuncBox
import Derived.Shelf.Abstract
import Derived.Shelf.RegionOpen
import Derived.WalkKit
import Derived.OwnWalkIn
import Derived.TacticsInMore
import Derived.LoopNIn
import Derived.LoopIn
import Derived.Lib.Hide
import Derived.Test.YtcadgnaejjgdnaaDoorHBase
import Derived.Test.YtcadgnaejjgdnaaDoorProg
namespace Go.Proofs.YtcadgnaejjgdnaaDoor.X
open Go.RowKit Go.Shelf Go.Proofs.YtcadgnaejjgdnaaDoorW.PrintWords
attribute [local go_sem] Oper.semAt_some

def blankU (b : UInt8) : Bool := decide (b = 32) || (decide (b = 9) || decide (b = 10))
/-- The words of a text, and where they begin; at i, from where one is read (cur). -/
def eachA (beg : Nat) (cur : List UInt8) (i : Nat) : List UInt8 → List (Nat × ByteArray)
  | [] => if cur = [] then [] else [(beg, B cur)]
  | b :: r => if blankU b = true then (if cur = [] then eachA (i + 1) [] (i + 1) r else (beg, B cur) :: eachA (i + 1) [] (i + 1) r) else eachA beg (cur ++ [b]) (i + 1) r
def eachS (l : List UInt8) : List (Nat × ByteArray) := eachA 0 [] 0 l

theorem each_run (l : List UInt8) (p : Nat) : ∀ j, p ≤ j → j ≤ l.length → (∀ k (hk : k < l.length), p ≤ k → k < j → blankU l[k] = false) → eachA p [] p (l.drop p) = eachA p ((l.take j).drop p) j (l.drop j) := by
  intro j
  induction j with
  | zero => intro h0 _ _; obtain rfl : p = 0 := by omega
            simp
  | succ j ih =>
    intro h0 h1 hb
    by_cases e : p = j + 1
    · subst e; rw [show (l.take (j + 1)).drop (j + 1) = [] by simp]
    · rw [ih (by omega) (by omega) (fun k hk h2 h3 => hb k hk h2 (by omega)), drop_get l j (by omega), eachA, hb j (by omega) (by omega) (by omega)]
      have e1 : (l.take (j + 1)).drop p = (l.take j).drop p ++ [l[j]] := by
        rw [List.take_succ_eq_append_getElem (by omega), List.drop_append_of_le_length (by simp; omega)]
      rw [e1]; simp
theorem each_step (l : List UInt8) (p j : Nat) (h0 : p ≤ j) (h1 : j ≤ l.length) (hb : ∀ k (hk : k < l.length), p ≤ k → k < j → blankU l[k] = false) (he : ∀ hj : j < l.length, blankU l[j] = true) :
    eachA p [] p (l.drop p) = (if p < j then [(p, B ((l.take j).drop p))] else []) ++ eachA (j + 1) [] (j + 1) (l.drop (j + 1)) := by
  rw [each_run l p j h0 h1 hb]
  have hc : (l.take j).drop p = [] ↔ ¬ p < j := by
    rw [List.drop_eq_nil_iff, List.length_take, Nat.min_eq_left h1]; omega
  by_cases hj : j < l.length
  · rw [drop_get l j hj, eachA, he hj, if_pos rfl]
    by_cases hp : p < j
    · rw [if_neg (fun e => hc.1 e hp), if_pos hp]; simp
    · rw [if_pos (hc.2 hp), if_neg hp]; simp
  · rw [List.drop_eq_nil_of_le (show l.length ≤ j by omega), List.drop_eq_nil_of_le (show l.length ≤ j + 1 by omega)]
    by_cases hp : p < j
    · rw [eachA, if_neg (fun e => hc.1 e hp), if_pos hp]; simp [eachA]
    · rw [eachA, if_pos (hc.2 hp), if_neg hp]; simp [eachA]

set_option maxRecDepth 100000 in
set_option maxHeartbeats 2000000 in
theorem blank_calls (b : UInt8) (w : World) : Calls Tryd.prog 47 #[.int .u8 (b.toNat : Int)] w fun e w' => e = .returned (.bool (blankU b)) ∧ w' = w := by
  have e1 := u8_num b 32 (by decide)
  have e2 := u8_num b 9 (by decide)
  have e3 := u8_num b 10 (by decide)
  obtain ⟨n, hn⟩ : ∃ n : Int, n = (b.toNat : Int) := ⟨_, rfl⟩
  have hr : blankU b = (decide (n = 32) || (decide (n = 9) || decide (n = 10))) := by
    unfold blankU
    rw [hn]
    congr 1
    · exact decide_eq_decide.2 (Iff.of_eq e1.symm)
    · congr 1
      · exact decide_eq_decide.2 (Iff.of_eq e2.symm)
      · exact decide_eq_decide.2 (Iff.of_eq e3.symm)
  rw [← hn, hr]
  clear e1 e2 e3 hn hr
  go_enter Tryd.func47, Tryd.ntmps47
  by_cases h1 : n = 32
  · subst h1; go_wp2; go_ret; exact ⟨rfl, rfl⟩
  · by_cases h2 : n = 9
    · subst h2; go_wp2; go_ret; exact ⟨rfl, rfl⟩
    · go_wp2; go_ret
      have b1 : (n == 32) = false := beq_false_of_ne h1
      have b2 : (n == 9) = false := beq_false_of_ne h2
      have b3 : (n == 10) = decide (n = 10) := by rw [Bool.eq_iff_iff]; simp
      exact ⟨by simp [h1, h2, b1, b2, b3], rfl⟩

/-- The cell of a box is as it was. -/
def Kc (Bs : Nat) (A C : World) : Prop := C.cell? ⟨Bs, 0, none⟩ = A.cell? ⟨Bs, 0, none⟩
theorem Kc.t {Bs : Nat} {A C D : World} (h : Kc Bs A C) (k : Kc Bs C D) : Kc Bs A D := k.trans h
theorem Kc.b {Bs : Nat} {w : World} (hn : Bs < w.heap.size) (W : World) (l : Nat) (o o' : Obj) (hl : w.heap.size ≤ l) (h : W.heap[l]? = some o) (h1 : o.isCells = false) (h2 : o.isWalk = false) : Kc Bs W (W.putObj l o') :=
  (belowK_b (n₀ := Bs + 1) hn W l o o' hl h h1 h2).cell (p := ⟨Bs, 0, none⟩) (Nat.lt_succ_self _)

theorem getB (l : List UInt8) (j : Nat) (_ : j < l.length) (h' : j < (B l).size) : (B l)[j]'h' = l[j] := by simp [B, ByteArray.getElem_eq_getElem_data]; try rfl

set_option maxRecDepth 100000 in
set_option maxHeartbeats 4000000 in
/-- words.Each's literal: for every body that keeps the box of the text. -/
theorem each_in (n : Nat) (hn : 3 ≤ n) (lo Bs : Nat) (l : List UInt8) (hl : l.length ≤ 4611686018427387000) (J Jx : List (Nat × ByteArray) → World → Prop)
    (hY : ∀ pre x W, J pre W → pre.length < (eachS l).length → YieldAt .wide (n - 1) Tryd.prog lo #[.int .i64 (x.1 : Int), .string x.2] W fun e W' =>
      (e = .returned (.bool true) ∧ J (pre ++ [x]) W' ∧ Kc Bs W W') ∨ (e = .returned (.bool false) ∧ Jx (pre ++ [x]) W'))
    (W : World) (hBs : W.cell? ⟨Bs, 0, none⟩ = some (.string (B l))) (h0 : J [] W) :
    CallsIn .wide n Tryd.prog 46 #[.func (.yield lo) #[] #[], .pointer (some ⟨Bs, 0, none⟩)] W fun e W' => (∃ v, e = .returned v) ∧
      ((∃ ys, ys = eachS l ∧ J ys W') ∨ (∃ pre, pre <+: eachS l ∧ Jx pre W')) := by
  obtain ⟨S, hS⟩ : ∃ S, S = eachS l := ⟨_, rfl⟩
  rw [← hS] at hY ⊢
  have HS := Lib.hid hS
  have hn1 : 1 ≤ n := by omega
  clear hS
  refine callsIn_of_wp Tryd.func46 rfl trivial ?_ rfl
  simp only [Tryd.ntmps46, List.size_toArray, List.length_cons, List.length_nil, Nat.reduceAdd, Nat.reduceSub, Array.replicate_succ, Array.replicate_zero, List.push_toArray, List.append_toArray, List.nil_append, List.cons_append]
  gi_wp2
  gi_loopw [3] (fun p wr => ∃ (i : Nat) (pre : List (Nat × ByteArray)), p = .int .i64 i ∧ i ≤ l.length + 1 ∧ Hid (S = pre ++ eachA i [] i (l.drop i)) ∧ J pre wr ∧ Kc Bs W wr) (fun p _ => l.length + 1 - (intOf p).toNat)
  case atStart => exact ⟨0, [], rfl, by omega, HS, h0, rfl⟩
  case round =>
    obtain ⟨i, pre, rfl, hi, hs, hJ, hk⟩ := hrel
    have hc := hk.trans hBs
    have hsz : (B l).size = l.length := B_size l
    by_cases hlt : i < l.length
    · gi_wp2
      gi_loopw [3] (fun p wr' => ∃ j : Nat, p = .int .i64 j ∧ i ≤ j ∧ j ≤ l.length ∧ Hid (∀ k (hk : k < l.length), i ≤ k → k < j → blankU l[k] = false) ∧ wr' = wr) (fun p _ => l.length - (intOf p).toNat)
      case atStart => exact ⟨i, rfl, Nat.le_refl _, by omega, Lib.hid (by intro k _ h1 h2; omega), rfl⟩
      case round =>
        obtain ⟨j, rfl, hij, hjl, hall, rfl⟩ := hrel
        by_cases hjt : j < l.length
        · have hjB : j < (B l).size := by rw [hsz]; exact hjt
          have hb := Lib.hid (blank_calls ((B l)[j]'hjB))
          have hbe : blankU ((B l)[j]'hjB) = blankU l[j] := by rw [getB l j hjt hjB]
          rw [hbe] at hb
          clear hbe
          have hall' := hall
          by_cases hbl : blankU l[j] = true
          · rw [hbl] at hb
            have hbl' := Lib.hid hbl
            clear hbl
            have hst := each_step l i j hij hjl hall.out (fun _ => hbl'.out)
            by_cases hp : i < j
            · rw [if_pos hp] at hst
              have hs2 : S = pre ++ ((i, (B l).extract i j) :: eachA (j + 1) [] (j + 1) (l.drop (j + 1))) := by rw [hs.out, hst, B_extract]; rfl
              obtain ⟨fn, tmps, assign, body, hy, hR⟩ := hY pre (i, (B l).extract i j) wr hJ (by rw [hs2]; simp)
              dsimp only at hy
              have hs3 := Lib.hid hs2
              clear hs2 hst
              gi_wp2_with (refine ⟨trivial, ?_⟩; gi_at_call 47; refine (callsIn_wide.2 (hb.out _)).mono ?_; rintro e w' ⟨rfl, rfl⟩)
              refine hR.mono ?_
              rintro e W3 (⟨rfl, hJ3, hk3⟩ | ⟨rfl, hJx3⟩)
              · gi_wp2
                go_roundw
                case rel => exact ⟨j + 1, pre ++ [(i, (B l).extract i j)], by simp, by omega, Lib.hid (by rw [hs3.out]; simp), hJ3, hk3.trans hk⟩
                case measure => simp [intOf]; omega
              · gi_wp2
                refine bodyPost_ret (results_none rfl _ _ _) rfl ?_
                exact ⟨⟨_, rfl⟩, .inr ⟨pre ++ [(i, (B l).extract i j)], ⟨_, by rw [hs3.out]; simp; rfl⟩, hJx3⟩⟩
            · rw [if_neg hp, List.nil_append] at hst
              have hs3 : Hid (S = pre ++ eachA (j + 1) [] (j + 1) (l.drop (j + 1))) := by have := hs.out; rw [hst] at this; exact this
              clear hst
              gi_wp2_with (refine ⟨trivial, ?_⟩; gi_at_call 47; refine (callsIn_wide.2 (hb.out _)).mono ?_; rintro e w' ⟨rfl, rfl⟩)
              refine ⟨fun _ h => (by cases h), ?_⟩
              gi_wp2
              go_roundw
              case rel => exact ⟨j + 1, pre, by simp, by omega, hs3, hJ, hk⟩
              case measure => simp [intOf]; omega
          · have hbl0 : blankU l[j] = false := by simpa using hbl
            rw [hbl0] at hb
            have hbl' := Lib.hid hbl0
            clear hbl hbl0
            gi_wp2_with (refine ⟨trivial, ?_⟩; gi_at_call 47; refine (callsIn_wide.2 (hb.out _)).mono ?_; rintro e w' ⟨rfl, rfl⟩)
            go_roundw
            case rel => exact ⟨j + 1, by simp, by omega, by omega, Lib.hid (by
              intro k hk h1 h2
              by_cases e : k = j
              · subst e; exact hbl'.out
              · exact hall.out k hk h1 (by omega)), trivial⟩
            case measure => simp [intOf]; omega
        · have hst := each_step l i j hij hjl hall.out (fun h => absurd h hjt)
          by_cases hp : i < j
          · rw [if_pos hp] at hst
            have hs2 : S = pre ++ ((i, (B l).extract i j) :: eachA (j + 1) [] (j + 1) (l.drop (j + 1))) := by rw [hs.out, hst, B_extract]; rfl
            obtain ⟨fn, tmps, assign, body, hy, hR⟩ := hY pre (i, (B l).extract i j) wr hJ (by rw [hs2]; simp)
            dsimp only at hy
            have hs3 := Lib.hid hs2
            clear hs2 hst
            gi_wp2; refine ⟨trivial, ?_⟩; gi_wp2
            refine hR.mono ?_
            rintro e W3 (⟨rfl, hJ3, hk3⟩ | ⟨rfl, hJx3⟩)
            · gi_wp2
              go_roundw
              case rel => exact ⟨j + 1, pre ++ [(i, (B l).extract i j)], by simp, by omega, Lib.hid (by rw [hs3.out]; simp), hJ3, hk3.trans hk⟩
              case measure => simp [intOf]; omega
            · gi_wp2
              refine bodyPost_ret (results_none rfl _ _ _) rfl ?_
              exact ⟨⟨_, rfl⟩, .inr ⟨pre ++ [(i, (B l).extract i j)], ⟨_, by rw [hs3.out]; simp; rfl⟩, hJx3⟩⟩
          · omega
    · gi_wp2
      go_end0
      refine ⟨⟨_, rfl⟩, .inl ⟨pre, ?_, hJ⟩⟩
      have := hs.out
      rw [this, List.drop_eq_nil_of_le (by omega)]
      simp [eachA]

/-- What a range over words.Each(l) comes to. -/
theorem each_stops (n : Nat) (hn : 3 ≤ n) (Bs : Nat) (l : List UInt8) (hl : l.length ≤ 4611686018427387000) (w : World) (hBs : Bs < w.heap.size) (hc : w.cell? ⟨Bs, 0, none⟩ = some (.string (B l))) :
    SeqStopsK .wide n Tryd.prog 46 #[.pointer (some ⟨Bs, 0, none⟩)] (fun x : Nat × ByteArray => #[Value.int .i64 (x.1 : Int), Value.string x.2]) (Kc Bs) (fun ys => ys = eachS l) (fun pre => pre <+: eachS l) (eachS l).length w :=
  fun lo J Jx W hW _ _ hY h0 => each_in n hn lo Bs l hl J Jx hY W ((hW.cell (p := ⟨Bs, 0, none⟩) hBs).trans hc) h0

theorem each_le (l : List UInt8) : ∀ (beg : Nat) (cur : List UInt8) (i : Nat), (eachA beg cur i l).length ≤ l.length + 1 := by
  induction l with
  | nil => intro beg cur i; rw [eachA]; split <;> simp
  | cons b r ih =>
    intro beg cur i
    rw [eachA]
    split
    · split
      · have := ih (i + 1) [] (i + 1); simp; omega
      · have := ih (i + 1) [] (i + 1); simp; omega
    · have := ih beg (cur ++ [b]) (i + 1); simp; omega
theorem eachS_le (l : List UInt8) : (eachS l).length ≤ l.length + 1 := each_le l 0 [] 0

set_option maxRecDepth 100000 in
set_option maxHeartbeats 1000000 in
/-- words.Each: the text is boxed; the function value holds the box. -/
theorem each_made (n : Nat) (s : ByteArray) (w : World) :
    CallsIn .wide n Tryd.prog 20 #[.string s] w fun e w' => e = .returned (.func (.func 46) #[] #[.pointer (some ⟨w.heap.size, 0, none⟩)]) ∧ w' = w.alloc (.cells #[.string s] 9) := by
  refine callsIn_of_wp Tryd.func20 rfl trivial ?_ rfl
  simp only [Tryd.ntmps20, List.size_toArray, List.length_cons, List.length_nil, Nat.reduceAdd, Nat.reduceSub, Array.replicate_succ, Array.replicate_zero, List.push_toArray, List.append_toArray, List.nil_append, List.cons_append]
  gi_wp2
  go_ret
  exact ⟨rfl, rfl⟩
end Go.Proofs.YtcadgnaejjgdnaaDoor.X
