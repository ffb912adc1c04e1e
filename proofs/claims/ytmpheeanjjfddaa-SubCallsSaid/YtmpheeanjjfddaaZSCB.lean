/- Texts of this claim, one behind the other (merged by the session's own program merge.py: a claim bears sixty files): XW05x4, XW05x5, XW05x6, XW05x, PLexD, PLexE, PLexF, PSubB, HReader, HCmd. -/
import Derived.WalkKit
import Derived.Lib.Hide
import Derived.Deep.Heap
import Derived.Deep.LoopGhost
import Derived.Deep.RegionLaw
import Derived.BigRegion
import Derived.RangeFuncBox
import Derived.Test.YtmpheeanjjfddaaZSCA
/- Laid for this claim by the session's own program xprint.py, over the print of the kit: functions of the program as plain Lean functions, each with a proof that a call comes to what its function says, or the row of a law out of these; no condition of its own. -/
namespace Go.Proofs.Ytmpheeanjjfddaa.XW05
open Go.Proofs.Ytmpheeanjjfddaa.X Go.Proofs.Ytmpheeanjjfddaa.XT06 Go.RowKit Go.Proofs.YtmpheeanjjfddaaW.PrintWords Go.Proofs.YtmpheeanjjfddaaW.PrintLast Go.Proofs.YtmpheeanjjfddaaW.PrintMore
attribute [local go_sem] cell4_1 cell4_1d max2_int min2_int max_two min_two max_three min_three max_four min_four   -- for this text's walks alone
set_option linter.unusedVariables false
set_option linter.unusedSimpArgs false

/-! ### flatironref19_Is: function 20 -/
def flatironref19_Is.l0 : Nat → List (S132) → ByteArray → Int → Option (Bool)
  | 0, _, _, _ => none
  | k + 1, x0, x1, x5 => if x5 < (x0.length : Int) then (if 0 ≤ x5 then (if (((rd_T132 x0 x5).f1).length : Int) > 0 then (if 0 < (((rd_T132 x0 x5).f1).length : Int) then (if (rdOf ByteArray.empty ((rd_T132 x0 x5).f1) 0).toList = x1.toList then (some true) else (flatironref19_Is.l0 k x0 x1 (wrap64 (x5 + 1)))) else (none)) else (flatironref19_Is.l0 k x0 x1 (wrap64 (x5 + 1)))) else (none)) else (some false)
def flatironref19_Is.f (k : Nat) (l0 : List (S132)) (a1 : ByteArray) : Option (Bool) := flatironref19_Is.l0 k l0 a1 0
theorem flatironref19_Is.mono_l : ∀ k, (∀ y0 y1 y2, LeO (flatironref19_Is.l0 k y0 y1 y2) (flatironref19_Is.l0 (k + 1) y0 y1 y2))
  | 0 => fun _ _ _ r h => by simp [flatironref19_Is.l0] at h
  | k + 1 => by
    have ih0 := flatironref19_Is.mono_l k
    · intro y0 y1 y2
      unfold flatironref19_Is.l0
      repeat' first
      | (with_reducible exact ih0 _ _ _)
      | (with_reducible exact LeO.refl _)
      | (with_reducible exact LeO.none _)
      | (with_reducible refine LeO.ite ?_ ?_)
      | (with_reducible refine LeO.bind ?_ (fun _ => ?_))
      | exact ih0 _ _ _
      | exact LeO.none _
      | refine LeO.ite ?_ ?_
      | refine LeO.bind ?_ (fun _ => ?_)
theorem flatironref19_Is.mono : ∀ a0 a1 k, LeO (flatironref19_Is.f k a0 a1) (flatironref19_Is.f (k + 1) a0 a1) := by
  intro a0 a1 k
  have ih0 := flatironref19_Is.mono_l k
  unfold flatironref19_Is.f
  repeat' first
      | (with_reducible exact ih0 _ _ _)
      | (with_reducible exact LeO.refl _)
      | (with_reducible exact LeO.none _)
      | (with_reducible refine LeO.ite ?_ ?_)
      | (with_reducible refine LeO.bind ?_ (fun _ => ?_))
      | exact ih0 _ _ _
      | exact LeO.none _
      | refine LeO.ite ?_ ?_
      | refine LeO.bind ?_ (fun _ => ?_)
set_option maxHeartbeats 8000000 in
set_option maxRecDepth 100000 in
theorem flatironref19_Is.calls (k : Nat) (A0 : Option Addr) (c0 : Nat) (l0 : List (S132)) (a1 : ByteArray) (r : Bool) (w : World) (hr0 : Kd.C k132 w A0 l0.length l0) (hc0 : l0.length ≤ c0) (h : flatironref19_Is.f k l0 a1 = some r) :
    Calls Try.prog 20 #[.slice A0 l0.length c0, .string a1] w fun e w' => e = .returned (.bool r) ∧ Drawn0 w w' := by
  have HR0 := Aside0.mk hr0
  have HC0 := Aside0.mk hc0
  clear hr0 hc0
  have H : (flatironref19_Is.l0 k l0 a1 0) = some r := h
  clear h
  have H' := Aside0.mk H
  clear H
  go_enter Try.func20, Try.ntmps20
  go_wp2
  go_loopg [5] k (fun kq v5 w' => ∃ (x5_1 : Int), v5 = .int .i64 x5_1 ∧ Aside0 (flatironref19_Is.l0 kq l0 a1 x5_1 = some r) ∧ Aside0 (kq ≤ k) ∧ Drawn0 w w')
  case atStart => exact ⟨(0), (by first | rfl | (simp; done) | (simp [*]; done)), H', ⟨Nat.le_refl _⟩, by repeat (first | exact Drawn0.refl _ | apply Drawn0.step)⟩
  case round =>
    clear H'
    try clear c2
    try clear p2
    obtain ⟨x5_1, rfl, HA, HK1, ⟨m1, rfl⟩⟩ := hrel
    cases gk with
    | zero => exact absurd HA.out (by simp [flatironref19_Is.l0])
    | succ k1 =>
      have H := HA.out
      clear HA
      simp only [flatironref19_Is.l0] at H
      by_cases c3 : x5_1 < (l0.length : Int)
      · rw [if_pos c3] at H
        have c3b0 : decide (x5_1 < (l0.length : Int)) = true := decide_eq_true c3
        clear c3
        by_cases c4 : 0 ≤ x5_1
        · rw [if_pos c4] at H
          have c4b0 : decide (0 ≤ x5_1) = true := decide_eq_true c4
          clear c4
          by_cases c5 : (((rd_T132 l0 x5_1).f1).length : Int) > 0
          · rw [if_pos c5] at H
            have c5b0 : decide (0 < (((rd_T132 l0 x5_1).f1).length : Int)) = true := decide_eq_true c5
            have c5b1 : decide (0 < ((rd_T132 l0 x5_1).f1).length) = true := decide_eq_true (by omega)
            clear c5
            by_cases c6 : 0 < (((rd_T132 l0 x5_1).f1).length : Int)
            · rw [if_pos c6] at H
              have c6b0 : decide (0 < (((rd_T132 l0 x5_1).f1).length : Int)) = true := decide_eq_true c6
              have c6b1 : decide (0 < ((rd_T132 l0 x5_1).f1).length) = true := decide_eq_true (by omega)
              clear c6
              by_cases c7 : (rdOf ByteArray.empty ((rd_T132 l0 x5_1).f1) 0).toList = a1.toList
              · rw [if_pos c7] at H
                have c7b0 : ((rdOf ByteArray.empty ((rd_T132 l0 x5_1).f1) 0).toList == a1.toList) = true := beq_iff_eq.mpr c7
                have c7b1 : ((rdOf ByteArray.empty ((rd_T132 l0 x5_1).f1) 0).toList != a1.toList) = false := bne_eq_false_iff_eq.mpr c7
                clear c7
                obtain rfl := Option.some.inj H
                have p130 : 0 ≤ (x5_1 : Int) := of_decide_eq_true (by first | (with_reducible assumption) | assumption)
                have q130 : x5_1 < (l0.length : Int) := of_decide_eq_true (by first | (with_reducible assumption) | assumption)
                obtain ⟨ad130, A130_1, c130_1, A130_2, c130_2, e130, hx130_0, hx130_1, hx130_2, hl130_1, hi130_1, hl130_2, hi130_2⟩ := at_T132 HR0.out x5_1 p130 q130
                cases e130
                have HR130_1 := Aside0.mk hi130_1
                have HC130_1 := Aside0.mk hl130_1
                clear hi130_1 hl130_1
                have HR130_2 := Aside0.mk hi130_2
                have HC130_2 := Aside0.mk hl130_2
                clear hi130_2 hl130_2
                replace p130 := eq_true p130
                replace q130 := eq_true q130
                have p131 : 0 ≤ (x5_1 : Int) := of_decide_eq_true (by first | (with_reducible assumption) | assumption)
                have q131 : x5_1 < (l0.length : Int) := of_decide_eq_true (by first | (with_reducible assumption) | assumption)
                obtain ⟨ad131, A131_1, c131_1, A131_2, c131_2, e131, hx131_0, hx131_1, hx131_2, hl131_1, hi131_1, hl131_2, hi131_2⟩ := at_T132 HR0.out x5_1 p131 q131
                obtain rfl : ad130 = ad131 := (by injection e131)
                have HR131_1 := Aside0.mk hi131_1
                have HC131_1 := Aside0.mk hl131_1
                clear hi131_1 hl131_1
                have HR131_2 := Aside0.mk hi131_2
                have HC131_2 := Aside0.mk hl131_2
                clear hi131_2 hl131_2
                replace p131 := eq_true p131
                replace q131 := eq_true q131
                have ea_ := Option.some.inj (hx130_1.symm.trans hx131_1)
                injection ea_ with ea_ en_ ec_
                subst ea_
                subst ec_
                clear en_
                have ea_ := Option.some.inj (hx130_2.symm.trans hx131_2)
                injection ea_ with ea_ en_ ec_
                subst ea_
                subst ec_
                clear en_
                have p132 : 0 ≤ (0 : Int) := (by omega)
                have q132 : 0 < (((rd_T132 l0 x5_1).f1).length : Int) := of_decide_eq_true (by first | (with_reducible assumption) | assumption)
                obtain ⟨ad132, e132, hx132_0⟩ := Kd.at_string HR131_1.out 0 p132 q132
                cases e132
                have qi132 : (0 < ((rd_T132 l0 x5_1).f1).length) = True := eq_true (by omega)
                (try rw [show ((0 : Int)).toNat = 0 from rfl] at hx132_0)
                (try rw [Addr.add_zero'] at hx132_0)
                replace p132 := eq_true p132
                replace q132 := eq_true q132
                go_wp2
                go_ret
                exact ⟨by first | rfl | (simp; done) | (simp [*]; done), by repeat (first | exact Drawn0.refl _ | apply Drawn0.step)⟩
              · rw [if_neg c7] at H
                have c7b0 : ((rdOf ByteArray.empty ((rd_T132 l0 x5_1).f1) 0).toList == a1.toList) = false := beq_eq_false_iff_ne.mpr c7
                have c7b1 : ((rdOf ByteArray.empty ((rd_T132 l0 x5_1).f1) 0).toList != a1.toList) = true := bne_iff_ne.mpr c7
                have H' := Aside0.mk H
                clear H
                have p130 : 0 ≤ (x5_1 : Int) := of_decide_eq_true (by first | (with_reducible assumption) | assumption)
                have q130 : x5_1 < (l0.length : Int) := of_decide_eq_true (by first | (with_reducible assumption) | assumption)
                obtain ⟨ad130, A130_1, c130_1, A130_2, c130_2, e130, hx130_0, hx130_1, hx130_2, hl130_1, hi130_1, hl130_2, hi130_2⟩ := at_T132 HR0.out x5_1 p130 q130
                cases e130
                have HR130_1 := Aside0.mk hi130_1
                have HC130_1 := Aside0.mk hl130_1
                clear hi130_1 hl130_1
                have HR130_2 := Aside0.mk hi130_2
                have HC130_2 := Aside0.mk hl130_2
                clear hi130_2 hl130_2
                replace p130 := eq_true p130
                replace q130 := eq_true q130
                have p131 : 0 ≤ (x5_1 : Int) := of_decide_eq_true (by first | (with_reducible assumption) | assumption)
                have q131 : x5_1 < (l0.length : Int) := of_decide_eq_true (by first | (with_reducible assumption) | assumption)
                obtain ⟨ad131, A131_1, c131_1, A131_2, c131_2, e131, hx131_0, hx131_1, hx131_2, hl131_1, hi131_1, hl131_2, hi131_2⟩ := at_T132 HR0.out x5_1 p131 q131
                obtain rfl : ad130 = ad131 := (by injection e131)
                have HR131_1 := Aside0.mk hi131_1
                have HC131_1 := Aside0.mk hl131_1
                clear hi131_1 hl131_1
                have HR131_2 := Aside0.mk hi131_2
                have HC131_2 := Aside0.mk hl131_2
                clear hi131_2 hl131_2
                replace p131 := eq_true p131
                replace q131 := eq_true q131
                have ea_ := Option.some.inj (hx130_1.symm.trans hx131_1)
                injection ea_ with ea_ en_ ec_
                subst ea_
                subst ec_
                clear en_
                have ea_ := Option.some.inj (hx130_2.symm.trans hx131_2)
                injection ea_ with ea_ en_ ec_
                subst ea_
                subst ec_
                clear en_
                have p132 : 0 ≤ (0 : Int) := (by omega)
                have q132 : 0 < (((rd_T132 l0 x5_1).f1).length : Int) := of_decide_eq_true (by first | (with_reducible assumption) | assumption)
                obtain ⟨ad132, e132, hx132_0⟩ := Kd.at_string HR131_1.out 0 p132 q132
                cases e132
                have qi132 : (0 < ((rd_T132 l0 x5_1).f1).length) = True := eq_true (by omega)
                (try rw [show ((0 : Int)).toNat = 0 from rfl] at hx132_0)
                (try rw [Addr.add_zero'] at hx132_0)
                replace p132 := eq_true p132
                replace q132 := eq_true q132
                go_wp2
                go_roundg k1
                case measure => have := HK1.out; omega
                case rel => exact ⟨(wrap64 (x5_1 + 1)), (by first | rfl | (simp; done) | (simp [*]; done)), H', ⟨by have := HK1.out; omega⟩, by repeat (first | exact Drawn0.refl _ | apply Drawn0.step)⟩
            · rw [if_neg c6] at H
              exact absurd H (by simp)
          · rw [if_neg c5] at H
            have c5b0 : decide (0 < (((rd_T132 l0 x5_1).f1).length : Int)) = false := decide_eq_false c5
            have c5b1 : decide (0 < ((rd_T132 l0 x5_1).f1).length) = false := decide_eq_false (by omega)
            clear c5
            have H' := Aside0.mk H
            clear H
            have p130 : 0 ≤ (x5_1 : Int) := of_decide_eq_true (by first | (with_reducible assumption) | assumption)
            have q130 : x5_1 < (l0.length : Int) := of_decide_eq_true (by first | (with_reducible assumption) | assumption)
            obtain ⟨ad130, A130_1, c130_1, A130_2, c130_2, e130, hx130_0, hx130_1, hx130_2, hl130_1, hi130_1, hl130_2, hi130_2⟩ := at_T132 HR0.out x5_1 p130 q130
            cases e130
            have HR130_1 := Aside0.mk hi130_1
            have HC130_1 := Aside0.mk hl130_1
            clear hi130_1 hl130_1
            have HR130_2 := Aside0.mk hi130_2
            have HC130_2 := Aside0.mk hl130_2
            clear hi130_2 hl130_2
            replace p130 := eq_true p130
            replace q130 := eq_true q130
            go_wp2
            go_roundg k1
            case measure => have := HK1.out; omega
            case rel => exact ⟨(wrap64 (x5_1 + 1)), (by first | rfl | (simp; done) | (simp [*]; done)), H', ⟨by have := HK1.out; omega⟩, by repeat (first | exact Drawn0.refl _ | apply Drawn0.step)⟩
        · rw [if_neg c4] at H
          exact absurd H (by simp)
      · rw [if_neg c3] at H
        have c3b0 : decide (x5_1 < (l0.length : Int)) = false := decide_eq_false c3
        clear c3
        obtain rfl := Option.some.inj H
        go_wp2
        go_ret
        exact ⟨by first | rfl | (simp; done) | (simp [*]; done), by repeat (first | exact Drawn0.refl _ | apply Drawn0.step)⟩

/-! ### flatironref19_set: function 49 -/
mutual
def flatironref19_set.l0 : Nat → ByteArray → Int → Option (ByteArray × ByteArray × Bool)
  | 0, _, _ => none
  | k + 1, x0, x4 => if x4 < (x0.size : Int) then (if 0 ≤ x4 then (if (bt x0 x4) = 32 then (flatironref19_set.j1 k x0 x4 (bt x0 x4) ((bt x0 x4) == 32)) else (if (bt x0 x4) = 9 then (flatironref19_set.j1 k x0 x4 (bt x0 x4) ((bt x0 x4) == 9)) else (if (bt x0 x4) = 10 then (flatironref19_set.j1 k x0 x4 (bt x0 x4) ((bt x0 x4) == 10)) else (if (bt x0 x4) = 58 then (flatironref19_set.j1 k x0 x4 (bt x0 x4) ((bt x0 x4) == 58)) else (if (bt x0 x4) = 35 then (flatironref19_set.j1 k x0 x4 (bt x0 x4) ((bt x0 x4) == 35)) else (flatironref19_set.j1 k x0 x4 (bt x0 x4) ((bt x0 x4) == 36))))))) else (none)) else (some ((⟨#[]⟩ : ByteArray), (⟨#[]⟩ : ByteArray), false))
def flatironref19_set.j1 : Nat → ByteArray → Int → Int → Bool → Option (ByteArray × ByteArray × Bool)
  | 0, _, _, _, _ => none
  | k + 1, x0, x4, x13, x14 => if x14 = true then (some ((⟨#[]⟩ : ByteArray), (⟨#[]⟩ : ByteArray), false)) else (if x13 = 61 then (if 0 ≤ x4 then (if x4 ≤ (x0.size : Int) then (if 0 ≤ (wrap64 (x4 + 1)) then (if (wrap64 (x4 + 1)) ≤ (x0.size : Int) then (some (x0.extract 0 (x4 : Int).toNat, x0.extract ((wrap64 (x4 + 1)) : Int).toNat x0.size, decide (x4 > 0))) else (none)) else (none)) else (none)) else (none)) else (flatironref19_set.l0 k x0 (wrap64 (x4 + 1))))
end
def flatironref19_set.f (k : Nat) (a0 : ByteArray) : Option (ByteArray × ByteArray × Bool) := flatironref19_set.l0 k a0 0
theorem flatironref19_set.mono_l : ∀ k, (∀ y0 y1, LeO (flatironref19_set.l0 k y0 y1) (flatironref19_set.l0 (k + 1) y0 y1)) ∧ (∀ y0 y1 y2 y3, LeO (flatironref19_set.j1 k y0 y1 y2 y3) (flatironref19_set.j1 (k + 1) y0 y1 y2 y3))
  | 0 => ⟨fun _ _ r h => by simp [flatironref19_set.l0] at h, fun _ _ _ _ r h => by simp [flatironref19_set.j1] at h⟩
  | k + 1 => by
    obtain ⟨ih0, ih1⟩ := flatironref19_set.mono_l k
    refine ⟨?_, ?_⟩
    · intro y0 y1
      unfold flatironref19_set.l0
      repeat' first
      | (with_reducible exact ih0 _ _)
      | (with_reducible exact ih1 _ _ _ _)
      | (with_reducible exact LeO.refl _)
      | (with_reducible exact LeO.none _)
      | (with_reducible refine LeO.ite ?_ ?_)
      | (with_reducible refine LeO.bind ?_ (fun _ => ?_))
      | exact ih0 _ _
      | exact ih1 _ _ _ _
      | exact LeO.none _
      | refine LeO.ite ?_ ?_
      | refine LeO.bind ?_ (fun _ => ?_)
    · intro y0 y1 y2 y3
      unfold flatironref19_set.j1
      repeat' first
      | (with_reducible exact ih0 _ _)
      | (with_reducible exact ih1 _ _ _ _)
      | (with_reducible exact LeO.refl _)
      | (with_reducible exact LeO.none _)
      | (with_reducible refine LeO.ite ?_ ?_)
      | (with_reducible refine LeO.bind ?_ (fun _ => ?_))
      | exact ih0 _ _
      | exact ih1 _ _ _ _
      | exact LeO.none _
      | refine LeO.ite ?_ ?_
      | refine LeO.bind ?_ (fun _ => ?_)
theorem flatironref19_set.mono : ∀ a0 k, LeO (flatironref19_set.f k a0) (flatironref19_set.f (k + 1) a0) := by
  intro a0 k
  obtain ⟨ih0, ih1⟩ := flatironref19_set.mono_l k
  unfold flatironref19_set.f
  repeat' first
      | (with_reducible exact ih0 _ _)
      | (with_reducible exact ih1 _ _ _ _)
      | (with_reducible exact LeO.refl _)
      | (with_reducible exact LeO.none _)
      | (with_reducible refine LeO.ite ?_ ?_)
      | (with_reducible refine LeO.bind ?_ (fun _ => ?_))
      | exact ih0 _ _
      | exact ih1 _ _ _ _
      | exact LeO.none _
      | refine LeO.ite ?_ ?_
      | refine LeO.bind ?_ (fun _ => ?_)
def flatironref19_set.T13 : Bool × List (List Nat × List Nat) := (true, [([], []), ([], []), ([0, 1], [0, 1]), ([], []), ([], []), ([4], [4]), ([3, 5], [3, 5]), ([2, 6], [2, 6]), ([], []), ([8], [8]), ([7, 0, 1, 2, 3, 4, 5, 6, 7], [7]), ([9, 10, 0, 1, 2, 3, 4, 5, 6, 7, 8, 9, 10], [9])])
def flatironref19_set.B13 : List Nat := [0, 0, 3, 0, 0, 16, 56, 127, 0, 256, 255, 2047]
theorem flatironref19_set.tab13 : rtab .any (opsOf Try.f49 13) = flatironref19_set.T13 := by kernel_rfl
theorem flatironref19_set.bits13 : waitsOk flatironref19_set.T13.2 flatironref19_set.B13 = true := by kernel_rfl
set_option maxHeartbeats 8000000 in
set_option maxRecDepth 100000 in
theorem flatironref19_set.calls (k : Nat) (a0 : ByteArray) (r1 : ByteArray) (r2 : ByteArray) (r3 : Bool) (w : World) (h : flatironref19_set.f k a0 = some (r1, r2, r3)) :
    Calls Try.prog 49 #[.string a0] w fun e w' => e = .returned (.tuple #[.agg #[.string r1, .string r2], .bool r3]) ∧ Below w.heap.size w w' := by
  have hu69 := Try.underlying69
  have HB := Aside0.mk (Below.refl w.heap.size w)
  have H : (flatironref19_set.l0 k a0 0) = some (r1, r2, r3) := h
  clear h
  have H' := Aside0.mk H
  clear H
  go_enter Try.func49, Try.ntmps49
  go_wp2_with (first | ((with_reducible refine gate_dst (N := 2) rfl ?_); refine box_event ?hg (N := 2) ?hd (cs := #[.string (⟨#[]⟩ : ByteArray), .string (⟨#[]⟩ : ByteArray)]) (t := 69) ?hr ?_; (case hd => rfl); (case hg => rfl); (case hr => first | (go_simp; done) | (go_simp; rfl)); intro gb133 hg w2 hbox hb; have n0_ := Aside0.mk (below_step (by repeat (first | (with_reducible first | exact HB.out | apply below_alloc | apply pw_below_drewN | apply below_drew1) | exact HB.out)) hb); have n1_ := Aside0.mk (hbox); have n2_ := Aside0.mk ((by rw [hg]; exact (below_size (by repeat (first | (with_reducible first | exact HB.out | apply below_alloc | apply pw_below_drewN | apply below_drew1) | exact HB.out))) : w.heap.size ≤ gb133)); have n3_ := Aside0.mk ((by rw [hg]; exact (below_size (by repeat (first | (with_reducible first | exact HB.out | apply below_alloc | apply pw_below_drewN | apply below_drew1) | exact HB.out))) : w.heap.size ≤ gb133)); clear HB; have HB := n0_; have BK133 := n1_; have GW133 := n2_; have GE133 := n3_; clear n0_ n1_ n2_ n3_; clear hb hbox hg))
  go_loopg [4] k (fun kq v4 w' => ∃ (x4_1 : Int) (x134000_1 : ByteArray) (x134001_1 : ByteArray), v4 = .int .i64 x4_1 ∧ Aside0 (flatironref19_set.l0 kq a0 x4_1 = some (r1, r2, r3)) ∧ Aside0 (kq ≤ k) ∧ Aside0 (w'.heap[gb133]? = some (.cells #[.string x134000_1, .string x134001_1] 69 (0, 0))) ∧ Aside0 (Below w.heap.size w w'))
  case atStart => exact ⟨(0), ((⟨#[]⟩ : ByteArray)), ((⟨#[]⟩ : ByteArray)), (by first | rfl | (simp; done) | (simp [*]; done)), H', ⟨Nat.le_refl _⟩, ⟨by (with_reducible repeat (first | refine blk_drewN ?_ _ | refine blk_drew ?_ | refine blk_alloc ?_ _)); exact BK133.out⟩, ⟨by repeat (first | (with_reducible first | exact HB.out | apply below_alloc | apply pw_below_drewN | apply below_drew1 | refine below_set ?_ GE133.out) | exact HB.out)⟩⟩
  case round =>
    clear H'
    try clear p2
    obtain ⟨x4_1, x134000_1, x134001_1, rfl, HA, HK1, BK133, HB⟩ := hrel
    cases gk with
    | zero => exact absurd HA.out (by simp [flatironref19_set.l0])
    | succ k1 =>
      have H := HA.out
      clear HA
      simp only [flatironref19_set.l0] at H
      by_cases c3 : x4_1 < (a0.size : Int)
      · rw [if_pos c3] at H
        have c3b0 : decide (x4_1 < (a0.size : Int)) = true := decide_eq_true c3
        clear c3
        by_cases c4 : 0 ≤ x4_1
        · rw [if_pos c4] at H
          have c4b0 : decide (0 ≤ x4_1) = true := decide_eq_true c4
          clear c4
          have HC6 := Aside0.mk H
          clear H
          have p5 : 0 ≤ (x4_1 : Int) := of_decide_eq_true (by first | (with_reducible assumption) | assumption)
          have q5 : x4_1 < (a0.size : Int) := of_decide_eq_true (by first | (with_reducible assumption) | assumption)
          have hx5 := bt_at a0 x4_1
          replace p5 := eq_true p5
          replace q5 := eq_true q5
          go_upto_if 14 with (fail)
          go_cut [14] (fun v14 wc => ∃ (kq : Nat) (x14_5 : Bool), v14 = .bool x14_5 ∧ Aside0 (flatironref19_set.j1 kq a0 x4_1 (bt a0 x4_1) x14_5 = some (r1, r2, r3)) ∧ Aside0 (kq ≤ k1) ∧ Aside0 (wc.heap[gb133]? = some (.cells #[.string x134000_1, .string x134001_1] 69 (0, 0))) ∧ Aside0 (Below w.heap.size w wc))
          case first =>
            have H := HC6.out
            clear HC6
            by_cases c7 : (bt a0 x4_1) = 32
            · rw [if_pos c7] at H
              have c7b0 : ((bt a0 x4_1) == 32) = true := beq_iff_eq.mpr c7
              have c7b1 : ((bt a0 x4_1) != 32) = false := bne_eq_false_iff_eq.mpr c7
              clear c7
              (first | rw [c7b0] | (simp only [i64_w, i32_w]; rw [c7b0]) | skip)
              have H' := Aside0.mk H
              clear H
              go_wp2
              go_meet
              case rel => exact ⟨_, (((bt a0 x4_1) == 32)), (by first | rfl | (simp; done) | (simp [*]; done)), H', ⟨by have := HK1.out; first | omega | exact Nat.le_refl _⟩, ⟨by (with_reducible repeat (first | refine blk_drewN ?_ _ | refine blk_drew ?_ | refine blk_alloc ?_ _)); exact BK133.out⟩, ⟨by repeat (first | (with_reducible first | exact HB.out | apply below_alloc | apply pw_below_drewN | apply below_drew1 | refine below_set ?_ GE133.out) | exact HB.out)⟩⟩
            · rw [if_neg c7] at H
              have c7b0 : ((bt a0 x4_1) == 32) = false := beq_eq_false_iff_ne.mpr c7
              have c7b1 : ((bt a0 x4_1) != 32) = true := bne_iff_ne.mpr c7
              (first | rw [c7b0] | (simp only [i64_w, i32_w]; rw [c7b0]) | skip)
              by_cases c8 : (bt a0 x4_1) = 9
              · rw [if_pos c8] at H
                have c8b0 : ((bt a0 x4_1) == 9) = true := beq_iff_eq.mpr c8
                have c8b1 : ((bt a0 x4_1) != 9) = false := bne_eq_false_iff_eq.mpr c8
                clear c8
                have H' := Aside0.mk H
                clear H
                go_wp2
                go_meet
                case rel => exact ⟨_, (((bt a0 x4_1) == 9)), (by first | rfl | (simp; done) | (simp [*]; done)), H', ⟨by have := HK1.out; first | omega | exact Nat.le_refl _⟩, ⟨by (with_reducible repeat (first | refine blk_drewN ?_ _ | refine blk_drew ?_ | refine blk_alloc ?_ _)); exact BK133.out⟩, ⟨by repeat (first | (with_reducible first | exact HB.out | apply below_alloc | apply pw_below_drewN | apply below_drew1 | refine below_set ?_ GE133.out) | exact HB.out)⟩⟩
              · rw [if_neg c8] at H
                have c8b0 : ((bt a0 x4_1) == 9) = false := beq_eq_false_iff_ne.mpr c8
                have c8b1 : ((bt a0 x4_1) != 9) = true := bne_iff_ne.mpr c8
                by_cases c9 : (bt a0 x4_1) = 10
                · rw [if_pos c9] at H
                  have c9b0 : ((bt a0 x4_1) == 10) = true := beq_iff_eq.mpr c9
                  have c9b1 : ((bt a0 x4_1) != 10) = false := bne_eq_false_iff_eq.mpr c9
                  clear c9
                  have H' := Aside0.mk H
                  clear H
                  go_wp2
                  go_meet
                  case rel => exact ⟨_, (((bt a0 x4_1) == 10)), (by first | rfl | (simp; done) | (simp [*]; done)), H', ⟨by have := HK1.out; first | omega | exact Nat.le_refl _⟩, ⟨by (with_reducible repeat (first | refine blk_drewN ?_ _ | refine blk_drew ?_ | refine blk_alloc ?_ _)); exact BK133.out⟩, ⟨by repeat (first | (with_reducible first | exact HB.out | apply below_alloc | apply pw_below_drewN | apply below_drew1 | refine below_set ?_ GE133.out) | exact HB.out)⟩⟩
                · rw [if_neg c9] at H
                  have c9b0 : ((bt a0 x4_1) == 10) = false := beq_eq_false_iff_ne.mpr c9
                  have c9b1 : ((bt a0 x4_1) != 10) = true := bne_iff_ne.mpr c9
                  by_cases c10 : (bt a0 x4_1) = 58
                  · rw [if_pos c10] at H
                    have c10b0 : ((bt a0 x4_1) == 58) = true := beq_iff_eq.mpr c10
                    have c10b1 : ((bt a0 x4_1) != 58) = false := bne_eq_false_iff_eq.mpr c10
                    clear c10
                    have H' := Aside0.mk H
                    clear H
                    go_wp2
                    go_meet
                    case rel => exact ⟨_, (((bt a0 x4_1) == 58)), (by first | rfl | (simp; done) | (simp [*]; done)), H', ⟨by have := HK1.out; first | omega | exact Nat.le_refl _⟩, ⟨by (with_reducible repeat (first | refine blk_drewN ?_ _ | refine blk_drew ?_ | refine blk_alloc ?_ _)); exact BK133.out⟩, ⟨by repeat (first | (with_reducible first | exact HB.out | apply below_alloc | apply pw_below_drewN | apply below_drew1 | refine below_set ?_ GE133.out) | exact HB.out)⟩⟩
                  · rw [if_neg c10] at H
                    have c10b0 : ((bt a0 x4_1) == 58) = false := beq_eq_false_iff_ne.mpr c10
                    have c10b1 : ((bt a0 x4_1) != 58) = true := bne_iff_ne.mpr c10
                    by_cases c11 : (bt a0 x4_1) = 35
                    · rw [if_pos c11] at H
                      have c11b0 : ((bt a0 x4_1) == 35) = true := beq_iff_eq.mpr c11
                      have c11b1 : ((bt a0 x4_1) != 35) = false := bne_eq_false_iff_eq.mpr c11
                      clear c11
                      have H' := Aside0.mk H
                      clear H
                      go_wp2
                      go_meet
                      case rel => exact ⟨_, (((bt a0 x4_1) == 35)), (by first | rfl | (simp; done) | (simp [*]; done)), H', ⟨by have := HK1.out; first | omega | exact Nat.le_refl _⟩, ⟨by (with_reducible repeat (first | refine blk_drewN ?_ _ | refine blk_drew ?_ | refine blk_alloc ?_ _)); exact BK133.out⟩, ⟨by repeat (first | (with_reducible first | exact HB.out | apply below_alloc | apply pw_below_drewN | apply below_drew1 | refine below_set ?_ GE133.out) | exact HB.out)⟩⟩
                    · rw [if_neg c11] at H
                      have c11b0 : ((bt a0 x4_1) == 35) = false := beq_eq_false_iff_ne.mpr c11
                      have c11b1 : ((bt a0 x4_1) != 35) = true := bne_iff_ne.mpr c11
                      have H' := Aside0.mk H
                      clear H
                      go_wp2
                      go_meet
                      case rel => exact ⟨_, (((bt a0 x4_1) == 36)), (by first | rfl | (simp; done) | (simp [*]; done)), H', ⟨by have := HK1.out; first | omega | exact Nat.le_refl _⟩, ⟨by (with_reducible repeat (first | refine blk_drewN ?_ _ | refine blk_drew ?_ | refine blk_alloc ?_ _)); exact BK133.out⟩, ⟨by repeat (first | (with_reducible first | exact HB.out | apply below_alloc | apply pw_below_drewN | apply below_drew1 | refine below_set ?_ GE133.out) | exact HB.out)⟩⟩
          case rest =>
            clear HC6
            try clear c1
            try clear p2
            try clear c3
            try clear c3b0
            try clear c4
            try clear c4b0
            try clear p5
            try clear q5
            try clear hx5
            try clear c7
            try clear c7b0
            try clear c7b1
            try clear c8
            try clear c8b0
            try clear c8b1
            try clear c9
            try clear c9b0
            try clear c9b1
            try clear c10
            try clear c10b0
            try clear c10b1
            try clear c11
            try clear c11b0
            try clear c11b1
            try clear p2
            try clear p5
            try clear q5
            obtain ⟨kq, x14_5, rfl, HA, HJ5, BK133, HB⟩ := hcut
            cases kq with
            | zero => exact absurd HA.out (by simp [flatironref19_set.j1])
            | succ kj5 =>
              have H := HA.out
              clear HA
              simp only [flatironref19_set.j1] at H
              by_cases c12 : x14_5 = true
              · subst c12
                have H1 : (some ((⟨#[]⟩ : ByteArray), (⟨#[]⟩ : ByteArray), false)) = some (r1, r2, r3) := by rw [if_pos rfl] at H; exact H
                clear H
                have H := H1
                clear H1
                simp only [Option.some.injEq, Prod.mk.injEq] at H
                obtain ⟨rfl, rfl, rfl⟩ := H
                have hcz13_0 : wc.cell? ⟨gb133, 0, none⟩ = some (.string x134000_1) := (blk_cell BK133.out 0).trans rfl
                have hcz13_1 : wc.cell? ⟨gb133, 1, none⟩ = some (.string x134001_1) := (blk_cell BK133.out 1).trans rfl
                have hfz13_0 := blk_frozen BK133.out 0
                have hfz13_1 := blk_frozen BK133.out 1
                go_wp2
                refine bodyPost_ret (results_ct rfl _ _ gb133 69 #[.string (⟨#[]⟩ : ByteArray), .string (⟨#[]⟩ : ByteArray)] (0, 0) _ rfl (by (with_reducible repeat (first | refine blk_drewN ?_ _ | refine blk_drew ?_ | refine blk_alloc ?_ _)); refine blk_put (cs := #[.string (⟨#[]⟩ : ByteArray), .string x134001_1]) ?_ 1 _ rfl; (with_reducible repeat (first | refine blk_drewN ?_ _ | refine blk_drew ?_ | refine blk_alloc ?_ _)); refine blk_put (cs := #[.string x134000_1, .string x134001_1]) ?_ 0 _ rfl; (with_reducible repeat (first | refine blk_drewN ?_ _ | refine blk_drew ?_ | refine blk_alloc ?_ _)); exact BK133.out) Try.underlying69 rfl (by kernel_rfl)) rfl ?_
                exact ⟨by first | rfl | (simp [errW_none, errW_some] <;> rfl) | (simp [*, errW_none, errW_some] <;> rfl), by repeat (first | (with_reducible first | exact HB.out | apply below_alloc | apply pw_below_drewN | apply below_drew1 | refine below_set ?_ GE133.out) | exact HB.out)⟩
              · replace c12 := Bool.eq_false_iff.mpr c12
                subst c12
                have H1 : (if (bt a0 x4_1) = 61 then (if 0 ≤ x4_1 then (if x4_1 ≤ (a0.size : Int) then (if 0 ≤ (wrap64 (x4_1 + 1)) then (if (wrap64 (x4_1 + 1)) ≤ (a0.size : Int) then (some (a0.extract 0 (x4_1 : Int).toNat, a0.extract ((wrap64 (x4_1 + 1)) : Int).toNat a0.size, decide (x4_1 > 0))) else (none)) else (none)) else (none)) else (none)) else (flatironref19_set.l0 kj5 a0 (wrap64 (x4_1 + 1)))) = some (r1, r2, r3) := by rw [if_neg (show ¬ (false = true) by decide)] at H; exact H
                clear H
                have H := H1
                clear H1
                by_cases c14 : (bt a0 x4_1) = 61
                · rw [if_pos c14] at H
                  have c14b0 : ((bt a0 x4_1) == 61) = true := beq_iff_eq.mpr c14
                  have c14b1 : ((bt a0 x4_1) != 61) = false := bne_eq_false_iff_eq.mpr c14
                  clear c14
                  by_cases c15 : 0 ≤ x4_1
                  · rw [if_pos c15] at H
                    have c15b0 := eq_true c15
                    have c15b1 : decide (0 ≤ x4_1) = true := decide_eq_true c15
                    clear c15
                    by_cases c16 : x4_1 ≤ (a0.size : Int)
                    · rw [if_pos c16] at H
                      have c16b0 := eq_true c16
                      have c16b1 : decide (x4_1 ≤ (a0.size : Int)) = true := decide_eq_true c16
                      clear c16
                      obtain ⟨ji17, hji17⟩ : ∃ j_ : Int, (wrap64 (x4_1 + 1)) = j_ := ⟨_, rfl⟩
                      replace H : (if 0 ≤ (ji17) then (if (ji17) ≤ (a0.size : Int) then (some (a0.extract 0 (x4_1 : Int).toNat, a0.extract ((ji17) : Int).toNat a0.size, decide (x4_1 > 0))) else (none)) else (none)) = some (r1, r2, r3) := by first | (rw [hji17] at H; exact H) | (simp only [hji17] at H ⊢; exact H)
                      have hji17w : (IntKind.i64.wrap (x4_1 + 1)) = ji17 := (i64_w _).trans hji17
                      by_cases c18 : 0 ≤ (ji17)
                      · rw [if_pos c18] at H
                        have c18b0 := eq_true c18
                        have c18b1 : decide (0 ≤ (ji17)) = true := decide_eq_true c18
                        clear c18
                        by_cases c19 : (ji17) ≤ (a0.size : Int)
                        · rw [if_pos c19] at H
                          have c19b0 := eq_true c19
                          have c19b1 : decide ((ji17) ≤ (a0.size : Int)) = true := decide_eq_true c19
                          clear c19
                          simp only [Option.some.injEq, Prod.mk.injEq] at H
                          obtain ⟨rfl, rfl, rfl⟩ := H
                          try go_wp2
                          have n0_ := Aside0.mk (blk_drew BK133.out)
                          have n1_ := Aside0.mk (below_drew1 HB.out)
                          clear BK133
                          clear HB
                          have BK133 := n0_
                          have HB := n1_
                          clear n0_ n1_
                          refine start_ (n := 12) (S := fun w' => True) (ds := []) #[false, false, false, false, false, false, false, false, false, false, false, false] (by kernel_rfl) rfl rfl trivial (fun hHeld => ?_); refine with_tabW flatironref19_set.tab13 flatironref19_set.bits13 (fun HT_ HW_ => ?_)
                          generalize wc.drew = w20 at BK133 HB hHeld ⊢
                          refine pure_ (i := 0) (N := some 24) (v := ?_) (a' := ?_) #[true, false, false, false, false, false, false, false, false, false, false, false] rfl rfl (any_of HT_.out (by kernel_rfl)) (fun _ _ _ h => h) (Or.inl ⟨by rfl, ?_⟩) ?_ ?_
                          rotate_left
                          · intro w'
                            go_simp
                            with_reducible rfl
                          rotate_left
                          · simp only [Act.put, List.setIfInBounds_toArray, List.set_cons_zero, List.set_cons_succ, i64_w, i32_w]
                            rfl
                          refine pure_ (i := 1) (N := some 25) (v := ?_) (a' := ?_) #[true, true, false, false, false, false, false, false, false, false, false, false] rfl rfl (any_of HT_.out (by kernel_rfl)) (fun _ _ _ h => h) (Or.inl ⟨by rfl, ?_⟩) ?_ ?_
                          rotate_left
                          · intro w'
                            go_simp
                            with_reducible rfl
                          rotate_left
                          · simp only [Act.put, List.setIfInBounds_toArray, List.set_cons_zero, List.set_cons_succ, i64_w, i32_w]
                            rfl
                          refine pure_ (i := 2) (N := some 26) (v := ?_) (a' := ?_) #[true, true, true, false, false, false, false, false, false, false, false, false] rfl rfl (any_of HT_.out (by kernel_rfl)) (fun _ _ _ h => h) (Or.inl ⟨by rfl, ?_⟩) ?_ ?_
                          rotate_left
                          · intro w'
                            go_simp
                            with_reducible rfl
                          rotate_left
                          · simp only [Act.put, List.setIfInBounds_toArray, List.set_cons_zero, List.set_cons_succ, i64_w, i32_w]
                            rfl
                          refine pure_ (i := 3) (N := some 27) (v := ?_) (a' := ?_) #[true, true, true, true, false, false, false, false, false, false, false, false] rfl rfl (any_of HT_.out (by kernel_rfl)) (fun _ _ _ h => h) (Or.inl ⟨by rfl, ?_⟩) ?_ ?_
                          rotate_left
                          · intro w'
                            go_simp
                            with_reducible rfl
                          rotate_left
                          · simp only [Act.put, List.setIfInBounds_toArray, List.set_cons_zero, List.set_cons_succ, i64_w, i32_w]
                            rfl
                          refine pure_ (i := 4) (N := some 28) (v := ?_) (a' := ?_) #[true, true, true, true, true, false, false, false, false, false, false, false] rfl rfl (any_of HT_.out (by kernel_rfl)) (fun _ _ _ h => h) (Or.inl ⟨by rfl, ?_⟩) ?_ ?_
                          rotate_left
                          · intro w'
                            go_simp
                            with_reducible rfl
                          rotate_left
                          · simp only [Act.put, List.setIfInBounds_toArray, List.set_cons_zero, List.set_cons_succ, i64_w, i32_w]
                            rfl
                          refine pure_ (i := 5) (N := some 29) (v := ?_) (a' := ?_) #[true, true, true, true, true, true, false, false, false, false, false, false] rfl rfl (any_of HT_.out (by kernel_rfl)) (fun _ _ _ h => h) (Or.inl ⟨by rfl, ?_⟩) ?_ ?_
                          rotate_left
                          · intro w'
                            go_simp
                            with_reducible rfl
                          rotate_left
                          · simp only [Act.put, List.setIfInBounds_toArray, List.set_cons_zero, List.set_cons_succ, i64_w, i32_w]
                            rfl
                          refine pure_ (i := 6) (N := some 30) (v := ?_) (a' := ?_) #[true, true, true, true, true, true, true, false, false, false, false, false] rfl rfl (any_of HT_.out (by kernel_rfl)) (fun _ _ _ h => h) (Or.inl ⟨by rfl, ?_⟩) ?_ ?_
                          rotate_left
                          · intro w'
                            go_simp
                            with_reducible rfl
                          rotate_left
                          · simp only [Act.put, List.setIfInBounds_toArray, List.set_cons_zero, List.set_cons_succ, i64_w, i32_w]
                            rfl
                          refine pure_ (i := 7) (N := some 31) (v := ?_) (a' := ?_) #[true, true, true, true, true, true, true, true, false, false, false, false] rfl rfl (any_of HT_.out (by kernel_rfl)) (fun _ _ _ h => h) (Or.inl ⟨by rfl, ?_⟩) ?_ ?_
                          rotate_left
                          · intro w'
                            go_simp
                            with_reducible rfl
                          rotate_left
                          · simp only [Act.put, List.setIfInBounds_toArray, List.set_cons_zero, List.set_cons_succ, i64_w, i32_w]
                            rfl
                          refine pure_ (i := 8) (N := some 32) (v := ?_) (a' := ?_) #[true, true, true, true, true, true, true, true, true, false, false, false] rfl rfl (any_of HT_.out (by kernel_rfl)) (fun _ _ _ h => h) (Or.inl ⟨by rfl, ?_⟩) ?_ ?_
                          rotate_left
                          · intro w'
                            go_simp
                            with_reducible rfl
                          rotate_left
                          · simp only [Act.put, List.setIfInBounds_toArray, List.set_cons_zero, List.set_cons_succ, i64_w, i32_w]
                            rfl
                          refine pure_ (i := 9) (N := some 33) (v := ?_) (a' := ?_) #[true, true, true, true, true, true, true, true, true, true, false, false] rfl rfl (any_of HT_.out (by kernel_rfl)) (fun _ _ _ h => h) (Or.inl ⟨by rfl, ?_⟩) ?_ ?_
                          rotate_left
                          · intro w'
                            go_simp
                            with_reducible rfl
                          rotate_left
                          · simp only [Act.put, List.setIfInBounds_toArray, List.set_cons_zero, List.set_cons_succ, i64_w, i32_w]
                            rfl
                          refine one_ (i := 10) (N := none) #[true, true, true, true, true, true, true, true, true, true, true, false] rfl rfl (one_of HT_.out (by kernel_rfl)) (by decide) (fun K hK => ?_)
                          have hs21 : w20.cell? ⟨gb133, 0, none⟩ = some (.string x134000_1) := (blk_cell BK133.out 0).trans rfl
                          have hfs21 := blk_frozen BK133.out 0
                          have hs22 : w20.cell? ⟨gb133, 1, none⟩ = some (.string x134001_1) := (blk_cell BK133.out 1).trans rfl
                          have hfs22 := blk_frozen BK133.out 1
                          refine skip_ (w1 := ?_) (by rfl) rfl ?_ ?_
                          rotate_left
                          · go_simp
                            rfl
                          refine hK.out _ _ trivial (fun hHeld => ?_)
                          clear hK K
                          refine pure_ (i := 11) (N := some 3) (v := ?_) (a' := ?_) #[true, true, true, true, true, true, true, true, true, true, true, true] rfl rfl (any_of HT_.out (by kernel_rfl)) (fun _ _ _ h => h) (Or.inl ⟨by rfl, ?_⟩) ?_ ?_
                          rotate_left
                          · intro w'
                            go_simp
                            with_reducible rfl
                          rotate_left
                          · simp only [Act.put, List.setIfInBounds_toArray, List.set_cons_zero, List.set_cons_succ, i64_w, i32_w]
                            rfl
                          refine done_ (done_of HT_.out (by kernel_rfl)) ?_
                          try go_wp2
                          refine bodyPost_ret (results_ct rfl _ _ gb133 69 #[.string (a0.extract 0 (x4_1 : Int).toNat), .string (a0.extract ((ji17) : Int).toNat a0.size)] (0, 0) _ rfl (by (with_reducible repeat (first | refine blk_drewN ?_ _ | refine blk_drew ?_ | refine blk_alloc ?_ _)); refine blk_put (cs := #[.string (a0.extract 0 (x4_1 : Int).toNat), .string x134001_1]) ?_ 1 _ rfl; (with_reducible repeat (first | refine blk_drewN ?_ _ | refine blk_drew ?_ | refine blk_alloc ?_ _)); refine blk_put (cs := #[.string x134000_1, .string x134001_1]) ?_ 0 _ rfl; (with_reducible repeat (first | refine blk_drewN ?_ _ | refine blk_drew ?_ | refine blk_alloc ?_ _)); exact BK133.out) Try.underlying69 rfl (by kernel_rfl)) rfl ?_
                          exact ⟨by first | rfl | (simp [errW_none, errW_some] <;> rfl) | (simp only [← hji17]; first | rfl | (simp [errW_none, errW_some] <;> rfl)) | (simp [*, errW_none, errW_some] <;> rfl), by repeat (first | (with_reducible first | exact HB.out | apply below_alloc | apply pw_below_drewN | apply below_drew1 | refine below_set ?_ GE133.out) | exact HB.out)⟩
                        · rw [if_neg c19] at H
                          exact absurd H (by simp)
                      · rw [if_neg c18] at H
                        exact absurd H (by simp)
                    · rw [if_neg c16] at H
                      exact absurd H (by simp)
                  · rw [if_neg c15] at H
                    exact absurd H (by simp)
                · rw [if_neg c14] at H
                  have c14b0 : ((bt a0 x4_1) == 61) = false := beq_eq_false_iff_ne.mpr c14
                  have c14b1 : ((bt a0 x4_1) != 61) = true := bne_iff_ne.mpr c14
                  have H' := Aside0.mk H
                  clear H
                  go_wp2
                  go_roundg kj5
                  case measure => have := HK1.out; have := HJ5.out; omega
                  case rel => exact ⟨(wrap64 (x4_1 + 1)), (x134000_1), (x134001_1), (by first | rfl | (simp; done) | (simp [*]; done)), H', ⟨by have := HK1.out; have := HJ5.out; omega⟩, ⟨by (with_reducible repeat (first | refine blk_drewN ?_ _ | refine blk_drew ?_ | refine blk_alloc ?_ _)); exact BK133.out⟩, ⟨by repeat (first | (with_reducible first | exact HB.out | apply below_alloc | apply pw_below_drewN | apply below_drew1 | refine below_set ?_ GE133.out) | exact HB.out)⟩⟩
        · rw [if_neg c4] at H
          exact absurd H (by simp)
      · rw [if_neg c3] at H
        have c3b0 : decide (x4_1 < (a0.size : Int)) = false := decide_eq_false c3
        clear c3
        simp only [Option.some.injEq, Prod.mk.injEq] at H
        obtain ⟨rfl, rfl, rfl⟩ := H
        have hcz23_0 : wr.cell? ⟨gb133, 0, none⟩ = some (.string x134000_1) := (blk_cell BK133.out 0).trans rfl
        have hcz23_1 : wr.cell? ⟨gb133, 1, none⟩ = some (.string x134001_1) := (blk_cell BK133.out 1).trans rfl
        have hfz23_0 := blk_frozen BK133.out 0
        have hfz23_1 := blk_frozen BK133.out 1
        go_wp2
        refine bodyPost_ret (results_ct rfl _ _ gb133 69 #[.string (⟨#[]⟩ : ByteArray), .string (⟨#[]⟩ : ByteArray)] (0, 0) _ rfl (by (with_reducible repeat (first | refine blk_drewN ?_ _ | refine blk_drew ?_ | refine blk_alloc ?_ _)); refine blk_put (cs := #[.string (⟨#[]⟩ : ByteArray), .string x134001_1]) ?_ 1 _ rfl; (with_reducible repeat (first | refine blk_drewN ?_ _ | refine blk_drew ?_ | refine blk_alloc ?_ _)); refine blk_put (cs := #[.string x134000_1, .string x134001_1]) ?_ 0 _ rfl; (with_reducible repeat (first | refine blk_drewN ?_ _ | refine blk_drew ?_ | refine blk_alloc ?_ _)); exact BK133.out) Try.underlying69 rfl (by kernel_rfl)) rfl ?_
        exact ⟨by first | rfl | (simp [errW_none, errW_some] <;> rfl) | (simp [*, errW_none, errW_some] <;> rfl), by repeat (first | (with_reducible first | exact HB.out | apply below_alloc | apply pw_below_drewN | apply below_drew1 | refine below_set ?_ GE133.out) | exact HB.out)⟩

end Go.Proofs.Ytmpheeanjjfddaa.XW05
/- Laid for this claim by the session's own program xprint.py, over the print of the kit: functions of the program as plain Lean functions, each with a proof that a call comes to what its function says, or the row of a law out of these; no condition of its own. -/
namespace Go.Proofs.Ytmpheeanjjfddaa.XW05
open Go.Proofs.Ytmpheeanjjfddaa.X Go.Proofs.Ytmpheeanjjfddaa.XT06 Go.RowKit Go.Proofs.YtmpheeanjjfddaaW.PrintWords Go.Proofs.YtmpheeanjjfddaaW.PrintLast Go.Proofs.YtmpheeanjjfddaaW.PrintMore
attribute [local go_sem] cell4_1 cell4_1d max2_int min2_int max_two min_two max_three min_three max_four min_four   -- for this text's walks alone
set_option linter.unusedVariables false
set_option linter.unusedSimpArgs false

/-! ### flatironref19_Of: function 22 -/
mutual
def flatironref19_Of.j0 : Nat → List (S132) → Bool → Option (ByteArray × List ByteArray × (List (S69)) × Bool)
  | 0, _, _ => none
  | k + 1, x0, x19 => if x19 = true then (some ((⟨#[]⟩ : ByteArray), ([] : List ByteArray), ([] : List (S69)), false)) else (if 0 < (x0.length : Int) then (flatironref19_Of.l0 k ((rd_T132 x0 0).f1) 1 (⟨#[46]⟩ : ByteArray) ([] : List ByteArray) ([] : List (S69))) else (none))
def flatironref19_Of.l0 : Nat → List ByteArray → Int → ByteArray → List ByteArray → List (S69) → Option (ByteArray × List ByteArray × (List (S69)) × Bool)
  | 0, _, _, _, _, _ => none
  | k + 1, x4, x6, x138000, x138001, x138002 => if x6 < (x4.length : Int) then (if 0 ≤ x6 then ((flatironref19_set.f k (rdOf ByteArray.empty x4 x6)).bind fun bt139 => (if (rdOf ByteArray.empty x4 x6).toList = ([45, 67] : List UInt8) then (flatironref19_Of.j2 k x4 x6 bt139.2.2 (decide ((wrap64 (x6 + 1)) < (x4.length : Int))) x138000 x138001 x138002 bt139.1 bt139.2.1) else (flatironref19_Of.j2 k x4 x6 bt139.2.2 false x138000 x138001 x138002 bt139.1 bt139.2.1))) else (none)) else (some (x138000, x138001, x138002, true))
def flatironref19_Of.j2 : Nat → List ByteArray → Int → Bool → Bool → ByteArray → List ByteArray → List (S69) → ByteArray → ByteArray → Option (ByteArray × List ByteArray × (List (S69)) × Bool)
  | 0, _, _, _, _, _, _, _, _, _ => none
  | k + 1, x4, x6, x8, x49, x138000, x138001, x138002, x143000, x143001 => if x49 = true then (if x138000.size + 1 ≤ 9223372036854775807 then (if 0 ≤ (wrap64 (x6 + 1)) then (if (wrap64 (x6 + 1)) < (x4.length : Int) then (if (x138000.size + 1) + ((rdOf ByteArray.empty x4 (wrap64 (x6 + 1))).size) ≤ 9223372036854775807 then (flatironref19_Of.l0 k x4 (wrap64 ((wrap64 (x6 + 1)) + 1)) ((x138000 ++ (⟨#[47]⟩ : ByteArray)) ++ (rdOf ByteArray.empty x4 (wrap64 (x6 + 1)))) x138001 x138002) else (none)) else (none)) else (none)) else (none)) else (if 0 ≤ x6 then (if x6 < (x4.length : Int) then (if (rdOf ByteArray.empty x4 x6).toList = ([] : List UInt8) then (flatironref19_Of.j3 k x4 x6 x8 true x138000 x138001 x138002 x143000 x143001) else (if 0 < ((rdOf ByteArray.empty x4 x6).size : Int) then (flatironref19_Of.j3 k x4 x6 x8 ((bt (rdOf ByteArray.empty x4 x6) 0) == 45) x138000 x138001 x138002 x143000 x143001) else (none))) else (none)) else (none))
def flatironref19_Of.j3 : Nat → List ByteArray → Int → Bool → Bool → ByteArray → List ByteArray → List (S69) → ByteArray → ByteArray → Option (ByteArray × List ByteArray × (List (S69)) × Bool)
  | 0, _, _, _, _, _, _, _, _, _ => none
  | k + 1, x4, x6, x8, x74, x138000, x138001, x138002, x143000, x143001 => if x74 = true then (some ((⟨#[]⟩ : ByteArray), ([] : List ByteArray), ([] : List (S69)), false)) else (if x8 = true then (if x138002.length < 4398046511104 then (flatironref19_Of.l0 k x4 (wrap64 (x6 + 1)) x138000 x138001 (x138002 ++ [(⟨x143000, x143001⟩ : S69)])) else (none)) else (if 0 ≤ x6 then (if x6 < (x4.length : Int) then (if x138001.length < 8796093022208 then (flatironref19_Of.l0 k x4 (wrap64 (x6 + 1)) x138000 (x138001 ++ [rdOf ByteArray.empty x4 x6]) x138002) else (none)) else (none)) else (none)))
end
def flatironref19_Of.f (k : Nat) (l0 : List (S132)) : Option (ByteArray × List ByteArray × (List (S69)) × Bool) := if (l0.length : Int) = 1 then (if 0 < (l0.length : Int) then (flatironref19_Of.j0 k l0 (decide ((((rd_T132 l0 0).f2).length : Int) > 0))) else (none)) else (flatironref19_Of.j0 k l0 true)
theorem flatironref19_Of.mono_l : ∀ k, (∀ y0 y1, LeO (flatironref19_Of.j0 k y0 y1) (flatironref19_Of.j0 (k + 1) y0 y1)) ∧ (∀ y0 y1 y2 y3 y4, LeO (flatironref19_Of.l0 k y0 y1 y2 y3 y4) (flatironref19_Of.l0 (k + 1) y0 y1 y2 y3 y4)) ∧ (∀ y0 y1 y2 y3 y4 y5 y6 y7 y8, LeO (flatironref19_Of.j2 k y0 y1 y2 y3 y4 y5 y6 y7 y8) (flatironref19_Of.j2 (k + 1) y0 y1 y2 y3 y4 y5 y6 y7 y8)) ∧ (∀ y0 y1 y2 y3 y4 y5 y6 y7 y8, LeO (flatironref19_Of.j3 k y0 y1 y2 y3 y4 y5 y6 y7 y8) (flatironref19_Of.j3 (k + 1) y0 y1 y2 y3 y4 y5 y6 y7 y8))
  | 0 => ⟨fun _ _ r h => by simp [flatironref19_Of.j0] at h, fun _ _ _ _ _ r h => by simp [flatironref19_Of.l0] at h, fun _ _ _ _ _ _ _ _ _ r h => by simp [flatironref19_Of.j2] at h, fun _ _ _ _ _ _ _ _ _ r h => by simp [flatironref19_Of.j3] at h⟩
  | k + 1 => by
    obtain ⟨ih0, ih1, ih2, ih3⟩ := flatironref19_Of.mono_l k
    refine ⟨?_, ?_, ?_, ?_⟩
    · intro y0 y1
      unfold flatironref19_Of.j0
      repeat' first
      | (with_reducible exact ih0 _ _)
      | (with_reducible exact ih1 _ _ _ _ _)
      | (with_reducible exact ih2 _ _ _ _ _ _ _ _ _)
      | (with_reducible exact ih3 _ _ _ _ _ _ _ _ _)
      | (with_reducible exact flatironref19_set.mono _ _)
      | (with_reducible exact LeO.refl _)
      | (with_reducible exact LeO.none _)
      | (with_reducible refine LeO.ite ?_ ?_)
      | (with_reducible refine LeO.bind ?_ (fun _ => ?_))
      | exact ih0 _ _
      | exact ih1 _ _ _ _ _
      | exact ih2 _ _ _ _ _ _ _ _ _
      | exact ih3 _ _ _ _ _ _ _ _ _
      | exact flatironref19_set.mono _ _
      | exact LeO.none _
      | refine LeO.ite ?_ ?_
      | refine LeO.bind ?_ (fun _ => ?_)
    · intro y0 y1 y2 y3 y4
      unfold flatironref19_Of.l0
      repeat' first
      | (with_reducible exact ih0 _ _)
      | (with_reducible exact ih1 _ _ _ _ _)
      | (with_reducible exact ih2 _ _ _ _ _ _ _ _ _)
      | (with_reducible exact ih3 _ _ _ _ _ _ _ _ _)
      | (with_reducible exact flatironref19_set.mono _ _)
      | (with_reducible exact LeO.refl _)
      | (with_reducible exact LeO.none _)
      | (with_reducible refine LeO.ite ?_ ?_)
      | (with_reducible refine LeO.bind ?_ (fun _ => ?_))
      | exact ih0 _ _
      | exact ih1 _ _ _ _ _
      | exact ih2 _ _ _ _ _ _ _ _ _
      | exact ih3 _ _ _ _ _ _ _ _ _
      | exact flatironref19_set.mono _ _
      | exact LeO.none _
      | refine LeO.ite ?_ ?_
      | refine LeO.bind ?_ (fun _ => ?_)
    · intro y0 y1 y2 y3 y4 y5 y6 y7 y8
      unfold flatironref19_Of.j2
      repeat' first
      | (with_reducible exact ih0 _ _)
      | (with_reducible exact ih1 _ _ _ _ _)
      | (with_reducible exact ih2 _ _ _ _ _ _ _ _ _)
      | (with_reducible exact ih3 _ _ _ _ _ _ _ _ _)
      | (with_reducible exact flatironref19_set.mono _ _)
      | (with_reducible exact LeO.refl _)
      | (with_reducible exact LeO.none _)
      | (with_reducible refine LeO.ite ?_ ?_)
      | (with_reducible refine LeO.bind ?_ (fun _ => ?_))
      | exact ih0 _ _
      | exact ih1 _ _ _ _ _
      | exact ih2 _ _ _ _ _ _ _ _ _
      | exact ih3 _ _ _ _ _ _ _ _ _
      | exact flatironref19_set.mono _ _
      | exact LeO.none _
      | refine LeO.ite ?_ ?_
      | refine LeO.bind ?_ (fun _ => ?_)
    · intro y0 y1 y2 y3 y4 y5 y6 y7 y8
      unfold flatironref19_Of.j3
      repeat' first
      | (with_reducible exact ih0 _ _)
      | (with_reducible exact ih1 _ _ _ _ _)
      | (with_reducible exact ih2 _ _ _ _ _ _ _ _ _)
      | (with_reducible exact ih3 _ _ _ _ _ _ _ _ _)
      | (with_reducible exact flatironref19_set.mono _ _)
      | (with_reducible exact LeO.refl _)
      | (with_reducible exact LeO.none _)
      | (with_reducible refine LeO.ite ?_ ?_)
      | (with_reducible refine LeO.bind ?_ (fun _ => ?_))
      | exact ih0 _ _
      | exact ih1 _ _ _ _ _
      | exact ih2 _ _ _ _ _ _ _ _ _
      | exact ih3 _ _ _ _ _ _ _ _ _
      | exact flatironref19_set.mono _ _
      | exact LeO.none _
      | refine LeO.ite ?_ ?_
      | refine LeO.bind ?_ (fun _ => ?_)
theorem flatironref19_Of.mono : ∀ a0 k, LeO (flatironref19_Of.f k a0) (flatironref19_Of.f (k + 1) a0) := by
  intro a0 k
  obtain ⟨ih0, ih1, ih2, ih3⟩ := flatironref19_Of.mono_l k
  unfold flatironref19_Of.f
  repeat' first
      | (with_reducible exact ih0 _ _)
      | (with_reducible exact ih1 _ _ _ _ _)
      | (with_reducible exact ih2 _ _ _ _ _ _ _ _ _)
      | (with_reducible exact ih3 _ _ _ _ _ _ _ _ _)
      | (with_reducible exact flatironref19_set.mono _ _)
      | (with_reducible exact LeO.refl _)
      | (with_reducible exact LeO.none _)
      | (with_reducible refine LeO.ite ?_ ?_)
      | (with_reducible refine LeO.bind ?_ (fun _ => ?_))
      | exact ih0 _ _
      | exact ih1 _ _ _ _ _
      | exact ih2 _ _ _ _ _ _ _ _ _
      | exact ih3 _ _ _ _ _ _ _ _ _
      | exact flatironref19_set.mono _ _
      | exact LeO.none _
      | refine LeO.ite ?_ ?_
      | refine LeO.bind ?_ (fun _ => ?_)
def flatironref19_Of.T9 : Bool × List (List Nat × List Nat) := (true, [([], []), ([0], [0]), ([1], [1]), ([], []), ([], []), ([4], [4]), ([3, 5], [3, 5]), ([6], [6]), ([2, 7], [2, 7]), ([0, 1, 2, 3, 4, 5, 6, 7, 8], []), ([9, 8, 0, 1, 2, 3, 4, 5, 6, 7, 8], [8, 9])])
def flatironref19_Of.B9 : List Nat := [0, 1, 3, 0, 0, 16, 56, 120, 255, 511, 1023]
theorem flatironref19_Of.tab9 : rtab .any (opsOf Try.f22 9) = flatironref19_Of.T9 := by kernel_rfl
theorem flatironref19_Of.bits9 : waitsOk flatironref19_Of.T9.2 flatironref19_Of.B9 = true := by kernel_rfl
def flatironref19_Of.T15 : Bool × List (List Nat × List Nat) := (true, [([], []), ([0], [0]), ([], []), ([], []), ([2, 3], [2, 3]), ([4], [4]), ([5], [5]), ([1, 6], [1, 6]), ([0, 1, 2, 3, 4, 5, 6, 7], []), ([8, 7, 7, 0, 1, 2, 3, 4, 5, 6, 7], [7, 8])])
def flatironref19_Of.B15 : List Nat := [0, 1, 0, 0, 12, 28, 60, 127, 255, 511]
theorem flatironref19_Of.tab15 : rtab .any (opsOf Try.f22 15) = flatironref19_Of.T15 := by kernel_rfl
theorem flatironref19_Of.bits15 : waitsOk flatironref19_Of.T15.2 flatironref19_Of.B15 = true := by kernel_rfl
set_option maxHeartbeats 8000000 in
set_option maxRecDepth 100000 in
theorem flatironref19_Of.calls (k : Nat) (A0 : Option Addr) (c0 : Nat) (l0 : List (S132)) (r1 : ByteArray) (r2 : List ByteArray) (r3 : List (S69)) (r4 : Bool) (w : World) (hr0 : Kd.C k132 w A0 l0.length l0) (hc0 : l0.length ≤ c0) (h : flatironref19_Of.f k l0 = some (r1, r2, r3, r4)) :
    Calls Try.prog 22 #[.slice A0 l0.length c0] w fun e w' => ∃ v1_ v2_ : Value, e = .returned (.tuple #[.agg #[.string r1, v1_, v2_], .bool r4]) ∧ Kd.R Kd.string 9 w' w.heap.size (fun _ => True) v1_ r2 ∧ Kd.R k69 69 w' w.heap.size (fun _ => True) v2_ r3 ∧ Below w.heap.size w w' := by
  have hu64 := Try.underlying64
  have hu69 := Try.underlying69
  have HR0 := Aside0.mk hr0
  have HC0 := Aside0.mk hc0
  clear hr0 hc0
  have HB := Aside0.mk (Below.refl w.heap.size w)
  have H : (if (l0.length : Int) = 1 then (if 0 < (l0.length : Int) then (flatironref19_Of.j0 k l0 (decide ((((rd_T132 l0 0).f2).length : Int) > 0))) else (none)) else (flatironref19_Of.j0 k l0 true)) = some (r1, r2, r3, r4) := h
  clear h
  have HC2 := Aside0.mk H
  clear H
  go_enter Try.func22, Try.ntmps22
  go_upto_region 1 with (first | ((with_reducible refine gate_dst (N := 2) rfl ?_); (try (refine gate_guard (by rfl) ?_; dsimp only)); refine box_event ?hg (N := 2) ?hd (cs := #[.string (⟨#[]⟩ : ByteArray), .slice none 0 0, .slice none 0 0]) (t := 64) ?hr ?_; (case hd => rfl); (case hg => rfl); (case hr => first | (go_simp; done) | (go_simp; rfl)); intro gb134 hg w3 hbox hb; have n0_ := Aside0.mk (below_step (by repeat (first | (with_reducible first | exact HB.out | apply below_alloc | apply pw_below_drewN | apply below_drew1) | exact HB.out)) hb); have n1_ := Aside0.mk (hbox); have n2_ := Aside0.mk ((by rw [hg]; exact (below_size (by repeat (first | (with_reducible first | exact HB.out | apply below_alloc | apply pw_below_drewN | apply below_drew1) | exact HB.out))) : w.heap.size ≤ gb134)); have n3_ := Aside0.mk ((by rw [hg]; exact (below_size (by repeat (first | (with_reducible first | exact HB.out | apply below_alloc | apply pw_below_drewN | apply below_drew1) | exact HB.out))) : w.heap.size ≤ gb134)); clear HB; have HB := n0_; have BK134 := n1_; have GW134 := n2_; have GE134 := n3_; clear n0_ n1_ n2_ n3_; clear hb hbox hg))
  (try simp only [Act.put, List.setIfInBounds_toArray, List.set_cons_zero, List.set_cons_succ])
  go_cut [19] (fun v19 wc => ∃ (kq : Nat) (x19_1 : Bool), v19 = .bool x19_1 ∧ Aside0 (flatironref19_Of.j0 kq l0 x19_1 = some (r1, r2, r3, r4)) ∧ Aside0 (kq ≤ k) ∧ Aside0 (wc.heap[gb134]? = some (.cells #[.string (⟨#[]⟩ : ByteArray), (.slice none 0 0), (.slice none 0 0)] 64 (0, 0))) ∧ Aside0 (Below w.heap.size w wc))
  case first =>
    have H := HC2.out
    clear HC2
    by_cases c4 : (l0.length : Int) = 1
    · rw [if_pos c4] at H
      have c4b0 : ((l0.length : Int) == 1) = true := beq_iff_eq.mpr c4
      have c4b1 : ((l0.length : Int) != 1) = false := bne_eq_false_iff_eq.mpr c4
      clear c4
      (first | rw [c4b0] | (simp only [i64_w, i32_w]; rw [c4b0]) | skip)
      by_cases c5 : 0 < (l0.length : Int)
      · rw [if_pos c5] at H
        have c5b0 : decide (0 < (l0.length : Int)) = true := decide_eq_true c5
        have c5b1 : decide (0 < l0.length) = true := decide_eq_true (by omega)
        clear c5
        have H' := Aside0.mk H
        clear H
        have p135 : 0 ≤ (0 : Int) := (by omega)
        have q135 : 0 < (l0.length : Int) := of_decide_eq_true (by first | (with_reducible assumption) | assumption)
        obtain ⟨ad135, A135_1, c135_1, A135_2, c135_2, e135, hx135_0, hx135_1, hx135_2, hl135_1, hi135_1, hl135_2, hi135_2⟩ := at_T132 HR0.out 0 p135 q135
        cases e135
        have qi135 : (0 < l0.length) = True := eq_true (by omega)
        (try rw [show ((0 : Int)).toNat = 0 from rfl] at hx135_0)
        (try rw [show 0 * 3 = 0 from rfl] at hx135_0)
        (try rw [Addr.add_zero'] at hx135_0)
        (try rw [show ((0 : Int)).toNat = 0 from rfl] at hx135_1)
        (try rw [show 0 * 3 = 0 from rfl] at hx135_1)
        (try rw [Addr.add_zero'] at hx135_1)
        (try rw [show ((0 : Int)).toNat = 0 from rfl] at hx135_2)
        (try rw [show 0 * 3 = 0 from rfl] at hx135_2)
        (try rw [Addr.add_zero'] at hx135_2)
        replace hx135_0 := (HB.out.cell (World.block_lt_of_cell? w _ hx135_0)).trans hx135_0
        replace hx135_1 := (HB.out.cell (World.block_lt_of_cell? w _ hx135_1)).trans hx135_1
        replace hx135_2 := (HB.out.cell (World.block_lt_of_cell? w _ hx135_2)).trans hx135_2
        have HR135_1 := Aside0.mk hi135_1
        have HC135_1 := Aside0.mk hl135_1
        clear hi135_1 hl135_1
        have HR135_2 := Aside0.mk hi135_2
        have HC135_2 := Aside0.mk hl135_2
        clear hi135_2 hl135_2
        replace p135 := eq_true p135
        replace q135 := eq_true q135
        go_wp2
        go_meet
        case rel => exact ⟨_, (decide ((((rd_T132 l0 0).f2).length : Int) > 0)), (by first | rfl | (simp; done) | (simp [*]; done)), H', ⟨by first | omega | exact Nat.le_refl _⟩, ⟨by (with_reducible repeat (first | refine blk_drewN ?_ _ | refine blk_drew ?_ | refine blk_alloc ?_ _)); exact BK134.out⟩, ⟨by repeat (first | (with_reducible first | exact HB.out | apply below_alloc | apply pw_below_drewN | apply below_drew1 | refine below_set ?_ GE134.out) | exact HB.out)⟩⟩
      · rw [if_neg c5] at H
        exact absurd H (by simp)
    · rw [if_neg c4] at H
      have c4b0 : ((l0.length : Int) == 1) = false := beq_eq_false_iff_ne.mpr c4
      have c4b1 : ((l0.length : Int) != 1) = true := bne_iff_ne.mpr c4
      (first | rw [c4b0] | (simp only [i64_w, i32_w]; rw [c4b0]) | skip)
      have H' := Aside0.mk H
      clear H
      go_wp2
      go_meet
      case rel => exact ⟨_, (true), (by first | rfl | (simp; done) | (simp [*]; done)), H', ⟨by first | omega | exact Nat.le_refl _⟩, ⟨by (with_reducible repeat (first | refine blk_drewN ?_ _ | refine blk_drew ?_ | refine blk_alloc ?_ _)); exact BK134.out⟩, ⟨by repeat (first | (with_reducible first | exact HB.out | apply below_alloc | apply pw_below_drewN | apply below_drew1 | refine below_set ?_ GE134.out) | exact HB.out)⟩⟩
  case rest =>
    clear HC2
    try clear c1
    try clear p1
    try clear q1
    try clear hx1
    try clear qi1
    try clear c2
    try clear p2
    try clear c4
    try clear c4b0
    try clear c4b1
    try clear c5
    try clear c5b0
    try clear c5b1
    try clear hx135_0
    try clear hx135_1
    try clear hx135_2
    try clear p135
    try clear q135
    obtain ⟨kq, x19_1, rfl, HA, HJ1, BK134, HB⟩ := hcut
    cases kq with
    | zero => exact absurd HA.out (by simp [flatironref19_Of.j0])
    | succ kj1 =>
      have H := HA.out
      clear HA
      simp only [flatironref19_Of.j0] at H
      by_cases c6 : x19_1 = true
      · subst c6
        have H1 : (some ((⟨#[]⟩ : ByteArray), ([] : List ByteArray), ([] : List (S69)), false)) = some (r1, r2, r3, r4) := by rw [if_pos rfl] at H; exact H
        clear H
        have H := H1
        clear H1
        simp only [Option.some.injEq, Prod.mk.injEq] at H
        obtain ⟨rfl, rfl, rfl, rfl⟩ := H
        have hcz7_0 : wc.cell? ⟨gb134, 0, none⟩ = some (.string (⟨#[]⟩ : ByteArray)) := (blk_cell BK134.out 0).trans rfl
        have hcz7_1 : wc.cell? ⟨gb134, 1, none⟩ = some (.slice none 0 0) := (blk_cell BK134.out 1).trans rfl
        have hcz7_2 : wc.cell? ⟨gb134, 2, none⟩ = some (.slice none 0 0) := (blk_cell BK134.out 2).trans rfl
        have hfz7_0 := blk_frozen BK134.out 0
        have hfz7_1 := blk_frozen BK134.out 1
        have hfz7_2 := blk_frozen BK134.out 2
        go_wp2
        refine bodyPost_ret (results_ct rfl _ _ gb134 64 #[.string (⟨#[]⟩ : ByteArray), .slice none 0 0, .slice none 0 0] (0, 0) _ rfl (by (with_reducible repeat (first | refine blk_drewN ?_ _ | refine blk_drew ?_ | refine blk_alloc ?_ _)); refine blk_put (cs := #[.string (⟨#[]⟩ : ByteArray), .slice none 0 0, .slice none 0 0]) ?_ 2 _ rfl; (with_reducible repeat (first | refine blk_drewN ?_ _ | refine blk_drew ?_ | refine blk_alloc ?_ _)); refine blk_put (cs := #[.string (⟨#[]⟩ : ByteArray), .slice none 0 0, .slice none 0 0]) ?_ 1 _ rfl; (with_reducible repeat (first | refine blk_drewN ?_ _ | refine blk_drew ?_ | refine blk_alloc ?_ _)); refine blk_put (cs := #[.string (⟨#[]⟩ : ByteArray), .slice none 0 0, .slice none 0 0]) ?_ 0 _ rfl; (with_reducible repeat (first | refine blk_drewN ?_ _ | refine blk_drew ?_ | refine blk_alloc ?_ _)); exact BK134.out) Try.underlying64 rfl (by kernel_rfl)) rfl ?_
        exact ⟨_, _, by first | rfl | (simp [errW_none, errW_some] <;> rfl) | (simp [*, errW_none, errW_some] <;> rfl), by first | exact Kd.R_nil _ _ _ _ _ | exact Kd.N_nil _ _ _ _ _ | exact Kd.V_nil _ _ _ _ _ | exact Kd.Q_nil _ _ _ _ _ | exact Kd.S_nil _ _ _ _ _, by first | exact Kd.R_nil _ _ _ _ _ | exact Kd.N_nil _ _ _ _ _ | exact Kd.V_nil _ _ _ _ _ | exact Kd.Q_nil _ _ _ _ _ | exact Kd.S_nil _ _ _ _ _, by repeat (first | (with_reducible first | exact HB.out | apply below_alloc | apply pw_below_drewN | apply below_drew1 | refine below_set ?_ GE134.out) | exact HB.out)⟩
      · replace c6 := Bool.eq_false_iff.mpr c6
        subst c6
        have H1 : (if 0 < (l0.length : Int) then (flatironref19_Of.l0 kj1 ((rd_T132 l0 0).f1) 1 (⟨#[46]⟩ : ByteArray) ([] : List ByteArray) ([] : List (S69))) else (none)) = some (r1, r2, r3, r4) := by rw [if_neg (show ¬ (false = true) by decide)] at H; exact H
        clear H
        have H := H1
        clear H1
        by_cases c8 : 0 < (l0.length : Int)
        · rw [if_pos c8] at H
          have c8b0 : decide (0 < (l0.length : Int)) = true := decide_eq_true c8
          have c8b1 : decide (0 < l0.length) = true := decide_eq_true (by omega)
          clear c8
          have H' := Aside0.mk H
          clear H
          have p136 : 0 ≤ (0 : Int) := (by omega)
          have q136 : 0 < (l0.length : Int) := of_decide_eq_true (by first | (with_reducible assumption) | assumption)
          obtain ⟨ad136, A136_1, c136_1, A136_2, c136_2, e136, hx136_0, hx136_1, hx136_2, hl136_1, hi136_1, hl136_2, hi136_2⟩ := at_T132 HR0.out 0 p136 q136
          cases e136
          have qi136 : (0 < l0.length) = True := eq_true (by omega)
          (try rw [show ((0 : Int)).toNat = 0 from rfl] at hx136_0)
          (try rw [show 0 * 3 = 0 from rfl] at hx136_0)
          (try rw [Addr.add_zero'] at hx136_0)
          (try rw [show ((0 : Int)).toNat = 0 from rfl] at hx136_1)
          (try rw [show 0 * 3 = 0 from rfl] at hx136_1)
          (try rw [Addr.add_zero'] at hx136_1)
          (try rw [show ((0 : Int)).toNat = 0 from rfl] at hx136_2)
          (try rw [show 0 * 3 = 0 from rfl] at hx136_2)
          (try rw [Addr.add_zero'] at hx136_2)
          replace hx136_0 := (HB.out.cell (World.block_lt_of_cell? w _ hx136_0)).trans hx136_0
          replace hx136_1 := (HB.out.cell (World.block_lt_of_cell? w _ hx136_1)).trans hx136_1
          replace hx136_2 := (HB.out.cell (World.block_lt_of_cell? w _ hx136_2)).trans hx136_2
          have HR136_1 := Aside0.mk hi136_1
          have HC136_1 := Aside0.mk hl136_1
          clear hi136_1 hl136_1
          have HR136_2 := Aside0.mk hi136_2
          have HC136_2 := Aside0.mk hl136_2
          clear hi136_2 hl136_2
          replace p136 := eq_true p136
          replace q136 := eq_true q136
          go_wp2_with (first | ((with_reducible refine gate_dst (N := 5) rfl ?_); (try (refine gate_guard (by rfl) ?_; dsimp only)); refine box_event ?hg (N := 5) ?hd (cs := #[.string (⟨#[]⟩ : ByteArray), .slice none 0 0, .slice none 0 0]) (t := 64) ?hr ?_; (case hd => rfl); (case hg => rfl); (case hr => first | (go_simp; done) | (go_simp; rfl)); intro gb137 hg w9 hbox hb; have n0_ := Aside0.mk (blk_below (g := gb134) (o := .cells #[.string (⟨#[]⟩ : ByteArray), .slice none 0 0, .slice none 0 0] 64 (0, 0)) (by (with_reducible repeat (first | refine blk_drewN ?_ _ | refine blk_drew ?_ | refine blk_alloc ?_ _)); exact BK134.out) hb); have n1_ := Aside0.mk (below_step (by repeat (first | (with_reducible first | exact HB.out | apply below_alloc | apply pw_below_drewN | apply below_drew1 | refine below_set ?_ GE134.out) | exact HB.out)) hb); have n2_ := Aside0.mk (hbox); have n3_ := Aside0.mk ((by rw [hg]; exact (below_size (by repeat (first | (with_reducible first | exact HB.out | apply below_alloc | apply pw_below_drewN | apply below_drew1 | refine below_set ?_ GE134.out) | exact HB.out))) : w.heap.size ≤ gb137)); have n4_ := Aside0.mk ((by rw [hg]; exact (below_size (by repeat (first | (with_reducible first | exact HB.out | apply below_alloc | apply pw_below_drewN | apply below_drew1 | refine below_set ?_ GE134.out) | exact HB.out))) : w.heap.size ≤ gb137)); have n5_ := Aside0.mk ((by rw [hg]; exact Nat.ne_of_lt (blk_lt (g := gb134) (o := .cells #[.string (⟨#[]⟩ : ByteArray), .slice none 0 0, .slice none 0 0] 64 (0, 0)) (by (with_reducible repeat (first | refine blk_drewN ?_ _ | refine blk_drew ?_ | refine blk_alloc ?_ _)); exact BK134.out)) : gb134 ≠ gb137)); have n6_ := Aside0.mk ((by rw [hg]; exact Nat.ne_of_gt (blk_lt (g := gb134) (o := .cells #[.string (⟨#[]⟩ : ByteArray), .slice none 0 0, .slice none 0 0] 64 (0, 0)) (by (with_reducible repeat (first | refine blk_drewN ?_ _ | refine blk_drew ?_ | refine blk_alloc ?_ _)); exact BK134.out)) : gb137 ≠ gb134)); clear BK134; clear HB; have BK134 := n0_; have HB := n1_; have BK137 := n2_; have GW137 := n3_; have GE137 := n4_; have NB134_137 := n5_; have NB137_134 := n6_; clear n0_ n1_ n2_ n3_ n4_ n5_ n6_; clear hb hbox hg; have hnb10 := NB137_134.out; have hnc10 := NB134_137.out; have hcz11_0 : w9.cell? ⟨gb137, 0, none⟩ = some (.string (⟨#[]⟩ : ByteArray)) := (blk_cell BK137.out 0).trans rfl; have hcz11_1 : w9.cell? ⟨gb137, 1, none⟩ = some (.slice none 0 0) := (blk_cell BK137.out 1).trans rfl; have hcz11_2 : w9.cell? ⟨gb137, 2, none⟩ = some (.slice none 0 0) := (blk_cell BK137.out 2).trans rfl; have hfz11_0 := blk_frozen BK137.out 0; have hfz11_1 := blk_frozen BK137.out 1; have hfz11_2 := blk_frozen BK137.out 2))
          go_loopg [6] kj1 (fun kq v6 w' => ∃ (x6_2 : Int) (x135000_2 : ByteArray) (x138000_2 : ByteArray) (x138001_2 : List ByteArray) (x138002_2 : List (S69)) (u138001 : Value) (u138002 : Value), v6 = .int .i64 x6_2 ∧ Aside0 (flatironref19_Of.l0 kq ((rd_T132 l0 0).f1) x6_2 x138000_2 x138001_2 x138002_2 = some (r1, r2, r3, r4)) ∧ Aside0 (kq ≤ kj1) ∧ Aside0 (Kd.R Kd.string 9 w' w.heap.size (fun _ => True) u138001 x138001_2) ∧ Aside0 (Kd.R k69 69 w' w.heap.size (fun _ => True) u138002 x138002_2) ∧ Aside0 (w'.heap[gb134]? = some (.cells #[.string x135000_2, (.slice none 0 0), (.slice none 0 0)] 64 (0, 0))) ∧ Aside0 (w'.heap[gb137]? = some (.cells #[.string x138000_2, u138001, u138002] 64 (0, 0))) ∧ Aside0 (Below w.heap.size w w'))
          case atStart => exact ⟨(1), ((⟨#[]⟩ : ByteArray)), ((⟨#[46]⟩ : ByteArray)), (([] : List ByteArray)), (([] : List (S69))), (.slice none 0 0), (.slice none 0 0), (by first | rfl | (simp; done) | (simp [*]; done)), H', ⟨Nat.le_refl _⟩, ⟨by first | exact Kd.R_nil _ _ _ _ _ | exact Kd.N_nil _ _ _ _ _ | exact Kd.V_nil _ _ _ _ _ | exact Kd.Q_nil _ _ _ _ _ | exact Kd.S_nil _ _ _ _ _⟩, ⟨by first | exact Kd.R_nil _ _ _ _ _ | exact Kd.N_nil _ _ _ _ _ | exact Kd.V_nil _ _ _ _ _ | exact Kd.Q_nil _ _ _ _ _ | exact Kd.S_nil _ _ _ _ _⟩, ⟨by (with_reducible repeat (first | refine blk_drewN ?_ _ | refine blk_drew ?_ | refine blk_alloc ?_ _)); refine blk_far ?_ NB134_137.out _; (with_reducible repeat (first | refine blk_drewN ?_ _ | refine blk_drew ?_ | refine blk_alloc ?_ _)); refine blk_far ?_ NB134_137.out _; (with_reducible repeat (first | refine blk_drewN ?_ _ | refine blk_drew ?_ | refine blk_alloc ?_ _)); refine blk_far ?_ NB134_137.out _; (with_reducible repeat (first | refine blk_drewN ?_ _ | refine blk_drew ?_ | refine blk_alloc ?_ _)); exact BK134.out⟩, ⟨by (with_reducible repeat (first | refine blk_drewN ?_ _ | refine blk_drew ?_ | refine blk_alloc ?_ _)); refine blk_put (cs := #[.string (⟨#[46]⟩ : ByteArray), .slice none 0 0, .slice none 0 0]) ?_ 2 _ rfl; (with_reducible repeat (first | refine blk_drewN ?_ _ | refine blk_drew ?_ | refine blk_alloc ?_ _)); refine blk_put (cs := #[.string (⟨#[46]⟩ : ByteArray), .slice none 0 0, .slice none 0 0]) ?_ 1 _ rfl; (with_reducible repeat (first | refine blk_drewN ?_ _ | refine blk_drew ?_ | refine blk_alloc ?_ _)); refine blk_put (cs := #[.string (⟨#[]⟩ : ByteArray), .slice none 0 0, .slice none 0 0]) ?_ 0 _ rfl; (with_reducible repeat (first | refine blk_drewN ?_ _ | refine blk_drew ?_ | refine blk_alloc ?_ _)); exact BK137.out⟩, ⟨by repeat (first | (with_reducible first | exact HB.out | apply below_alloc | apply pw_below_drewN | apply below_drew1 | refine below_set ?_ GE134.out | refine below_set ?_ GE137.out) | exact HB.out)⟩⟩
          case round =>
            clear H'
            try clear c1
            try clear p1
            try clear q1
            try clear hx1
            try clear qi1
            try clear c2
            try clear p2
            try clear c4
            try clear c4b0
            try clear c4b1
            try clear c5
            try clear c5b0
            try clear c5b1
            try clear c6
            try clear c8
            try clear c8b0
            try clear c8b1
            try clear c10
            try clear hcz11_0
            try clear hcz11_1
            try clear hcz11_2
            try clear hcz7_0
            try clear hcz7_1
            try clear hcz7_2
            try clear hfz11_0
            try clear hfz11_1
            try clear hfz11_2
            try clear hfz7_0
            try clear hfz7_1
            try clear hfz7_2
            try clear hx135_0
            try clear hx135_1
            try clear hx135_2
            try clear hx136_0
            try clear hx136_1
            try clear hx136_2
            try clear p1
            try clear p135
            try clear p136
            try clear p2
            try clear q1
            try clear q135
            try clear q136
            obtain ⟨x6_2, x135000_2, x138000_2, x138001_2, x138002_2, u138001, u138002, rfl, HA, HK2, HO_138001, HO_138002, BK134, BK137, HB⟩ := hrel
            cases gk with
            | zero => exact absurd HA.out (by simp [flatironref19_Of.l0])
            | succ k2 =>
              have H := HA.out
              clear HA
              simp only [flatironref19_Of.l0] at H
              by_cases c12 : x6_2 < (((rd_T132 l0 0).f1).length : Int)
              · rw [if_pos c12] at H
                have c12b0 : decide (x6_2 < (((rd_T132 l0 0).f1).length : Int)) = true := decide_eq_true c12
                clear c12
                by_cases c13 : 0 ≤ x6_2
                · rw [if_pos c13] at H
                  have c13b0 : decide (0 ≤ x6_2) = true := decide_eq_true c13
                  clear c13
                  replace H := Option.bind_eq_some_iff.mp H
                  obtain ⟨⟨t139, t140, t141⟩, A140, H⟩ := H
                  replace H : (if (rdOf ByteArray.empty ((rd_T132 l0 0).f1) x6_2).toList = ([45, 67] : List UInt8) then (flatironref19_Of.j2 k2 ((rd_T132 l0 0).f1) x6_2 t141 (decide ((wrap64 (x6_2 + 1)) < (((rd_T132 l0 0).f1).length : Int))) x138000_2 x138001_2 x138002_2 t139 t140) else (flatironref19_Of.j2 k2 ((rd_T132 l0 0).f1) x6_2 t141 false x138000_2 x138001_2 x138002_2 t139 t140)) = some (r1, r2, r3, r4) := H
                  have A14 := Aside0.mk A140
                  clear A140
                  have HC15 := Aside0.mk H
                  clear H
                  have p138 : 0 ≤ (x6_2 : Int) := of_decide_eq_true (by first | (with_reducible assumption) | assumption)
                  have q138 : x6_2 < (((rd_T132 l0 0).f1).length : Int) := of_decide_eq_true (by first | (with_reducible assumption) | assumption)
                  obtain ⟨ad138, e138, hx138_0⟩ := Kd.at_string HR136_1.out x6_2 p138 q138
                  cases e138
                  replace hx138_0 := (HB.out.cell (World.block_lt_of_cell? w _ hx138_0)).trans hx138_0
                  replace p138 := eq_true p138
                  replace q138 := eq_true q138
                  go_upto_region 8 with (first | ((with_reducible refine gate_callee (f := 49) rfl ?_); refine goesL_ (some 35) rfl rfl Try.func49 (by kernel_rfl) rfl #[.string (rdOf ByteArray.empty ((rd_T132 l0 0).f1) x6_2)] rfl (by (try simp only [List.map_toArray, List.map_cons, List.map_nil]); first | done | rfl | (simp only [List.length_drop, List.length_take]; rfl)) ?_; (with_reducible refine (flatironref19_set.calls k2 (rdOf ByteArray.empty ((rd_T132 l0 0).f1) x6_2) t139 t140 t141 _ A14.out).mono ?_); rintro e w16 ⟨rfl, hb⟩; refine ⟨_, rfl, ?_⟩; have n0_ := Aside0.mk (Kd.R_below (by (with_reducible repeat (first | apply Kd.R_alloc | apply Kd.R_drewN | apply Kd.R_drew)); (first | exact HO_138001.out | (first | refine Kd.R_mono HO_138001.out (fun _ hk => ?_) | refine Kd.S_mono HO_138001.out (fun _ hk => ?_) | refine Kd.Q_mono HO_138001.out (fun _ hk => ?_)); simp only [ownBlock_slice] at hk ⊢; exact hk)) hb); have n1_ := Aside0.mk (Kd.R_below (by (with_reducible repeat (first | apply Kd.R_alloc | apply Kd.R_drewN | apply Kd.R_drew)); (first | exact HO_138002.out | (first | refine Kd.R_mono HO_138002.out (fun _ hk => ?_) | refine Kd.S_mono HO_138002.out (fun _ hk => ?_) | refine Kd.Q_mono HO_138002.out (fun _ hk => ?_)); simp only [ownBlock_slice] at hk ⊢; exact hk)) hb); have n2_ := Aside0.mk (blk_below (g := gb134) (o := .cells #[.string x135000_2, .slice none 0 0, .slice none 0 0] 64 (0, 0)) (by (with_reducible repeat (first | refine blk_drewN ?_ _ | refine blk_drew ?_ | refine blk_alloc ?_ _)); exact BK134.out) hb); have n3_ := Aside0.mk (blk_below (g := gb137) (o := .cells #[.string x138000_2, u138001, u138002] 64 (0, 0)) (by (with_reducible repeat (first | refine blk_drewN ?_ _ | refine blk_drew ?_ | refine blk_alloc ?_ _)); exact BK137.out) hb); have n4_ := Aside0.mk (below_step (by repeat (first | (with_reducible first | exact HB.out | apply below_alloc | apply pw_below_drewN | apply below_drew1 | refine below_set ?_ GE134.out | refine below_set ?_ GE137.out) | exact HB.out)) hb); clear HO_138001; clear HO_138002; clear BK134; clear BK137; clear HB; have HO_138001 := n0_; have HO_138002 := n1_; have BK134 := n2_; have BK137 := n3_; have HB := n4_; clear n0_ n1_ n2_ n3_ n4_; (try clear hb); (try clear hb2); (try clear hk); (try clear hi)) | ((with_reducible refine gate_dst (N := 7) rfl ?_); (try (refine gate_guard (by rfl) ?_; dsimp only)); refine box_event ?hg (N := 7) ?hd (cs := #[.string (⟨#[]⟩ : ByteArray), .string (⟨#[]⟩ : ByteArray)]) (t := 69) ?hr ?_; (case hd => rfl); (case hg => rfl); (case hr => first | (go_simp; done) | (go_simp; rfl)); intro gb142 hg w17 hbox hb; have n0_ := Aside0.mk (Kd.R_below (by (with_reducible repeat (first | apply Kd.R_alloc | apply Kd.R_drewN | apply Kd.R_drew)); (first | exact HO_138001.out | (first | refine Kd.R_mono HO_138001.out (fun _ hk => ?_) | refine Kd.S_mono HO_138001.out (fun _ hk => ?_) | refine Kd.Q_mono HO_138001.out (fun _ hk => ?_)); simp only [ownBlock_slice] at hk ⊢; exact hk)) hb); have n1_ := Aside0.mk (Kd.R_below (Kd.R_elderB (by (with_reducible repeat (first | apply Kd.R_alloc | apply Kd.R_drewN | apply Kd.R_drew)); (first | exact HO_138002.out | (first | refine Kd.R_mono HO_138002.out (fun _ hk => ?_) | refine Kd.S_mono HO_138002.out (fun _ hk => ?_) | refine Kd.Q_mono HO_138002.out (fun _ hk => ?_)); simp only [ownBlock_slice] at hk ⊢; exact hk)) gb142 (Nat.le_of_eq hg.symm)) hb); have n2_ := Aside0.mk (blk_below (g := gb134) (o := .cells #[.string x135000_2, .slice none 0 0, .slice none 0 0] 64 (0, 0)) (by (with_reducible repeat (first | refine blk_drewN ?_ _ | refine blk_drew ?_ | refine blk_alloc ?_ _)); exact BK134.out) hb); have n3_ := Aside0.mk (blk_below (g := gb137) (o := .cells #[.string x138000_2, u138001, u138002] 64 (0, 0)) (by (with_reducible repeat (first | refine blk_drewN ?_ _ | refine blk_drew ?_ | refine blk_alloc ?_ _)); exact BK137.out) hb); have n4_ := Aside0.mk (below_step (by repeat (first | (with_reducible first | exact HB.out | apply below_alloc | apply pw_below_drewN | apply below_drew1 | refine below_set ?_ GE134.out | refine below_set ?_ GE137.out) | exact HB.out)) hb); have n5_ := Aside0.mk (hbox); have n6_ := Aside0.mk ((by rw [hg]; exact (below_size (by repeat (first | (with_reducible first | exact HB.out | apply below_alloc | apply pw_below_drewN | apply below_drew1 | refine below_set ?_ GE134.out | refine below_set ?_ GE137.out) | exact HB.out))) : w.heap.size ≤ gb142)); have n7_ := Aside0.mk ((by rw [hg]; exact (below_size (by repeat (first | (with_reducible first | exact HB.out | apply below_alloc | apply pw_below_drewN | apply below_drew1 | refine below_set ?_ GE134.out | refine below_set ?_ GE137.out) | exact HB.out))) : w.heap.size ≤ gb142)); have n8_ := Aside0.mk ((by rw [hg]; exact Nat.ne_of_lt (blk_lt (g := gb134) (o := .cells #[.string x135000_2, .slice none 0 0, .slice none 0 0] 64 (0, 0)) (by (with_reducible repeat (first | refine blk_drewN ?_ _ | refine blk_drew ?_ | refine blk_alloc ?_ _)); exact BK134.out)) : gb134 ≠ gb142)); have n9_ := Aside0.mk ((by rw [hg]; exact Nat.ne_of_gt (blk_lt (g := gb134) (o := .cells #[.string x135000_2, .slice none 0 0, .slice none 0 0] 64 (0, 0)) (by (with_reducible repeat (first | refine blk_drewN ?_ _ | refine blk_drew ?_ | refine blk_alloc ?_ _)); exact BK134.out)) : gb142 ≠ gb134)); have n10_ := Aside0.mk ((by rw [hg]; exact Nat.ne_of_lt (blk_lt (g := gb137) (o := .cells #[.string x138000_2, u138001, u138002] 64 (0, 0)) (by (with_reducible repeat (first | refine blk_drewN ?_ _ | refine blk_drew ?_ | refine blk_alloc ?_ _)); exact BK137.out)) : gb137 ≠ gb142)); have n11_ := Aside0.mk ((by rw [hg]; exact Nat.ne_of_gt (blk_lt (g := gb137) (o := .cells #[.string x138000_2, u138001, u138002] 64 (0, 0)) (by (with_reducible repeat (first | refine blk_drewN ?_ _ | refine blk_drew ?_ | refine blk_alloc ?_ _)); exact BK137.out)) : gb142 ≠ gb137)); clear HO_138001; clear HO_138002; clear BK134; clear BK137; clear HB; have HO_138001 := n0_; have HO_138002 := n1_; have BK134 := n2_; have BK137 := n3_; have HB := n4_; have BK142 := n5_; have GW142 := n6_; have GE142 := n7_; have NB134_142 := n8_; have NB142_134 := n9_; have NB137_142 := n10_; have NB142_137 := n11_; clear n0_ n1_ n2_ n3_ n4_ n5_ n6_ n7_ n8_ n9_ n10_ n11_; clear hb hbox hg; have hnb18 := NB142_134.out; have hnc18 := NB134_142.out; have hnb19 := NB142_137.out; have hnc19 := NB137_142.out; have hcz20_0 : w17.cell? ⟨gb142, 0, none⟩ = some (.string (⟨#[]⟩ : ByteArray)) := (blk_cell BK142.out 0).trans rfl; have hcz20_1 : w17.cell? ⟨gb142, 1, none⟩ = some (.string (⟨#[]⟩ : ByteArray)) := (blk_cell BK142.out 1).trans rfl; have hfz20_0 := blk_frozen BK142.out 0; have hfz20_1 := blk_frozen BK142.out 1))
                  (try simp only [Act.put, List.setIfInBounds_toArray, List.set_cons_zero, List.set_cons_succ])
                  go_cut [49] (fun v49 wc => ∃ (kq : Nat) (x49_14 : Bool), v49 = .bool x49_14 ∧ Aside0 (flatironref19_Of.j2 kq ((rd_T132 l0 0).f1) x6_2 t141 x49_14 x138000_2 x138001_2 x138002_2 t139 t140 = some (r1, r2, r3, r4)) ∧ Aside0 (kq ≤ k2) ∧ Aside0 (Kd.R Kd.string 9 wc w.heap.size (fun _ => True) u138001 x138001_2) ∧ Aside0 (Kd.R k69 69 wc w.heap.size (fun k_ => k_ ≠ gb142) u138002 x138002_2) ∧ Aside0 (wc.heap[gb134]? = some (.cells #[.string x135000_2, (.slice none 0 0), (.slice none 0 0)] 64 (0, 0))) ∧ Aside0 (wc.heap[gb137]? = some (.cells #[.string x138000_2, u138001, u138002] 64 (0, 0))) ∧ Aside0 (wc.heap[gb142]? = some (.cells #[.string t139, .string t140] 69 (0, 0))) ∧ Aside0 (Below w.heap.size w wc))
                  case first =>
                    have H := HC15.out
                    clear HC15
                    by_cases c21 : (rdOf ByteArray.empty ((rd_T132 l0 0).f1) x6_2).toList = ([45, 67] : List UInt8)
                    · rw [if_pos c21] at H
                      have c21b0 : ((rdOf ByteArray.empty ((rd_T132 l0 0).f1) x6_2).toList == ([45, 67] : List UInt8)) = true := beq_iff_eq.mpr c21
                      have c21b1 : ((rdOf ByteArray.empty ((rd_T132 l0 0).f1) x6_2).toList != ([45, 67] : List UInt8)) = false := bne_eq_false_iff_eq.mpr c21
                      clear c21
                      (first | rw [c21b0] | (simp only [i64_w, i32_w]; rw [c21b0]) | skip)
                      have H' := Aside0.mk H
                      clear H
                      have p143 : 0 ≤ (x6_2 : Int) := of_decide_eq_true (by first | (with_reducible assumption) | assumption)
                      have q143 : x6_2 < (((rd_T132 l0 0).f1).length : Int) := of_decide_eq_true (by first | (with_reducible assumption) | assumption)
                      obtain ⟨ad143, e143, hx143_0⟩ := Kd.at_string HR136_1.out x6_2 p143 q143
                      obtain rfl : ad138 = ad143 := (by injection e143)
                      have hn143_0 : ad138.block ≠ gb142 := Nat.ne_of_lt (Nat.lt_of_lt_of_le (by have := World.block_lt_of_cell? _ _ hx143_0; first | rwa [add_block] at this | exact this) GW142.out)
                      have hn143_1 : ad138.block ≠ gb142 := Nat.ne_of_lt (Nat.lt_of_lt_of_le (by have := World.block_lt_of_cell? _ _ hx143_0; first | rwa [add_block] at this | exact this) GW142.out)
                      replace hx143_0 := (HB.out.cell (World.block_lt_of_cell? w _ hx143_0)).trans hx143_0
                      replace hx143_0 := (cell_far (p := ⟨gb142, 0, none⟩) (by first | (rw [add_block]; exact hn143_0) | (show (Addr.add _ _).block ≠ _; rw [add_block]; exact hn143_0) | exact hn143_0) (.string t139)).trans hx143_0
                      replace hx143_0 := (cell_far (p := ⟨gb142, 1, none⟩) (by first | (rw [add_block]; exact hn143_1) | (show (Addr.add _ _).block ≠ _; rw [add_block]; exact hn143_1) | exact hn143_1) (.string t140)).trans hx143_0
                      clear hn143_0
                      clear hn143_1
                      replace p143 := eq_true p143
                      replace q143 := eq_true q143
                      go_wp2
                      go_meet
                      case rel => exact ⟨_, (decide ((wrap64 (x6_2 + 1)) < (((rd_T132 l0 0).f1).length : Int))), (by first | rfl | (simp; done) | (simp [*]; done)), H', ⟨by have := HJ1.out; have := HK2.out; first | omega | exact Nat.le_refl _⟩, ⟨by (with_reducible repeat (first | apply Kd.R_alloc | apply Kd.R_drewN | apply Kd.R_drew)); exact Kd.R_mono (Kd.R_far (p := ⟨gb142, 1, none⟩) (Kd.R_far (p := ⟨gb142, 0, none⟩) (Kd.R_types HO_138001.out BK142.out (by decide)) (fun _ hk => hk.2) (.string t139)) (fun _ hk => hk.2) (.string t140)) (fun _ hk => trivial)⟩, ⟨by (with_reducible repeat (first | apply Kd.R_alloc | apply Kd.R_drewN | apply Kd.R_drew)); exact Kd.R_mono (Kd.R_far (p := ⟨gb142, 1, none⟩) (Kd.R_far (p := ⟨gb142, 0, none⟩) (Kd.R_mono HO_138002.out (fun k_ hk => (⟨hk, hk.2⟩ : _ ∧ k_ ≠ gb142))) (fun _ hk => hk.2) (.string t139)) (fun _ hk => hk.2) (.string t140)) (fun _ hk => hk.1.2)⟩, ⟨by (with_reducible repeat (first | refine blk_drewN ?_ _ | refine blk_drew ?_ | refine blk_alloc ?_ _)); refine blk_far ?_ NB134_142.out _; (with_reducible repeat (first | refine blk_drewN ?_ _ | refine blk_drew ?_ | refine blk_alloc ?_ _)); refine blk_far ?_ NB134_142.out _; (with_reducible repeat (first | refine blk_drewN ?_ _ | refine blk_drew ?_ | refine blk_alloc ?_ _)); exact BK134.out⟩, ⟨by (with_reducible repeat (first | refine blk_drewN ?_ _ | refine blk_drew ?_ | refine blk_alloc ?_ _)); refine blk_far ?_ NB137_142.out _; (with_reducible repeat (first | refine blk_drewN ?_ _ | refine blk_drew ?_ | refine blk_alloc ?_ _)); refine blk_far ?_ NB137_142.out _; (with_reducible repeat (first | refine blk_drewN ?_ _ | refine blk_drew ?_ | refine blk_alloc ?_ _)); exact BK137.out⟩, ⟨by (with_reducible repeat (first | refine blk_drewN ?_ _ | refine blk_drew ?_ | refine blk_alloc ?_ _)); refine blk_put (cs := #[.string t139, .string (⟨#[]⟩ : ByteArray)]) ?_ 1 _ rfl; (with_reducible repeat (first | refine blk_drewN ?_ _ | refine blk_drew ?_ | refine blk_alloc ?_ _)); refine blk_put (cs := #[.string (⟨#[]⟩ : ByteArray), .string (⟨#[]⟩ : ByteArray)]) ?_ 0 _ rfl; (with_reducible repeat (first | refine blk_drewN ?_ _ | refine blk_drew ?_ | refine blk_alloc ?_ _)); exact BK142.out⟩, ⟨by repeat (first | (with_reducible first | exact HB.out | apply below_alloc | apply pw_below_drewN | apply below_drew1 | refine below_set ?_ GE134.out | refine below_set ?_ GE137.out | refine below_set ?_ GE142.out) | exact HB.out)⟩⟩
                    · rw [if_neg c21] at H
                      have c21b0 : ((rdOf ByteArray.empty ((rd_T132 l0 0).f1) x6_2).toList == ([45, 67] : List UInt8)) = false := beq_eq_false_iff_ne.mpr c21
                      have c21b1 : ((rdOf ByteArray.empty ((rd_T132 l0 0).f1) x6_2).toList != ([45, 67] : List UInt8)) = true := bne_iff_ne.mpr c21
                      (first | rw [c21b0] | (simp only [i64_w, i32_w]; rw [c21b0]) | skip)
                      have H' := Aside0.mk H
                      clear H
                      have p143 : 0 ≤ (x6_2 : Int) := of_decide_eq_true (by first | (with_reducible assumption) | assumption)
                      have q143 : x6_2 < (((rd_T132 l0 0).f1).length : Int) := of_decide_eq_true (by first | (with_reducible assumption) | assumption)
                      obtain ⟨ad143, e143, hx143_0⟩ := Kd.at_string HR136_1.out x6_2 p143 q143
                      obtain rfl : ad138 = ad143 := (by injection e143)
                      have hn143_0 : ad138.block ≠ gb142 := Nat.ne_of_lt (Nat.lt_of_lt_of_le (by have := World.block_lt_of_cell? _ _ hx143_0; first | rwa [add_block] at this | exact this) GW142.out)
                      have hn143_1 : ad138.block ≠ gb142 := Nat.ne_of_lt (Nat.lt_of_lt_of_le (by have := World.block_lt_of_cell? _ _ hx143_0; first | rwa [add_block] at this | exact this) GW142.out)
                      replace hx143_0 := (HB.out.cell (World.block_lt_of_cell? w _ hx143_0)).trans hx143_0
                      replace hx143_0 := (cell_far (p := ⟨gb142, 0, none⟩) (by first | (rw [add_block]; exact hn143_0) | (show (Addr.add _ _).block ≠ _; rw [add_block]; exact hn143_0) | exact hn143_0) (.string t139)).trans hx143_0
                      replace hx143_0 := (cell_far (p := ⟨gb142, 1, none⟩) (by first | (rw [add_block]; exact hn143_1) | (show (Addr.add _ _).block ≠ _; rw [add_block]; exact hn143_1) | exact hn143_1) (.string t140)).trans hx143_0
                      clear hn143_0
                      clear hn143_1
                      replace p143 := eq_true p143
                      replace q143 := eq_true q143
                      go_wp2
                      go_meet
                      case rel => exact ⟨_, (false), (by first | rfl | (simp; done) | (simp [*]; done)), H', ⟨by have := HJ1.out; have := HK2.out; first | omega | exact Nat.le_refl _⟩, ⟨by (with_reducible repeat (first | apply Kd.R_alloc | apply Kd.R_drewN | apply Kd.R_drew)); exact Kd.R_mono (Kd.R_far (p := ⟨gb142, 1, none⟩) (Kd.R_far (p := ⟨gb142, 0, none⟩) (Kd.R_types HO_138001.out BK142.out (by decide)) (fun _ hk => hk.2) (.string t139)) (fun _ hk => hk.2) (.string t140)) (fun _ hk => trivial)⟩, ⟨by (with_reducible repeat (first | apply Kd.R_alloc | apply Kd.R_drewN | apply Kd.R_drew)); exact Kd.R_mono (Kd.R_far (p := ⟨gb142, 1, none⟩) (Kd.R_far (p := ⟨gb142, 0, none⟩) (Kd.R_mono HO_138002.out (fun k_ hk => (⟨hk, hk.2⟩ : _ ∧ k_ ≠ gb142))) (fun _ hk => hk.2) (.string t139)) (fun _ hk => hk.2) (.string t140)) (fun _ hk => hk.1.2)⟩, ⟨by (with_reducible repeat (first | refine blk_drewN ?_ _ | refine blk_drew ?_ | refine blk_alloc ?_ _)); refine blk_far ?_ NB134_142.out _; (with_reducible repeat (first | refine blk_drewN ?_ _ | refine blk_drew ?_ | refine blk_alloc ?_ _)); refine blk_far ?_ NB134_142.out _; (with_reducible repeat (first | refine blk_drewN ?_ _ | refine blk_drew ?_ | refine blk_alloc ?_ _)); exact BK134.out⟩, ⟨by (with_reducible repeat (first | refine blk_drewN ?_ _ | refine blk_drew ?_ | refine blk_alloc ?_ _)); refine blk_far ?_ NB137_142.out _; (with_reducible repeat (first | refine blk_drewN ?_ _ | refine blk_drew ?_ | refine blk_alloc ?_ _)); refine blk_far ?_ NB137_142.out _; (with_reducible repeat (first | refine blk_drewN ?_ _ | refine blk_drew ?_ | refine blk_alloc ?_ _)); exact BK137.out⟩, ⟨by (with_reducible repeat (first | refine blk_drewN ?_ _ | refine blk_drew ?_ | refine blk_alloc ?_ _)); refine blk_put (cs := #[.string t139, .string (⟨#[]⟩ : ByteArray)]) ?_ 1 _ rfl; (with_reducible repeat (first | refine blk_drewN ?_ _ | refine blk_drew ?_ | refine blk_alloc ?_ _)); refine blk_put (cs := #[.string (⟨#[]⟩ : ByteArray), .string (⟨#[]⟩ : ByteArray)]) ?_ 0 _ rfl; (with_reducible repeat (first | refine blk_drewN ?_ _ | refine blk_drew ?_ | refine blk_alloc ?_ _)); exact BK142.out⟩, ⟨by repeat (first | (with_reducible first | exact HB.out | apply below_alloc | apply pw_below_drewN | apply below_drew1 | refine below_set ?_ GE134.out | refine below_set ?_ GE137.out | refine below_set ?_ GE142.out) | exact HB.out)⟩⟩
                  case rest =>
                    clear HC15
                    try clear c1
                    try clear p1
                    try clear q1
                    try clear hx1
                    try clear qi1
                    try clear c2
                    try clear p2
                    try clear c4
                    try clear c4b0
                    try clear c4b1
                    try clear c5
                    try clear c5b0
                    try clear c5b1
                    try clear c6
                    try clear p6
                    try clear c8
                    try clear c8b0
                    try clear c8b1
                    try clear c10
                    try clear c12
                    try clear c12b0
                    try clear c13
                    try clear c13b0
                    try clear p13
                    try clear q13
                    try clear hx13
                    try clear qi13
                    try clear p14
                    try clear q14
                    try clear hx14
                    try clear c18
                    try clear c19
                    try clear c21
                    try clear c21b0
                    try clear c21b1
                    try clear hcz11_0
                    try clear hcz11_1
                    try clear hcz11_2
                    try clear hcz20_0
                    try clear hcz20_1
                    try clear hcz7_0
                    try clear hcz7_1
                    try clear hcz7_2
                    try clear hfz11_0
                    try clear hfz11_1
                    try clear hfz11_2
                    try clear hfz20_0
                    try clear hfz20_1
                    try clear hfz7_0
                    try clear hfz7_1
                    try clear hfz7_2
                    try clear hx135_0
                    try clear hx135_1
                    try clear hx135_2
                    try clear hx136_0
                    try clear hx136_1
                    try clear hx136_2
                    try clear hx138_0
                    try clear hx143_0
                    try clear p1
                    try clear p135
                    try clear p136
                    try clear p138
                    try clear p143
                    try clear p2
                    try clear q1
                    try clear q135
                    try clear q136
                    try clear q138
                    try clear q143
                    obtain ⟨kq, x49_14, rfl, HA, HJ14, HO_138001, HO_138002, BK134, BK137, BK142, HB⟩ := hcut
                    cases kq with
                    | zero => exact absurd HA.out (by simp [flatironref19_Of.j2])
                    | succ kj14 =>
                      have H := HA.out
                      clear HA
                      simp only [flatironref19_Of.j2] at H
                      by_cases c22 : x49_14 = true
                      · subst c22
                        have H1 : (if x138000_2.size + 1 ≤ 9223372036854775807 then (if 0 ≤ (wrap64 (x6_2 + 1)) then (if (wrap64 (x6_2 + 1)) < (((rd_T132 l0 0).f1).length : Int) then (if (x138000_2.size + 1) + ((rdOf ByteArray.empty ((rd_T132 l0 0).f1) (wrap64 (x6_2 + 1))).size) ≤ 9223372036854775807 then (flatironref19_Of.l0 kj14 ((rd_T132 l0 0).f1) (wrap64 ((wrap64 (x6_2 + 1)) + 1)) ((x138000_2 ++ (⟨#[47]⟩ : ByteArray)) ++ (rdOf ByteArray.empty ((rd_T132 l0 0).f1) (wrap64 (x6_2 + 1)))) x138001_2 x138002_2) else (none)) else (none)) else (none)) else (none)) = some (r1, r2, r3, r4) := by rw [if_pos rfl] at H; exact H
                        clear H
                        have H := H1
                        clear H1
                        by_cases c23 : x138000_2.size + 1 ≤ 9223372036854775807
                        · rw [if_pos c23] at H
                          have c23b0 := eq_true c23
                          have c23b1 : decide (x138000_2.size + 1 ≤ 9223372036854775807) = true := decide_eq_true c23
                          try have c23b2 : (9223372036854775807 < x138000_2.size + 1) = False := eq_false (Nat.not_lt.2 c23)
                          obtain ⟨ji24, hji24⟩ : ∃ j_ : Int, (wrap64 (x6_2 + 1)) = j_ := ⟨_, rfl⟩
                          replace H : (if 0 ≤ (ji24) then (if (ji24) < (((rd_T132 l0 0).f1).length : Int) then (if (x138000_2.size + 1) + ((rdOf ByteArray.empty ((rd_T132 l0 0).f1) (ji24)).size) ≤ 9223372036854775807 then (flatironref19_Of.l0 kj14 ((rd_T132 l0 0).f1) (wrap64 ((ji24) + 1)) ((x138000_2 ++ (⟨#[47]⟩ : ByteArray)) ++ (rdOf ByteArray.empty ((rd_T132 l0 0).f1) (ji24))) x138001_2 x138002_2) else (none)) else (none)) else (none)) = some (r1, r2, r3, r4) := by first | (rw [hji24] at H; exact H) | (simp only [hji24] at H ⊢; exact H)
                          have hji24w : (IntKind.i64.wrap (x6_2 + 1)) = ji24 := (i64_w _).trans hji24
                          by_cases c25 : 0 ≤ (ji24)
                          · rw [if_pos c25] at H
                            have c25b0 : decide (0 ≤ (ji24)) = true := decide_eq_true c25
                            clear c25
                            by_cases c26 : (ji24) < (((rd_T132 l0 0).f1).length : Int)
                            · rw [if_pos c26] at H
                              have c26b0 : decide ((ji24) < (((rd_T132 l0 0).f1).length : Int)) = true := decide_eq_true c26
                              clear c26
                              by_cases c27 : (x138000_2.size + 1) + ((rdOf ByteArray.empty ((rd_T132 l0 0).f1) (ji24)).size) ≤ 9223372036854775807
                              · rw [if_pos c27] at H
                                have c27b0 := eq_true c27
                                have c27b1 : decide ((x138000_2.size + 1) + ((rdOf ByteArray.empty ((rd_T132 l0 0).f1) (ji24)).size) ≤ 9223372036854775807) = true := decide_eq_true c27
                                try have c27b2 : (9223372036854775807 < (x138000_2.size + 1) + ((rdOf ByteArray.empty ((rd_T132 l0 0).f1) (ji24)).size)) = False := eq_false (Nat.not_lt.2 c27)
                                have H' := Aside0.mk H
                                clear H
                                try go_wp2
                                have n0_ := Aside0.mk (Kd.R_drew HO_138001.out)
                                have n1_ := Aside0.mk (Kd.R_drew HO_138002.out)
                                have n2_ := Aside0.mk (blk_drew BK134.out)
                                have n3_ := Aside0.mk (blk_drew BK137.out)
                                have n4_ := Aside0.mk (blk_drew BK142.out)
                                have n5_ := Aside0.mk (below_drew1 HB.out)
                                clear HO_138001
                                clear HO_138002
                                clear BK134
                                clear BK137
                                clear BK142
                                clear HB
                                have HO_138001 := n0_
                                have HO_138002 := n1_
                                have BK134 := n2_
                                have BK137 := n3_
                                have BK142 := n4_
                                have HB := n5_
                                clear n0_ n1_ n2_ n3_ n4_ n5_
                                have p144 : 0 ≤ ((ji24) : Int) := of_decide_eq_true (by first | (with_reducible assumption) | assumption)
                                have q144 : (ji24) < (((rd_T132 l0 0).f1).length : Int) := of_decide_eq_true (by first | (with_reducible assumption) | assumption)
                                obtain ⟨ad144, e144, hx144_0⟩ := Kd.at_string HR136_1.out (ji24) p144 q144
                                have hw144_0 := hx144_0
                                obtain rfl : ad138 = ad144 := (by injection e144)
                                replace hx144_0 := (HB.out.cell (World.block_lt_of_cell? w _ hx144_0)).trans hx144_0
                                replace p144 := eq_true p144
                                replace q144 := eq_true q144
                                refine start_ (n := 11) (S := fun w' => w'.cell? ⟨gb137, 0, none⟩ = some (.string x138000_2) ∧ w'.cell? ⟨gb137, 1, none⟩ = some (u138001) ∧ w'.cell? ⟨gb137, 2, none⟩ = some (u138002) ∧ w'.cell? (ad138.add ((ji24)).toNat) = some (.string (rdOf ByteArray.empty ((rd_T132 l0 0).f1) (ji24)))) (ds := [10]) #[false, false, false, false, false, false, false, false, false, false, false] (by kernel_rfl) rfl rfl ⟨(blk_cell BK137.out 0).trans rfl, (blk_cell BK137.out 1).trans rfl, (blk_cell BK137.out 2).trans rfl, ((HB.out.cell (World.block_lt_of_cell? w _ hw144_0)).trans hw144_0)⟩ (fun hHeld => ?_); refine with_tabW flatironref19_Of.tab9 flatironref19_Of.bits9 (fun HT_ HW_ => ?_)
                                generalize wc.drew = w28 at HO_138001 HO_138002 BK134 BK137 BK142 HB hx144_0 hHeld ⊢
                                refine pure_ (i := 0) (N := some 50) (v := ?_) (a' := ?_) #[true, false, false, false, false, false, false, false, false, false, false] rfl rfl (any_of HT_.out (by kernel_rfl)) (fun _ _ _ h => h) (Or.inl ⟨by rfl, ?_⟩) ?_ ?_
                                rotate_left
                                · intro w'
                                  go_simp
                                  with_reducible rfl
                                rotate_left
                                · simp only [Act.put, List.setIfInBounds_toArray, List.set_cons_zero, List.set_cons_succ, i64_w, i32_w]
                                  rfl
                                refine pure_ (i := 3) (N := some 53) (v := ?_) (a' := ?_) #[true, false, false, true, false, false, false, false, false, false, false] rfl rfl (any_of HT_.out (by kernel_rfl)) (fun _ _ _ h => h) (Or.inl ⟨by rfl, ?_⟩) ?_ ?_
                                rotate_left
                                · intro w'
                                  go_simp
                                  with_reducible rfl
                                rotate_left
                                · simp only [Act.put, List.setIfInBounds_toArray, List.set_cons_zero, List.set_cons_succ, i64_w, i32_w]
                                  rfl
                                refine pure_ (i := 4) (N := some 54) (v := ?_) (a' := ?_) #[true, false, false, true, true, false, false, false, false, false, false] rfl rfl (any_of HT_.out (by kernel_rfl)) (fun _ _ _ h => h) (Or.inl ⟨by rfl, ?_⟩) ?_ ?_
                                rotate_left
                                · intro w'
                                  go_simp
                                  with_reducible rfl
                                rotate_left
                                · simp only [Act.put, List.setIfInBounds_toArray, List.set_cons_zero, List.set_cons_succ, i64_w, i32_w]
                                  rfl
                                refine pure_ (i := 5) (N := some 55) (v := ?_) (a' := ?_) #[true, false, false, true, true, true, false, false, false, false, false] rfl rfl (any_of HT_.out (by kernel_rfl)) (fun _ _ _ h => h) (Or.inl ⟨by rfl, ?_⟩) ?_ ?_
                                rotate_left
                                · intro w'
                                  go_simp
                                  with_reducible rfl
                                rotate_left
                                · simp only [Act.put, List.setIfInBounds_toArray, List.set_cons_zero, List.set_cons_succ, i64_w, i32_w]
                                  rfl
                                refine pure_ (i := 6) (N := some 56) (v := ?_) (a' := ?_) #[true, false, false, true, true, true, true, false, false, false, false] rfl rfl (any_of HT_.out (by kernel_rfl)) (fun _ _ _ h => h) (Or.inl ⟨by rfl, ?_⟩) ?_ ?_
                                rotate_left
                                · intro w'
                                  go_simp
                                  with_reducible rfl
                                rotate_left
                                · simp only [Act.put, List.setIfInBounds_toArray, List.set_cons_zero, List.set_cons_succ, i64_w, i32_w]
                                  rfl
                                refine take_ (i := 1) (N := some 51) (v := ?_) (a' := ?_) #[true, true, false, true, true, true, true, false, false, false, false] rfl rfl (take_ofW HT_.out HW_.out (by kernel_rfl)) (fun _ _ _ h => h) (Or.inl ⟨by rfl, ?_⟩) hHeld ?_ ?_
                                rotate_left
                                · rintro w' ⟨s0, s1, s2, s3⟩
                                  go_simp
                                  with_reducible rfl
                                rotate_left
                                · simp only [Act.put, List.setIfInBounds_toArray, List.set_cons_zero, List.set_cons_succ, i64_w, i32_w]
                                  rfl
                                refine pure_ (i := 2) (N := some 52) (v := ?_) (a' := ?_) #[true, true, true, true, true, true, true, false, false, false, false] rfl rfl (any_of HT_.out (by kernel_rfl)) (fun _ _ _ h => h) (Or.inl ⟨by rfl, ?_⟩) ?_ ?_
                                rotate_left
                                · intro w'
                                  go_simp
                                  with_reducible rfl
                                rotate_left
                                · simp only [Act.put, List.setIfInBounds_toArray, List.set_cons_zero, List.set_cons_succ, i64_w, i32_w]
                                  rfl
                                refine take_ (i := 7) (N := some 57) (v := ?_) (a' := ?_) #[true, true, true, true, true, true, true, true, false, false, false] rfl rfl (take_ofW HT_.out HW_.out (by kernel_rfl)) (fun _ _ _ h => h) (Or.inl ⟨by rfl, ?_⟩) hHeld ?_ ?_
                                rotate_left
                                · rintro w' ⟨s0, s1, s2, s3⟩
                                  go_simp
                                  with_reducible rfl
                                rotate_left
                                · simp only [Act.put, List.setIfInBounds_toArray, List.set_cons_zero, List.set_cons_succ, i64_w, i32_w]
                                  rfl
                                refine pure_ (i := 8) (N := some 58) (v := ?_) (a' := ?_) #[true, true, true, true, true, true, true, true, true, false, false] rfl rfl (any_of HT_.out (by kernel_rfl)) (fun _ _ _ h => h) (Or.inl ⟨by rfl, ?_⟩) ?_ ?_
                                rotate_left
                                · intro w'
                                  go_simp
                                  with_reducible rfl
                                rotate_left
                                · simp only [Act.put, List.setIfInBounds_toArray, List.set_cons_zero, List.set_cons_succ, i64_w, i32_w]
                                  rfl
                                refine pure_ (i := 9) (N := some 59) (v := ?_) (a' := ?_) #[true, true, true, true, true, true, true, true, true, true, false] rfl rfl (any_of HT_.out (by kernel_rfl)) (fun _ _ _ h => h) (Or.inl ⟨by rfl, ?_⟩) ?_ ?_
                                rotate_left
                                · intro w'
                                  go_simp
                                  with_reducible rfl
                                rotate_left
                                · simp only [Act.put, List.setIfInBounds_toArray, List.set_cons_zero, List.set_cons_succ, i64_w, i32_w]
                                  rfl
                                refine last_ (i := 10) (N := none) #[true, true, true, true, true, true, true, true, true, true, true] rfl rfl (one_of HT_.out (by kernel_rfl)) (by decide) (fun K hK => ?_)
                                have hs29 : w28.cell? ⟨gb137, 0, none⟩ = some (.string x138000_2) := (blk_cell BK137.out 0).trans rfl
                                have hfs29 := blk_frozen BK137.out 0
                                have hns29_0 := NB134_137.out
                                have hns29_2 := NB142_137.out
                                have hms29_0 := NB137_134.out
                                have hms29_2 := NB137_142.out
                                refine skip_ (w1 := ?_) (by rfl) rfl ?_ ?_
                                rotate_left
                                · go_simp
                                  rfl
                                refine hK.out _ _ ?_
                                clear hK K
                                refine done_ (done_of HT_.out (by kernel_rfl)) ?_
                                try go_wp2
                                go_roundg kj14
                                case measure => have := HJ1.out; have := HK2.out; have := HJ14.out; omega
                                case rel => exact ⟨(wrap64 ((ji24) + 1)), (x135000_2), ((x138000_2 ++ (⟨#[47]⟩ : ByteArray)) ++ (rdOf ByteArray.empty ((rd_T132 l0 0).f1) (ji24))), (x138001_2), (x138002_2), (u138001), (u138002), (by first | rfl | (simp; done) | (simp only [← hji24] <;> (first | rfl | simp)) | (simp [*]; done)), H', ⟨by have := HJ1.out; have := HK2.out; have := HJ14.out; omega⟩, ⟨by (with_reducible repeat (first | apply Kd.R_alloc | apply Kd.R_drewN | apply Kd.R_drew)); exact Kd.R_mono (Kd.R_far (p := ⟨gb137, 0, none⟩) (Kd.R_types HO_138001.out BK137.out (by decide)) (fun _ hk => hk.2) (.string ((x138000_2 ++ (⟨#[47]⟩ : ByteArray)) ++ (rdOf ByteArray.empty ((rd_T132 l0 0).f1) (ji24))))) (fun _ hk => trivial)⟩, ⟨by (with_reducible repeat (first | apply Kd.R_alloc | apply Kd.R_drewN | apply Kd.R_drew)); exact Kd.R_mono (Kd.R_far (p := ⟨gb137, 0, none⟩) (Kd.R_types HO_138002.out BK137.out (by decide)) (fun _ hk => hk.2) (.string ((x138000_2 ++ (⟨#[47]⟩ : ByteArray)) ++ (rdOf ByteArray.empty ((rd_T132 l0 0).f1) (ji24))))) (fun _ hk => trivial)⟩, ⟨by (with_reducible repeat (first | refine blk_drewN ?_ _ | refine blk_drew ?_ | refine blk_alloc ?_ _)); refine blk_far ?_ NB134_137.out _; (with_reducible repeat (first | refine blk_drewN ?_ _ | refine blk_drew ?_ | refine blk_alloc ?_ _)); exact BK134.out⟩, ⟨by (with_reducible repeat (first | refine blk_drewN ?_ _ | refine blk_drew ?_ | refine blk_alloc ?_ _)); refine blk_put (cs := #[.string x138000_2, u138001, u138002]) ?_ 0 _ rfl; (with_reducible repeat (first | refine blk_drewN ?_ _ | refine blk_drew ?_ | refine blk_alloc ?_ _)); exact BK137.out⟩, ⟨by repeat (first | (with_reducible first | exact HB.out | apply below_alloc | apply pw_below_drewN | apply below_drew1 | refine below_set ?_ GE134.out | refine below_set ?_ GE137.out | refine below_set ?_ GE142.out) | exact HB.out)⟩⟩
                              · rw [if_neg c27] at H
                                exact absurd H (by simp)
                            · rw [if_neg c26] at H
                              exact absurd H (by simp)
                          · rw [if_neg c25] at H
                            exact absurd H (by simp)
                        · rw [if_neg c23] at H
                          exact absurd H (by simp)
                      · replace c22 := Bool.eq_false_iff.mpr c22
                        subst c22
                        have H1 : (if 0 ≤ x6_2 then (if x6_2 < (((rd_T132 l0 0).f1).length : Int) then (if (rdOf ByteArray.empty ((rd_T132 l0 0).f1) x6_2).toList = ([] : List UInt8) then (flatironref19_Of.j3 kj14 ((rd_T132 l0 0).f1) x6_2 t141 true x138000_2 x138001_2 x138002_2 t139 t140) else (if 0 < ((rdOf ByteArray.empty ((rd_T132 l0 0).f1) x6_2).size : Int) then (flatironref19_Of.j3 kj14 ((rd_T132 l0 0).f1) x6_2 t141 ((bt (rdOf ByteArray.empty ((rd_T132 l0 0).f1) x6_2) 0) == 45) x138000_2 x138001_2 x138002_2 t139 t140) else (none))) else (none)) else (none)) = some (r1, r2, r3, r4) := by rw [if_neg (show ¬ (false = true) by decide)] at H; exact H
                        clear H
                        have H := H1
                        clear H1
                        have HC30 := Aside0.mk H
                        clear H
                        go_upto_region 11 with (fail)
                        go_cut [74] (fun v74 wc => ∃ (kq : Nat) (x74_29 : Bool), v74 = .bool x74_29 ∧ Aside0 (flatironref19_Of.j3 kq ((rd_T132 l0 0).f1) x6_2 t141 x74_29 x138000_2 x138001_2 x138002_2 t139 t140 = some (r1, r2, r3, r4)) ∧ Aside0 (kq ≤ kj14) ∧ Aside0 (Kd.R Kd.string 9 wc w.heap.size (fun _ => True) u138001 x138001_2) ∧ Aside0 (Kd.R k69 69 wc w.heap.size (fun k_ => k_ ≠ gb142) u138002 x138002_2) ∧ Aside0 (wc.heap[gb134]? = some (.cells #[.string x135000_2, (.slice none 0 0), (.slice none 0 0)] 64 (0, 0))) ∧ Aside0 (wc.heap[gb137]? = some (.cells #[.string x138000_2, u138001, u138002] 64 (0, 0))) ∧ Aside0 (wc.heap[gb142]? = some (.cells #[.string t139, .string t140] 69 (0, 0))) ∧ Aside0 (Below w.heap.size w wc))
                        case first =>
                          have H := HC30.out
                          clear HC30
                          by_cases c31 : 0 ≤ x6_2
                          · rw [if_pos c31] at H
                            have c31b0 : decide (0 ≤ x6_2) = true := decide_eq_true c31
                            clear c31
                            (first | rw [c31b0] | (simp only [i64_w, i32_w]; rw [c31b0]) | skip)
                            by_cases c32 : x6_2 < (((rd_T132 l0 0).f1).length : Int)
                            · rw [if_pos c32] at H
                              have c32b0 : decide (x6_2 < (((rd_T132 l0 0).f1).length : Int)) = true := decide_eq_true c32
                              clear c32
                              by_cases c33 : (rdOf ByteArray.empty ((rd_T132 l0 0).f1) x6_2).toList = ([] : List UInt8)
                              · rw [if_pos c33] at H
                                have c33b0 : ((rdOf ByteArray.empty ((rd_T132 l0 0).f1) x6_2).toList == ([] : List UInt8)) = true := beq_iff_eq.mpr c33
                                have c33b1 : ((rdOf ByteArray.empty ((rd_T132 l0 0).f1) x6_2).toList != ([] : List UInt8)) = false := bne_eq_false_iff_eq.mpr c33
                                clear c33
                                have H' := Aside0.mk H
                                clear H
                                have p145 : 0 ≤ (x6_2 : Int) := of_decide_eq_true (by first | (with_reducible assumption) | assumption)
                                have q145 : x6_2 < (((rd_T132 l0 0).f1).length : Int) := of_decide_eq_true (by first | (with_reducible assumption) | assumption)
                                obtain ⟨ad145, e145, hx145_0⟩ := Kd.at_string HR136_1.out x6_2 p145 q145
                                obtain rfl : ad138 = ad145 := (by injection e145)
                                replace hx145_0 := (HB.out.cell (World.block_lt_of_cell? w _ hx145_0)).trans hx145_0
                                replace p145 := eq_true p145
                                replace q145 := eq_true q145
                                go_wp2
                                go_meet
                                case rel => exact ⟨_, (true), (by first | rfl | (simp; done) | (simp [*]; done)), H', ⟨by have := HJ1.out; have := HK2.out; have := HJ14.out; first | omega | exact Nat.le_refl _⟩, ⟨by (with_reducible repeat (first | apply Kd.R_alloc | apply Kd.R_drewN | apply Kd.R_drew)); (first | exact HO_138001.out | (first | refine Kd.R_mono HO_138001.out (fun _ hk => ?_) | refine Kd.S_mono HO_138001.out (fun _ hk => ?_) | refine Kd.Q_mono HO_138001.out (fun _ hk => ?_)); simp only [ownBlock_slice] at hk ⊢; exact hk)⟩, ⟨by (with_reducible repeat (first | apply Kd.R_alloc | apply Kd.R_drewN | apply Kd.R_drew)); (first | exact HO_138002.out | (first | refine Kd.R_mono HO_138002.out (fun _ hk => ?_) | refine Kd.S_mono HO_138002.out (fun _ hk => ?_) | refine Kd.Q_mono HO_138002.out (fun _ hk => ?_)); simp only [ownBlock_slice] at hk ⊢; exact hk)⟩, ⟨by (with_reducible repeat (first | refine blk_drewN ?_ _ | refine blk_drew ?_ | refine blk_alloc ?_ _)); exact BK134.out⟩, ⟨by (with_reducible repeat (first | refine blk_drewN ?_ _ | refine blk_drew ?_ | refine blk_alloc ?_ _)); exact BK137.out⟩, ⟨by (with_reducible repeat (first | refine blk_drewN ?_ _ | refine blk_drew ?_ | refine blk_alloc ?_ _)); exact BK142.out⟩, ⟨by repeat (first | (with_reducible first | exact HB.out | apply below_alloc | apply pw_below_drewN | apply below_drew1 | refine below_set ?_ GE134.out | refine below_set ?_ GE137.out | refine below_set ?_ GE142.out) | exact HB.out)⟩⟩
                              · rw [if_neg c33] at H
                                have c33b0 : ((rdOf ByteArray.empty ((rd_T132 l0 0).f1) x6_2).toList == ([] : List UInt8)) = false := beq_eq_false_iff_ne.mpr c33
                                have c33b1 : ((rdOf ByteArray.empty ((rd_T132 l0 0).f1) x6_2).toList != ([] : List UInt8)) = true := bne_iff_ne.mpr c33
                                by_cases c34 : 0 < ((rdOf ByteArray.empty ((rd_T132 l0 0).f1) x6_2).size : Int)
                                · rw [if_pos c34] at H
                                  have c34b0 : decide (0 < ((rdOf ByteArray.empty ((rd_T132 l0 0).f1) x6_2).size : Int)) = true := decide_eq_true c34
                                  have c34b1 : decide (0 < (rdOf ByteArray.empty ((rd_T132 l0 0).f1) x6_2).size) = true := decide_eq_true (by omega)
                                  clear c34
                                  have H' := Aside0.mk H
                                  clear H
                                  have p145 : 0 ≤ (x6_2 : Int) := of_decide_eq_true (by first | (with_reducible assumption) | assumption)
                                  have q145 : x6_2 < (((rd_T132 l0 0).f1).length : Int) := of_decide_eq_true (by first | (with_reducible assumption) | assumption)
                                  obtain ⟨ad145, e145, hx145_0⟩ := Kd.at_string HR136_1.out x6_2 p145 q145
                                  obtain rfl : ad138 = ad145 := (by injection e145)
                                  replace hx145_0 := (HB.out.cell (World.block_lt_of_cell? w _ hx145_0)).trans hx145_0
                                  replace p145 := eq_true p145
                                  replace q145 := eq_true q145
                                  have p146 : 0 ≤ (x6_2 : Int) := of_decide_eq_true (by first | (with_reducible assumption) | assumption)
                                  have q146 : x6_2 < (((rd_T132 l0 0).f1).length : Int) := of_decide_eq_true (by first | (with_reducible assumption) | assumption)
                                  obtain ⟨ad146, e146, hx146_0⟩ := Kd.at_string HR136_1.out x6_2 p146 q146
                                  obtain rfl : ad138 = ad146 := (by injection e146)
                                  replace hx146_0 := (HB.out.cell (World.block_lt_of_cell? w _ hx146_0)).trans hx146_0
                                  replace p146 := eq_true p146
                                  replace q146 := eq_true q146
                                  have p35 : 0 ≤ (0 : Int) := (by omega)
                                  have q35 : 0 < (rdOf ByteArray.empty ((rd_T132 l0 0).f1) x6_2).size := (by have : (0 : Int) < ((rdOf ByteArray.empty ((rd_T132 l0 0).f1) x6_2).size : Int) := of_decide_eq_true (by first | (with_reducible assumption) | assumption); omega)
                                  have hx35 : ∀ h : 0 < (rdOf ByteArray.empty ((rd_T132 l0 0).f1) x6_2).size, (((rdOf ByteArray.empty ((rd_T132 l0 0).f1) x6_2)[0]'h).toNat : Int) = bt (rdOf ByteArray.empty ((rd_T132 l0 0).f1) x6_2) 0 := bt_at (rdOf ByteArray.empty ((rd_T132 l0 0).f1) x6_2) 0
                                  clear p35
                                  have qi35 : (0 < ((rdOf ByteArray.empty ((rd_T132 l0 0).f1) x6_2).size : Int)) = True := eq_true (of_decide_eq_true (by first | (with_reducible assumption) | assumption))
                                  replace q35 := eq_true q35
                                  go_wp2
                                  go_meet
                                  case rel => exact ⟨_, (((bt (rdOf ByteArray.empty ((rd_T132 l0 0).f1) x6_2) 0) == 45)), (by first | rfl | (simp; done) | (simp [*]; done)), H', ⟨by have := HJ1.out; have := HK2.out; have := HJ14.out; first | omega | exact Nat.le_refl _⟩, ⟨by (with_reducible repeat (first | apply Kd.R_alloc | apply Kd.R_drewN | apply Kd.R_drew)); (first | exact HO_138001.out | (first | refine Kd.R_mono HO_138001.out (fun _ hk => ?_) | refine Kd.S_mono HO_138001.out (fun _ hk => ?_) | refine Kd.Q_mono HO_138001.out (fun _ hk => ?_)); simp only [ownBlock_slice] at hk ⊢; exact hk)⟩, ⟨by (with_reducible repeat (first | apply Kd.R_alloc | apply Kd.R_drewN | apply Kd.R_drew)); (first | exact HO_138002.out | (first | refine Kd.R_mono HO_138002.out (fun _ hk => ?_) | refine Kd.S_mono HO_138002.out (fun _ hk => ?_) | refine Kd.Q_mono HO_138002.out (fun _ hk => ?_)); simp only [ownBlock_slice] at hk ⊢; exact hk)⟩, ⟨by (with_reducible repeat (first | refine blk_drewN ?_ _ | refine blk_drew ?_ | refine blk_alloc ?_ _)); exact BK134.out⟩, ⟨by (with_reducible repeat (first | refine blk_drewN ?_ _ | refine blk_drew ?_ | refine blk_alloc ?_ _)); exact BK137.out⟩, ⟨by (with_reducible repeat (first | refine blk_drewN ?_ _ | refine blk_drew ?_ | refine blk_alloc ?_ _)); exact BK142.out⟩, ⟨by repeat (first | (with_reducible first | exact HB.out | apply below_alloc | apply pw_below_drewN | apply below_drew1 | refine below_set ?_ GE134.out | refine below_set ?_ GE137.out | refine below_set ?_ GE142.out) | exact HB.out)⟩⟩
                                · rw [if_neg c34] at H
                                  exact absurd H (by simp)
                            · rw [if_neg c32] at H
                              exact absurd H (by simp)
                          · rw [if_neg c31] at H
                            exact absurd H (by simp)
                        case rest =>
                          clear HC30
                          try clear c1
                          try clear p1
                          try clear q1
                          try clear hx1
                          try clear qi1
                          try clear c2
                          try clear p2
                          try clear c3
                          try clear p3
                          try clear q3
                          try clear hx3
                          try clear qi3
                          try clear c4
                          try clear c4b0
                          try clear c4b1
                          try clear c5
                          try clear c5b0
                          try clear c5b1
                          try clear c6
                          try clear p6
                          try clear c8
                          try clear c8b0
                          try clear c8b1
                          try clear c10
                          try clear c12
                          try clear c12b0
                          try clear c13
                          try clear c13b0
                          try clear p13
                          try clear q13
                          try clear hx13
                          try clear qi13
                          try clear p14
                          try clear q14
                          try clear hx14
                          try clear c18
                          try clear c19
                          try clear c21
                          try clear c21b0
                          try clear c21b1
                          try clear c22
                          try clear c23
                          try clear c23b0
                          try clear c23b1
                          try clear c23b2
                          try clear c25
                          try clear c25b0
                          try clear c26
                          try clear c26b0
                          try clear c27
                          try clear c27b0
                          try clear c27b1
                          try clear c27b2
                          try clear c31
                          try clear c31b0
                          try clear c32
                          try clear c32b0
                          try clear c33
                          try clear c33b0
                          try clear c33b1
                          try clear c34
                          try clear c34b0
                          try clear c34b1
                          try clear p35
                          try clear q35
                          try clear hx35
                          try clear qi35
                          try clear hcz11_0
                          try clear hcz11_1
                          try clear hcz11_2
                          try clear hcz20_0
                          try clear hcz20_1
                          try clear hcz7_0
                          try clear hcz7_1
                          try clear hcz7_2
                          try clear hfz11_0
                          try clear hfz11_1
                          try clear hfz11_2
                          try clear hfz20_0
                          try clear hfz20_1
                          try clear hfz7_0
                          try clear hfz7_1
                          try clear hfz7_2
                          try clear hx135_0
                          try clear hx135_1
                          try clear hx135_2
                          try clear hx136_0
                          try clear hx136_1
                          try clear hx136_2
                          try clear hx138_0
                          try clear hx143_0
                          try clear hx144_0
                          try clear hx145_0
                          try clear hx146_0
                          try clear p1
                          try clear p13
                          try clear p135
                          try clear p136
                          try clear p138
                          try clear p14
                          try clear p143
                          try clear p144
                          try clear p145
                          try clear p146
                          try clear p2
                          try clear p35
                          try clear p6
                          try clear q1
                          try clear q13
                          try clear q135
                          try clear q136
                          try clear q138
                          try clear q14
                          try clear q143
                          try clear q144
                          try clear q145
                          try clear q146
                          try clear q35
                          obtain ⟨kq, x74_29, rfl, HA, HJ29, HO_138001, HO_138002, BK134, BK137, BK142, HB⟩ := hcut
                          cases kq with
                          | zero => exact absurd HA.out (by simp [flatironref19_Of.j3])
                          | succ kj29 =>
                            have H := HA.out
                            clear HA
                            simp only [flatironref19_Of.j3] at H
                            by_cases c36 : x74_29 = true
                            · subst c36
                              have H1 : (some ((⟨#[]⟩ : ByteArray), ([] : List ByteArray), ([] : List (S69)), false)) = some (r1, r2, r3, r4) := by rw [if_pos rfl] at H; exact H
                              clear H
                              have H := H1
                              clear H1
                              simp only [Option.some.injEq, Prod.mk.injEq] at H
                              obtain ⟨rfl, rfl, rfl, rfl⟩ := H
                              have hnb37 := NB134_137.out
                              have hnc37 := NB137_134.out
                              have hnb38 := NB134_142.out
                              have hnc38 := NB142_134.out
                              have hcz39_0 : wc.cell? ⟨gb134, 0, none⟩ = some (.string x135000_2) := (blk_cell BK134.out 0).trans rfl
                              have hcz39_1 : wc.cell? ⟨gb134, 1, none⟩ = some (.slice none 0 0) := (blk_cell BK134.out 1).trans rfl
                              have hcz39_2 : wc.cell? ⟨gb134, 2, none⟩ = some (.slice none 0 0) := (blk_cell BK134.out 2).trans rfl
                              have hfz39_0 := blk_frozen BK134.out 0
                              have hfz39_1 := blk_frozen BK134.out 1
                              have hfz39_2 := blk_frozen BK134.out 2
                              go_wp2
                              refine bodyPost_ret (results_ct rfl _ _ gb134 64 #[.string (⟨#[]⟩ : ByteArray), .slice none 0 0, .slice none 0 0] (0, 0) _ rfl (by (with_reducible repeat (first | refine blk_drewN ?_ _ | refine blk_drew ?_ | refine blk_alloc ?_ _)); refine blk_put (cs := #[.string (⟨#[]⟩ : ByteArray), .slice none 0 0, .slice none 0 0]) ?_ 2 _ rfl; (with_reducible repeat (first | refine blk_drewN ?_ _ | refine blk_drew ?_ | refine blk_alloc ?_ _)); refine blk_put (cs := #[.string (⟨#[]⟩ : ByteArray), .slice none 0 0, .slice none 0 0]) ?_ 1 _ rfl; (with_reducible repeat (first | refine blk_drewN ?_ _ | refine blk_drew ?_ | refine blk_alloc ?_ _)); refine blk_put (cs := #[.string x135000_2, .slice none 0 0, .slice none 0 0]) ?_ 0 _ rfl; (with_reducible repeat (first | refine blk_drewN ?_ _ | refine blk_drew ?_ | refine blk_alloc ?_ _)); exact BK134.out) Try.underlying64 rfl (by kernel_rfl)) rfl ?_
                              exact ⟨_, _, by first | rfl | (simp [errW_none, errW_some] <;> rfl) | (simp [*, errW_none, errW_some] <;> rfl), by first | exact Kd.R_nil _ _ _ _ _ | exact Kd.N_nil _ _ _ _ _ | exact Kd.V_nil _ _ _ _ _ | exact Kd.Q_nil _ _ _ _ _ | exact Kd.S_nil _ _ _ _ _, by first | exact Kd.R_nil _ _ _ _ _ | exact Kd.N_nil _ _ _ _ _ | exact Kd.V_nil _ _ _ _ _ | exact Kd.Q_nil _ _ _ _ _ | exact Kd.S_nil _ _ _ _ _, by repeat (first | (with_reducible first | exact HB.out | apply below_alloc | apply pw_below_drewN | apply below_drew1 | refine below_set ?_ GE134.out | refine below_set ?_ GE137.out | refine below_set ?_ GE142.out) | exact HB.out)⟩
                            · replace c36 := Bool.eq_false_iff.mpr c36
                              subst c36
                              have H1 : (if t141 = true then (if x138002_2.length < 4398046511104 then (flatironref19_Of.l0 kj29 ((rd_T132 l0 0).f1) (wrap64 (x6_2 + 1)) x138000_2 x138001_2 (x138002_2 ++ [(⟨t139, t140⟩ : S69)])) else (none)) else (if 0 ≤ x6_2 then (if x6_2 < (((rd_T132 l0 0).f1).length : Int) then (if x138001_2.length < 8796093022208 then (flatironref19_Of.l0 kj29 ((rd_T132 l0 0).f1) (wrap64 (x6_2 + 1)) x138000_2 (x138001_2 ++ [rdOf ByteArray.empty ((rd_T132 l0 0).f1) x6_2]) x138002_2) else (none)) else (none)) else (none))) = some (r1, r2, r3, r4) := by rw [if_neg (show ¬ (false = true) by decide)] at H; exact H
                              clear H
                              have H := H1
                              clear H1
                              by_cases c40 : t141 = true
                              · subst c40
                                have H1 : (if x138002_2.length < 4398046511104 then (flatironref19_Of.l0 kj29 ((rd_T132 l0 0).f1) (wrap64 (x6_2 + 1)) x138000_2 x138001_2 (x138002_2 ++ [(⟨t139, t140⟩ : S69)])) else (none)) = some (r1, r2, r3, r4) := by rw [if_pos rfl] at H; exact H
                                clear H
                                have H := H1
                                clear H1
                                by_cases c41 : x138002_2.length < 4398046511104
                                · rw [if_pos c41] at H
                                  have LMc41 := Aside0.mk c41
                                  clear c41
                                  obtain ⟨y147, hy147⟩ : ∃ y_ : List (S69), y_ = (x138002_2 ++ [(⟨t139, t140⟩ : S69)]) := ⟨_, rfl⟩
                                  replace H : (flatironref19_Of.l0 kj29 ((rd_T132 l0 0).f1) (wrap64 (x6_2 + 1)) x138000_2 x138001_2 y147) = some (r1, r2, r3, r4) := by first | (rw [hy147]; with_reducible exact H) | (have H2_ := (Option.bind_some _ _).symm.trans H; rw [hy147]; with_reducible exact H2_) | (have H2_ := (Option.bind_some _ _).symm.trans H; with_reducible exact H2_) | with_reducible exact H | (rw [hy147]; exact H) | exact H
                                  have Ny147 := Aside0.mk hy147
                                  clear hy147
                                  have H' := Aside0.mk H
                                  clear H
                                  have hnb42 := NB137_134.out
                                  have hnc42 := NB134_137.out
                                  have hnb43 := NB137_142.out
                                  have hnc43 := NB142_137.out
                                  have hcz44_0 : wc.cell? ⟨gb137, 0, none⟩ = some (.string x138000_2) := (blk_cell BK137.out 0).trans rfl
                                  have hcz44_1 : wc.cell? ⟨gb137, 1, none⟩ = some (u138001) := (blk_cell BK137.out 1).trans rfl
                                  have hcz44_2 : wc.cell? ⟨gb137, 2, none⟩ = some (u138002) := (blk_cell BK137.out 2).trans rfl
                                  have hfz44_0 := blk_frozen BK137.out 0
                                  have hfz44_1 := blk_frozen BK137.out 1
                                  have hfz44_2 := blk_frozen BK137.out 2
                                  have hnb45 := NB142_134.out
                                  have hnc45 := NB134_142.out
                                  have hcz46_0 : wc.cell? ⟨gb142, 0, none⟩ = some (.string t139) := (blk_cell BK142.out 0).trans rfl
                                  have hcz46_1 : wc.cell? ⟨gb142, 1, none⟩ = some (.string t140) := (blk_cell BK142.out 1).trans rfl
                                  have hfz46_0 := blk_frozen BK142.out 0
                                  have hfz46_1 := blk_frozen BK142.out 1
                                  go_wp2_with (first | ((with_reducible refine gate_builtin (b := .append) (xs := #[.tmp 78, .tmp 80]) rfl ?_); (try (refine gate_guard (by rfl) ?_; dsimp only)); at_builtin; refine Kd.R_append k69 (w0 := w) w.heap.size rfl (.tmp 78) (.tmp 80) 62 69 (.agg #[(.string ⟨#[]⟩), (.string ⟨#[]⟩)]) 32 rfl Try.underlying62 info69 rfl (by decide) (by omega) u138002 x138002_2 (⟨t139, t140⟩ : S69) [.string t139, .string t140] (fun k_ => k_ ≠ gb142) (fun _ => False) rfl rfl ?aP (fun _ hk => hk.elim) ?aF ?aO ?aB ?aS ?aL ?_; (case aP => exact k69_mkM _ _ _ (⟨t139, t140⟩ : S69)); (case aB => exact (by repeat (first | (with_reducible first | exact HB.out | apply below_alloc | apply pw_below_drewN | apply below_drew1 | refine below_set ?_ GE134.out | refine below_set ?_ GE137.out | refine below_set ?_ GE142.out) | exact HB.out))); (case aF => exact (fun k_ hk => Kd.freshB (g := gb142) (o := .cells #[.string t139, .string t140] 69 (0, 0)) (by (with_reducible repeat (first | refine blk_drewN ?_ _ | refine blk_drew ?_ | refine blk_alloc ?_ _)); exact BK142.out) k_ hk)); (case aO => exact (by (with_reducible repeat (first | apply Kd.R_alloc | apply Kd.R_drewN | apply Kd.R_drew)); (first | exact HO_138002.out | (first | refine Kd.R_mono HO_138002.out (fun _ hk => ?_) | refine Kd.S_mono HO_138002.out (fun _ hk => ?_) | refine Kd.Q_mono HO_138002.out (fun _ hk => ?_)); simp only [ownBlock_slice] at hk ⊢; exact hk))); (case aS => exact (below_size (by repeat (first | (with_reducible first | exact HB.out | apply below_alloc | apply pw_below_drewN | apply below_drew1 | refine below_set ?_ GE134.out | refine below_set ?_ GE137.out | refine below_set ?_ GE142.out) | exact HB.out)))); (case aL => have := LMc41.out; omega); intro v148 w47 ho hb hg hat; rw [← Ny147.out] at ho; have n0_ := Aside0.mk (Kd.R_over' (by (with_reducible repeat (first | apply Kd.R_alloc | apply Kd.R_drewN | apply Kd.R_drew)); (first | exact HO_138001.out | (first | refine Kd.R_mono HO_138001.out (fun _ hk => ?_) | refine Kd.S_mono HO_138001.out (fun _ hk => ?_) | refine Kd.Q_mono HO_138001.out (fun _ hk => ?_)); simp only [ownBlock_slice] at hk ⊢; exact hk)) (Kd.R_typed (by (with_reducible repeat (first | apply Kd.R_alloc | apply Kd.R_drewN | apply Kd.R_drew)); (first | exact HO_138002.out | (first | refine Kd.R_mono HO_138002.out (fun _ hk => ?_) | refine Kd.S_mono HO_138002.out (fun _ hk => ?_) | refine Kd.Q_mono HO_138002.out (fun _ hk => ?_)); simp only [ownBlock_slice] at hk ⊢; exact hk))) (by decide) hg); have n1_ := Aside0.mk (blk_grown (g := gb134) (o := .cells #[.string x135000_2, .slice none 0 0, .slice none 0 0] 64 (0, 0)) (by (with_reducible repeat (first | refine blk_drewN ?_ _ | refine blk_drew ?_ | refine blk_alloc ?_ _)); exact BK134.out) hg (Kd.R_ne HO_138002.out BK134.out (by decide))); have n2_ := Aside0.mk (blk_grown (g := gb137) (o := .cells #[.string x138000_2, u138001, u138002] 64 (0, 0)) (by (with_reducible repeat (first | refine blk_drewN ?_ _ | refine blk_drew ?_ | refine blk_alloc ?_ _)); exact BK137.out) hg (Kd.R_ne HO_138002.out BK137.out (by decide))); have n3_ := Aside0.mk (blk_grown (g := gb142) (o := .cells #[.string t139, .string t140] 69 (0, 0)) (by (with_reducible repeat (first | refine blk_drewN ?_ _ | refine blk_drew ?_ | refine blk_alloc ?_ _)); exact BK142.out) hg (Kd.R_away HO_138002.out (fun _ hk => hk))); have n4_ := Aside0.mk (hb); have n5_ := Aside0.mk (ho); clear HO_138001; clear BK134; clear BK137; clear BK142; clear HB; clear HO_138002; have HO_138001 := n0_; have BK134 := n1_; have BK137 := n2_; have BK142 := n3_; have HB := n4_; have HO149 := n5_; clear n0_ n1_ n2_ n3_ n4_ n5_; clear ho hb hg hat; obtain ⟨Ao48, co48, eo48⟩ := Kd.R_slice HO149.out; subst eo48; have hcz49_0 : w47.cell? ⟨gb137, 0, none⟩ = some (.string x138000_2) := (blk_cell BK137.out 0).trans rfl; have hcz49_1 : w47.cell? ⟨gb137, 1, none⟩ = some (u138001) := (blk_cell BK137.out 1).trans rfl; have hcz49_2 : w47.cell? ⟨gb137, 2, none⟩ = some (u138002) := (blk_cell BK137.out 2).trans rfl; have hfz49_0 := blk_frozen BK137.out 0; have hfz49_1 := blk_frozen BK137.out 1; have hfz49_2 := blk_frozen BK137.out 2))
                                  go_roundg kj29
                                  case measure => have := HJ1.out; have := HK2.out; have := HJ14.out; have := HJ29.out; omega
                                  case rel => exact ⟨(wrap64 (x6_2 + 1)), (x135000_2), (x138000_2), (x138001_2), (y147), (u138001), (.slice Ao48 y147.length co48), (by first | rfl | (simp; done) | (simp [*]; done)), H', ⟨by have := HJ1.out; have := HK2.out; have := HJ14.out; have := HJ29.out; omega⟩, ⟨by (with_reducible repeat (first | apply Kd.R_alloc | apply Kd.R_drewN | apply Kd.R_drew)); exact Kd.R_mono (Kd.R_far (p := ⟨gb137, 2, none⟩) (Kd.R_types HO_138001.out BK137.out (by decide)) (fun _ hk => hk.2) (.slice Ao48 y147.length co48)) (fun _ hk => trivial)⟩, ⟨by (with_reducible repeat (first | apply Kd.R_alloc | apply Kd.R_drewN | apply Kd.R_drew)); exact Kd.R_mono (Kd.R_far (p := ⟨gb137, 2, none⟩) (Kd.R_types HO149.out BK137.out (by decide)) (fun _ hk => hk.2) (.slice Ao48 y147.length co48)) (fun _ hk => trivial)⟩, ⟨by (with_reducible repeat (first | refine blk_drewN ?_ _ | refine blk_drew ?_ | refine blk_alloc ?_ _)); refine blk_far ?_ NB134_137.out _; (with_reducible repeat (first | refine blk_drewN ?_ _ | refine blk_drew ?_ | refine blk_alloc ?_ _)); exact BK134.out⟩, ⟨by (with_reducible repeat (first | refine blk_drewN ?_ _ | refine blk_drew ?_ | refine blk_alloc ?_ _)); refine blk_put (cs := #[.string x138000_2, u138001, u138002]) ?_ 2 _ rfl; (with_reducible repeat (first | refine blk_drewN ?_ _ | refine blk_drew ?_ | refine blk_alloc ?_ _)); exact BK137.out⟩, ⟨by repeat (first | (with_reducible first | exact HB.out | apply below_alloc | apply pw_below_drewN | apply below_drew1 | refine below_set ?_ GE134.out | refine below_set ?_ GE137.out | refine below_set ?_ GE142.out) | exact HB.out)⟩⟩
                                · rw [if_neg c41] at H
                                  exact absurd H (by simp)
                              · replace c40 := Bool.eq_false_iff.mpr c40
                                subst c40
                                have H1 : (if 0 ≤ x6_2 then (if x6_2 < (((rd_T132 l0 0).f1).length : Int) then (if x138001_2.length < 8796093022208 then (flatironref19_Of.l0 kj29 ((rd_T132 l0 0).f1) (wrap64 (x6_2 + 1)) x138000_2 (x138001_2 ++ [rdOf ByteArray.empty ((rd_T132 l0 0).f1) x6_2]) x138002_2) else (none)) else (none)) else (none)) = some (r1, r2, r3, r4) := by rw [if_neg (show ¬ (false = true) by decide)] at H; exact H
                                clear H
                                have H := H1
                                clear H1
                                by_cases c50 : 0 ≤ x6_2
                                · rw [if_pos c50] at H
                                  have c50b0 : decide (0 ≤ x6_2) = true := decide_eq_true c50
                                  clear c50
                                  by_cases c51 : x6_2 < (((rd_T132 l0 0).f1).length : Int)
                                  · rw [if_pos c51] at H
                                    have c51b0 : decide (x6_2 < (((rd_T132 l0 0).f1).length : Int)) = true := decide_eq_true c51
                                    clear c51
                                    by_cases c52 : x138001_2.length < 8796093022208
                                    · rw [if_pos c52] at H
                                      have LMc52 := Aside0.mk c52
                                      clear c52
                                      obtain ⟨y151, hy151⟩ : ∃ y_ : List ByteArray, y_ = (x138001_2 ++ [rdOf ByteArray.empty ((rd_T132 l0 0).f1) x6_2]) := ⟨_, rfl⟩
                                      replace H : (flatironref19_Of.l0 kj29 ((rd_T132 l0 0).f1) (wrap64 (x6_2 + 1)) x138000_2 y151 x138002_2) = some (r1, r2, r3, r4) := by first | (rw [hy151]; with_reducible exact H) | (have H2_ := (Option.bind_some _ _).symm.trans H; rw [hy151]; with_reducible exact H2_) | (have H2_ := (Option.bind_some _ _).symm.trans H; with_reducible exact H2_) | with_reducible exact H | (rw [hy151]; exact H) | exact H
                                      have Ny151 := Aside0.mk hy151
                                      clear hy151
                                      have H' := Aside0.mk H
                                      clear H
                                      try go_wp2
                                      have n0_ := Aside0.mk (Kd.R_drew HO_138001.out)
                                      have n1_ := Aside0.mk (Kd.R_drew HO_138002.out)
                                      have n2_ := Aside0.mk (blk_drew BK134.out)
                                      have n3_ := Aside0.mk (blk_drew BK137.out)
                                      have n4_ := Aside0.mk (blk_drew BK142.out)
                                      have n5_ := Aside0.mk (below_drew1 HB.out)
                                      clear HO_138001
                                      clear HO_138002
                                      clear BK134
                                      clear BK137
                                      clear BK142
                                      clear HB
                                      have HO_138001 := n0_
                                      have HO_138002 := n1_
                                      have BK134 := n2_
                                      have BK137 := n3_
                                      have BK142 := n4_
                                      have HB := n5_
                                      clear n0_ n1_ n2_ n3_ n4_ n5_
                                      have p150 : 0 ≤ (x6_2 : Int) := of_decide_eq_true (by first | (with_reducible assumption) | assumption)
                                      have q150 : x6_2 < (((rd_T132 l0 0).f1).length : Int) := of_decide_eq_true (by first | (with_reducible assumption) | assumption)
                                      obtain ⟨ad150, e150, hx150_0⟩ := Kd.at_string HR136_1.out x6_2 p150 q150
                                      have hw150_0 := hx150_0
                                      obtain rfl : ad138 = ad150 := (by injection e150)
                                      replace hx150_0 := (HB.out.cell (World.block_lt_of_cell? w _ hx150_0)).trans hx150_0
                                      replace p150 := eq_true p150
                                      replace q150 := eq_true q150
                                      refine start_ (n := 10) (S := fun w' => w'.cell? ⟨gb137, 0, none⟩ = some (.string x138000_2) ∧ w'.cell? ⟨gb137, 1, none⟩ = some (u138001) ∧ w'.cell? ⟨gb137, 2, none⟩ = some (u138002) ∧ w'.cell? (ad138.add (x6_2).toNat) = some (.string (rdOf ByteArray.empty ((rd_T132 l0 0).f1) x6_2))) (ds := [9]) #[false, false, false, false, false, false, false, false, false, false] (by kernel_rfl) rfl rfl ⟨(blk_cell BK137.out 0).trans rfl, (blk_cell BK137.out 1).trans rfl, (blk_cell BK137.out 2).trans rfl, ((HB.out.cell (World.block_lt_of_cell? w _ hw150_0)).trans hw150_0)⟩ (fun hHeld => ?_); refine with_tabW flatironref19_Of.tab15 flatironref19_Of.bits15 (fun HT_ HW_ => ?_)
                                      generalize wc.drew = w53 at HO_138001 HO_138002 BK134 BK137 BK142 HB hx150_0 hHeld ⊢
                                      refine pure_ (i := 0) (N := some 83) (v := ?_) (a' := ?_) #[true, false, false, false, false, false, false, false, false, false] rfl rfl (any_of HT_.out (by kernel_rfl)) (fun _ _ _ h => h) (Or.inl ⟨by rfl, ?_⟩) ?_ ?_
                                      rotate_left
                                      · intro w'
                                        go_simp
                                        with_reducible rfl
                                      rotate_left
                                      · simp only [Act.put, List.setIfInBounds_toArray, List.set_cons_zero, List.set_cons_succ, i64_w, i32_w]
                                        rfl
                                      refine pure_ (i := 2) (N := some 85) (v := ?_) (a' := ?_) #[true, false, true, false, false, false, false, false, false, false] rfl rfl (any_of HT_.out (by kernel_rfl)) (fun _ _ _ h => h) (Or.inl ⟨by rfl, ?_⟩) ?_ ?_
                                      rotate_left
                                      · intro w'
                                        go_simp
                                        with_reducible rfl
                                      rotate_left
                                      · simp only [Act.put, List.setIfInBounds_toArray, List.set_cons_zero, List.set_cons_succ, i64_w, i32_w]
                                        rfl
                                      refine pure_ (i := 3) (N := some 86) (v := ?_) (a' := ?_) #[true, false, true, true, false, false, false, false, false, false] rfl rfl (any_of HT_.out (by kernel_rfl)) (fun _ _ _ h => h) (Or.inl ⟨by rfl, ?_⟩) ?_ ?_
                                      rotate_left
                                      · intro w'
                                        go_simp
                                        with_reducible rfl
                                      rotate_left
                                      · simp only [Act.put, List.setIfInBounds_toArray, List.set_cons_zero, List.set_cons_succ, i64_w, i32_w]
                                        rfl
                                      refine pure_ (i := 4) (N := some 87) (v := ?_) (a' := ?_) #[true, false, true, true, true, false, false, false, false, false] rfl rfl (any_of HT_.out (by kernel_rfl)) (fun _ _ _ h => h) (Or.inl ⟨by rfl, ?_⟩) ?_ ?_
                                      rotate_left
                                      · intro w'
                                        go_simp
                                        with_reducible rfl
                                      rotate_left
                                      · simp only [Act.put, List.setIfInBounds_toArray, List.set_cons_zero, List.set_cons_succ, i64_w, i32_w]
                                        rfl
                                      refine take_ (i := 1) (N := some 84) (v := ?_) (a' := ?_) #[true, true, true, true, true, false, false, false, false, false] rfl rfl (take_ofW HT_.out HW_.out (by kernel_rfl)) (fun _ _ _ h => h) (Or.inl ⟨by rfl, ?_⟩) hHeld ?_ ?_
                                      rotate_left
                                      · rintro w' ⟨s0, s1, s2, s3⟩
                                        go_simp
                                        with_reducible rfl
                                      rotate_left
                                      · simp only [Act.put, List.setIfInBounds_toArray, List.set_cons_zero, List.set_cons_succ, i64_w, i32_w]
                                        rfl
                                      refine take_ (i := 5) (N := some 88) (v := ?_) (a' := ?_) #[true, true, true, true, true, true, false, false, false, false] rfl rfl (take_ofW HT_.out HW_.out (by kernel_rfl)) (fun _ _ _ h => h) (Or.inl ⟨by rfl, ?_⟩) hHeld ?_ ?_
                                      rotate_left
                                      · rintro w' ⟨s0, s1, s2, s3⟩
                                        go_simp
                                        with_reducible rfl
                                      rotate_left
                                      · simp only [Act.put, List.setIfInBounds_toArray, List.set_cons_zero, List.set_cons_succ, i64_w, i32_w]
                                        rfl
                                      refine one_ (i := 6) (N := some 89) #[true, true, true, true, true, true, true, false, false, false] rfl rfl (one_of HT_.out (by kernel_rfl)) (by decide) (fun K hK => ?_)
                                      refine value_ (w1 := ?_) (v := ?_) (by rfl) rfl ?_ ?_
                                      rotate_left 2
                                      · go_simp
                                        constructor
                                        · rfl
                                        · rfl
                                      refine hK.out _ _ ⟨(blk_cell (blk_alloc BK137.out _) 0).trans rfl, (blk_cell (blk_alloc BK137.out _) 1).trans rfl, (blk_cell (blk_alloc BK137.out _) 2).trans rfl, (World.cell?_alloc_lt _ _ _ (World.block_lt_of_cell? _ _ (((HB.out.cell (World.block_lt_of_cell? w _ hw150_0)).trans hw150_0)))).trans (((HB.out.cell (World.block_lt_of_cell? w _ hw150_0)).trans hw150_0))⟩ (fun hHeld => ?_)
                                      clear hK K
                                      refine norm_ (a' := ?_) ?_ ?_
                                      rotate_left
                                      · show Act.put _ (some 89) _ = _
                                        simp only [Act.put, List.setIfInBounds_toArray, List.set_cons_zero, List.set_cons_succ, i64_w, i32_w]
                                        rfl
                                      refine one_ (i := 7) (N := some 90) #[true, true, true, true, true, true, true, true, false, false] rfl rfl (one_of HT_.out (by kernel_rfl)) (by decide) (fun K hK => ?_)
                                      refine Kd.R_append_step Kd.string (w0 := w) w.heap.size (by rfl) (.tmp 84) (.tmp 89) 23 9 (.string ⟨#[]⟩) 16 rfl Try.underlying23 info9 rfl (by decide) (by omega) u138001 x138001_2 (rdOf ByteArray.empty ((rd_T132 l0 0).f1) x6_2) [.string (rdOf ByteArray.empty ((rd_T132 l0 0).f1) x6_2)] (fun _ => True) (fun _ => False) rfl rfl ?aP (fun _ hk => hk.elim) ?aF ?aO ?aB ?aS ?aL ?_
                                      (case aP => exact rfl)
                                      (case aB => exact (by repeat (first | (with_reducible first | exact HB.out | apply below_alloc | apply pw_below_drewN | apply below_drew1 | refine below_set ?_ GE134.out | refine below_set ?_ GE137.out | refine below_set ?_ GE142.out) | exact HB.out)))
                                      (case aF => exact (fun _ _ => trivial))
                                      (case aO => exact (by (with_reducible repeat (first | apply Kd.R_alloc | apply Kd.R_drewN | apply Kd.R_drew)); (first | exact HO_138001.out | (first | refine Kd.R_mono HO_138001.out (fun _ hk => ?_) | refine Kd.S_mono HO_138001.out (fun _ hk => ?_) | refine Kd.Q_mono HO_138001.out (fun _ hk => ?_)); simp only [ownBlock_slice] at hk ⊢; exact hk)))
                                      (case aS => exact (below_size (by repeat (first | (with_reducible first | exact HB.out | apply below_alloc | apply pw_below_drewN | apply below_drew1 | refine below_set ?_ GE134.out | refine below_set ?_ GE137.out | refine below_set ?_ GE142.out) | exact HB.out))))
                                      (case aL => have := LMc52.out; omega)
                                      intro v152 w54 ho hb hg hat
                                      rw [← Ny151.out] at ho
                                      have n0_ := Aside0.mk (Kd.R_over' (by (with_reducible repeat (first | apply Kd.R_alloc | apply Kd.R_drewN | apply Kd.R_drew)); (first | exact HO_138002.out | (first | refine Kd.R_mono HO_138002.out (fun _ hk => ?_) | refine Kd.S_mono HO_138002.out (fun _ hk => ?_) | refine Kd.Q_mono HO_138002.out (fun _ hk => ?_)); simp only [ownBlock_slice] at hk ⊢; exact hk)) (Kd.R_typed (by (with_reducible repeat (first | apply Kd.R_alloc | apply Kd.R_drewN | apply Kd.R_drew)); (first | exact HO_138001.out | (first | refine Kd.R_mono HO_138001.out (fun _ hk => ?_) | refine Kd.S_mono HO_138001.out (fun _ hk => ?_) | refine Kd.Q_mono HO_138001.out (fun _ hk => ?_)); simp only [ownBlock_slice] at hk ⊢; exact hk))) (by decide) hg)
                                      have n1_ := Aside0.mk (blk_grown (g := gb134) (o := .cells #[.string x135000_2, .slice none 0 0, .slice none 0 0] 64 (0, 0)) (by (with_reducible repeat (first | refine blk_drewN ?_ _ | refine blk_drew ?_ | refine blk_alloc ?_ _)); exact BK134.out) hg (Kd.R_ne HO_138001.out BK134.out (by decide)))
                                      have n2_ := Aside0.mk (blk_grown (g := gb137) (o := .cells #[.string x138000_2, u138001, u138002] 64 (0, 0)) (by (with_reducible repeat (first | refine blk_drewN ?_ _ | refine blk_drew ?_ | refine blk_alloc ?_ _)); exact BK137.out) hg (Kd.R_ne HO_138001.out BK137.out (by decide)))
                                      have n3_ := Aside0.mk (blk_grown (g := gb142) (o := .cells #[.string t139, .string t140] 69 (0, 0)) (by (with_reducible repeat (first | refine blk_drewN ?_ _ | refine blk_drew ?_ | refine blk_alloc ?_ _)); exact BK142.out) hg (Kd.R_ne HO_138001.out BK142.out (by decide)))
                                      have n4_ := Aside0.mk (hb)
                                      have n5_ := Aside0.mk (ho)
                                      clear HO_138002
                                      clear BK134
                                      clear BK137
                                      clear BK142
                                      clear HB
                                      clear HO_138001
                                      have HO_138002 := n0_
                                      have BK134 := n1_
                                      have BK137 := n2_
                                      have BK142 := n3_
                                      have HB := n4_
                                      have HO153 := n5_
                                      clear n0_ n1_ n2_ n3_ n4_ n5_
                                      clear ho hb hg hat
                                      obtain ⟨Ao55, co55, eo55⟩ := Kd.R_slice HO153.out
                                      (first | subst eo55 | (injection eo55 with f1_ f2_ f3_; have f4_ := f1_.symm; have f5_ := f3_.symm; clear f1_ f2_ f3_; subst f4_; subst f5_))
                                      refine hK.out _ _ ⟨(blk_cell BK137.out 0).trans rfl, (blk_cell BK137.out 1).trans rfl, (blk_cell BK137.out 2).trans rfl, ((HB.out.cell (World.block_lt_of_cell? w _ hw150_0)).trans hw150_0)⟩ (fun hHeld => ?_)
                                      clear hK K
                                      refine norm_ (a' := ?_) ?_ ?_
                                      rotate_left
                                      · show Act.put _ (some 90) _ = _
                                        simp only [Act.put, List.setIfInBounds_toArray, List.set_cons_zero, List.set_cons_succ, i64_w, i32_w]
                                        rfl
                                      refine pure_ (i := 8) (N := some 91) (v := ?_) (a' := ?_) #[true, true, true, true, true, true, true, true, true, false] rfl rfl (any_of HT_.out (by kernel_rfl)) (fun _ _ _ h => h) (Or.inl ⟨by rfl, ?_⟩) ?_ ?_
                                      rotate_left
                                      · intro w'
                                        go_simp
                                        with_reducible rfl
                                      rotate_left
                                      · simp only [Act.put, List.setIfInBounds_toArray, List.set_cons_zero, List.set_cons_succ, i64_w, i32_w]
                                        rfl
                                      refine last_ (i := 9) (N := none) #[true, true, true, true, true, true, true, true, true, true] rfl rfl (one_of HT_.out (by kernel_rfl)) (by decide) (fun K hK => ?_)
                                      have hs56 : w54.cell? ⟨gb137, 1, none⟩ = some (u138001) := (blk_cell BK137.out 1).trans rfl
                                      have hfs56 := blk_frozen BK137.out 1
                                      have hns56_0 := NB134_137.out
                                      have hns56_2 := NB142_137.out
                                      have hms56_0 := NB137_134.out
                                      have hms56_2 := NB137_142.out
                                      refine skip_ (w1 := ?_) (by rfl) rfl ?_ ?_
                                      rotate_left
                                      · go_simp
                                        rfl
                                      refine hK.out _ _ ?_
                                      clear hK K
                                      refine done_ (done_of HT_.out (by kernel_rfl)) ?_
                                      try go_wp2
                                      go_roundg kj29
                                      case measure => have := HJ1.out; have := HK2.out; have := HJ14.out; have := HJ29.out; omega
                                      case rel => exact ⟨(wrap64 (x6_2 + 1)), (x135000_2), (x138000_2), (y151), (x138002_2), (.slice Ao55 y151.length co55), (u138002), (by first | rfl | (simp; done) | (simp [*]; done)), H', ⟨by have := HJ1.out; have := HK2.out; have := HJ14.out; have := HJ29.out; omega⟩, ⟨by (with_reducible repeat (first | apply Kd.R_alloc | apply Kd.R_drewN | apply Kd.R_drew)); exact Kd.R_mono (Kd.R_far (p := ⟨gb137, 1, none⟩) (Kd.R_types HO153.out BK137.out (by decide)) (fun _ hk => hk.2) (.slice Ao55 y151.length co55)) (fun _ hk => trivial)⟩, ⟨by (with_reducible repeat (first | apply Kd.R_alloc | apply Kd.R_drewN | apply Kd.R_drew)); exact Kd.R_mono (Kd.R_far (p := ⟨gb137, 1, none⟩) (Kd.R_types HO_138002.out BK137.out (by decide)) (fun _ hk => hk.2) (.slice Ao55 y151.length co55)) (fun _ hk => trivial)⟩, ⟨by (with_reducible repeat (first | refine blk_drewN ?_ _ | refine blk_drew ?_ | refine blk_alloc ?_ _)); refine blk_far ?_ NB134_137.out _; (with_reducible repeat (first | refine blk_drewN ?_ _ | refine blk_drew ?_ | refine blk_alloc ?_ _)); exact BK134.out⟩, ⟨by (with_reducible repeat (first | refine blk_drewN ?_ _ | refine blk_drew ?_ | refine blk_alloc ?_ _)); refine blk_put (cs := #[.string x138000_2, u138001, u138002]) ?_ 1 _ rfl; (with_reducible repeat (first | refine blk_drewN ?_ _ | refine blk_drew ?_ | refine blk_alloc ?_ _)); exact BK137.out⟩, ⟨by repeat (first | (with_reducible first | exact HB.out | apply below_alloc | apply pw_below_drewN | apply below_drew1 | refine below_set ?_ GE134.out | refine below_set ?_ GE137.out | refine below_set ?_ GE142.out) | exact HB.out)⟩⟩
                                    · rw [if_neg c52] at H
                                      exact absurd H (by simp)
                                  · rw [if_neg c51] at H
                                    exact absurd H (by simp)
                                · rw [if_neg c50] at H
                                  exact absurd H (by simp)
                · rw [if_neg c13] at H
                  exact absurd H (by simp)
              · rw [if_neg c12] at H
                have c12b0 : decide (x6_2 < (((rd_T132 l0 0).f1).length : Int)) = false := decide_eq_false c12
                clear c12
                simp only [Option.some.injEq, Prod.mk.injEq] at H
                obtain ⟨rfl, rfl, rfl, rfl⟩ := H
                have hnb57 := NB137_134.out
                have hnc57 := NB134_137.out
                have hcz58_0 : wr.cell? ⟨gb137, 0, none⟩ = some (.string x138000_2) := (blk_cell BK137.out 0).trans rfl
                have hcz58_1 : wr.cell? ⟨gb137, 1, none⟩ = some (u138001) := (blk_cell BK137.out 1).trans rfl
                have hcz58_2 : wr.cell? ⟨gb137, 2, none⟩ = some (u138002) := (blk_cell BK137.out 2).trans rfl
                have hfz58_0 := blk_frozen BK137.out 0
                have hfz58_1 := blk_frozen BK137.out 1
                have hfz58_2 := blk_frozen BK137.out 2
                have hcz59_0 : wr.cell? ⟨gb134, 0, none⟩ = some (.string x135000_2) := (blk_cell BK134.out 0).trans rfl
                have hcz59_1 : wr.cell? ⟨gb134, 1, none⟩ = some (.slice none 0 0) := (blk_cell BK134.out 1).trans rfl
                have hcz59_2 : wr.cell? ⟨gb134, 2, none⟩ = some (.slice none 0 0) := (blk_cell BK134.out 2).trans rfl
                have hfz59_0 := blk_frozen BK134.out 0
                have hfz59_1 := blk_frozen BK134.out 1
                have hfz59_2 := blk_frozen BK134.out 2
                obtain ⟨Ao60, co60, eo60⟩ := Kd.R_slice HO_138001.out
                subst eo60
                obtain ⟨Ao61, co61, eo61⟩ := Kd.R_slice HO_138002.out
                subst eo61
                go_wp2
                refine bodyPost_ret (results_ct rfl _ _ gb134 64 #[.string x138000_2, .slice Ao60 x138001_2.length co60, .slice Ao61 x138002_2.length co61] (0, 0) _ rfl (by (with_reducible repeat (first | refine blk_drewN ?_ _ | refine blk_drew ?_ | refine blk_alloc ?_ _)); refine blk_put (cs := #[.string x138000_2, .slice Ao60 x138001_2.length co60, .slice none 0 0]) ?_ 2 _ rfl; (with_reducible repeat (first | refine blk_drewN ?_ _ | refine blk_drew ?_ | refine blk_alloc ?_ _)); refine blk_put (cs := #[.string x138000_2, .slice none 0 0, .slice none 0 0]) ?_ 1 _ rfl; (with_reducible repeat (first | refine blk_drewN ?_ _ | refine blk_drew ?_ | refine blk_alloc ?_ _)); refine blk_put (cs := #[.string x135000_2, .slice none 0 0, .slice none 0 0]) ?_ 0 _ rfl; (with_reducible repeat (first | refine blk_drewN ?_ _ | refine blk_drew ?_ | refine blk_alloc ?_ _)); exact BK134.out) Try.underlying64 rfl (by kernel_rfl)) rfl ?_
                exact ⟨_, _, by first | rfl | (simp [errW_none, errW_some] <;> rfl) | (simp [*, errW_none, errW_some] <;> rfl), by (with_reducible repeat (first | apply Kd.R_alloc | apply Kd.R_drewN | apply Kd.R_drew)); exact Kd.R_mono (Kd.R_far (p := ⟨gb134, 2, none⟩) (Kd.R_far (p := ⟨gb134, 1, none⟩) (Kd.R_far (p := ⟨gb134, 0, none⟩) (Kd.R_types HO_138001.out BK134.out (by decide)) (fun _ hk => hk.2) (.string x138000_2)) (fun _ hk => hk.2) (.slice Ao60 x138001_2.length co60)) (fun _ hk => hk.2) (.slice Ao61 x138002_2.length co61)) (fun _ hk => trivial), by (with_reducible repeat (first | apply Kd.R_alloc | apply Kd.R_drewN | apply Kd.R_drew)); exact Kd.R_mono (Kd.R_far (p := ⟨gb134, 2, none⟩) (Kd.R_far (p := ⟨gb134, 1, none⟩) (Kd.R_far (p := ⟨gb134, 0, none⟩) (Kd.R_types HO_138002.out BK134.out (by decide)) (fun _ hk => hk.2) (.string x138000_2)) (fun _ hk => hk.2) (.slice Ao60 x138001_2.length co60)) (fun _ hk => hk.2) (.slice Ao61 x138002_2.length co61)) (fun _ hk => trivial), by repeat (first | (with_reducible first | exact HB.out | apply below_alloc | apply pw_below_drewN | apply below_drew1 | refine below_set ?_ GE134.out | refine below_set ?_ GE137.out) | exact HB.out)⟩
        · rw [if_neg c8] at H
          exact absurd H (by simp)

end Go.Proofs.Ytmpheeanjjfddaa.XW05
/- Laid for this claim by the session's own program xprint.py, over the print of the kit: functions of the program as plain Lean functions, each with a proof that a call comes to what its function says, or the row of a law out of these; no condition of its own. -/
namespace Go.Proofs.Ytmpheeanjjfddaa.XW05
open Go.Proofs.Ytmpheeanjjfddaa.X Go.Proofs.Ytmpheeanjjfddaa.XT06 Go.RowKit Go.Proofs.YtmpheeanjjfddaaW.PrintWords Go.Proofs.YtmpheeanjjfddaaW.PrintLast Go.Proofs.YtmpheeanjjfddaaW.PrintMore
attribute [local go_sem] cell4_1 cell4_1d max2_int min2_int max_two min_two max_three min_three max_four min_four   -- for this text's walks alone
set_option linter.unusedVariables false
set_option linter.unusedSimpArgs false

attribute [local go_sem high] eqA69 eqA98
/-! ### flatironlaw19_Pairs: function 24 -/
def flatironlaw19_Pairs.l0 : Nat → List (S69) → List (S98) → Int → Int → Option ((List (S69)))
  | 0, _, _, _, _ => none
  | k + 1, x3, x6, x7, x8 => if x8 < x7 then (if 0 ≤ x8 then (if x8 < (x6.length : Int) then (if x3.length < 4398046511104 then (flatironlaw19_Pairs.l0 k (x3 ++ [(⟨(rd_T98 x6 x8).f0, (rd_T98 x6 x8).f1⟩ : S69)]) x6 x7 (wrap64 (x8 + 1))) else (none)) else (none)) else (none)) else (some x3)
def flatironlaw19_Pairs.f (k : Nat) (l0 : List (S98)) : Option ((List (S69))) := flatironlaw19_Pairs.l0 k ([] : List (S69)) l0 (l0.length : Int) 0
theorem flatironlaw19_Pairs.mono_l : ∀ k, (∀ y0 y1 y2 y3, LeO (flatironlaw19_Pairs.l0 k y0 y1 y2 y3) (flatironlaw19_Pairs.l0 (k + 1) y0 y1 y2 y3))
  | 0 => fun _ _ _ _ r h => by simp [flatironlaw19_Pairs.l0] at h
  | k + 1 => by
    have ih0 := flatironlaw19_Pairs.mono_l k
    · intro y0 y1 y2 y3
      unfold flatironlaw19_Pairs.l0
      repeat' first
      | (with_reducible exact ih0 _ _ _ _)
      | (with_reducible exact LeO.refl _)
      | (with_reducible exact LeO.none _)
      | (with_reducible refine LeO.ite ?_ ?_)
      | (with_reducible refine LeO.bind ?_ (fun _ => ?_))
      | exact ih0 _ _ _ _
      | exact LeO.none _
      | refine LeO.ite ?_ ?_
      | refine LeO.bind ?_ (fun _ => ?_)
theorem flatironlaw19_Pairs.mono : ∀ a0 k, LeO (flatironlaw19_Pairs.f k a0) (flatironlaw19_Pairs.f (k + 1) a0) := by
  intro a0 k
  have ih0 := flatironlaw19_Pairs.mono_l k
  unfold flatironlaw19_Pairs.f
  repeat' first
      | (with_reducible exact ih0 _ _ _ _)
      | (with_reducible exact LeO.refl _)
      | (with_reducible exact LeO.none _)
      | (with_reducible refine LeO.ite ?_ ?_)
      | (with_reducible refine LeO.bind ?_ (fun _ => ?_))
      | exact ih0 _ _ _ _
      | exact LeO.none _
      | refine LeO.ite ?_ ?_
      | refine LeO.bind ?_ (fun _ => ?_)
set_option maxHeartbeats 8000000 in
set_option maxRecDepth 100000 in
theorem flatironlaw19_Pairs.calls (k : Nat) (A0 : Option Addr) (c0 : Nat) (l0 : List (S98)) (r : List (S69)) (w : World) (hr0 : Kd.C k98 w A0 l0.length l0) (hc0 : l0.length ≤ c0) (h : flatironlaw19_Pairs.f k l0 = some r) :
    Calls Try.prog 24 #[.slice A0 l0.length c0] w fun e w' => ∃ v0_ : Value, e = .returned (v0_) ∧ Kd.R k69 69 w' w.heap.size (fun _ => True) v0_ r ∧ Below w.heap.size w w' := by
  have hu98 := Try.underlying98
  have hu69 := Try.underlying69
  have HR0 := Aside0.mk hr0
  have HC0 := Aside0.mk hc0
  clear hr0 hc0
  have HB := Aside0.mk (Below.refl w.heap.size w)
  have H : (flatironlaw19_Pairs.l0 k ([] : List (S69)) l0 (l0.length : Int) 0) = some r := h
  clear h
  have H' := Aside0.mk H
  clear H
  go_enter Try.func24, Try.ntmps24
  go_wp2
  go_loopg [3, 8] k (fun kq v3 v8 w' => ∃ (x3_1 : List (S69)) (x8_1 : Int), v8 = .int .i64 x8_1 ∧ Aside0 (flatironlaw19_Pairs.l0 kq x3_1 l0 (l0.length : Int) x8_1 = some r) ∧ Aside0 (kq ≤ k) ∧ Aside0 (Kd.R k69 69 w' w.heap.size (fun _ => True) v3 x3_1) ∧ Aside0 (Below w.heap.size w w'))
  case atStart => exact ⟨(([] : List (S69))), (0), (by first | rfl | (simp; done) | (simp [*]; done)), H', ⟨Nat.le_refl _⟩, ⟨by first | exact Kd.R_nil _ _ _ _ _ | exact Kd.N_nil _ _ _ _ _ | exact Kd.V_nil _ _ _ _ _ | exact Kd.Q_nil _ _ _ _ _ | exact Kd.S_nil _ _ _ _ _⟩, ⟨by repeat (first | (with_reducible first | exact HB.out | apply below_alloc | apply pw_below_drewN | apply below_drew1) | exact HB.out)⟩⟩
  case round =>
    clear H'
    obtain ⟨x3_1, x8_1, rfl, HA, HK1, HO_3, HB⟩ := hrel
    cases gk with
    | zero => exact absurd HA.out (by simp [flatironlaw19_Pairs.l0])
    | succ k1 =>
      have H := HA.out
      clear HA
      simp only [flatironlaw19_Pairs.l0] at H
      by_cases c2 : x8_1 < (l0.length : Int)
      · rw [if_pos c2] at H
        have c2b0 : decide (x8_1 < (l0.length : Int)) = true := decide_eq_true c2
        clear c2
        by_cases c3 : 0 ≤ x8_1
        · rw [if_pos c3] at H
          have c3b0 : decide (0 ≤ x8_1) = true := decide_eq_true c3
          clear c3
          by_cases c4 : x8_1 < (l0.length : Int)
          · rw [if_pos c4] at H
            have c4b0 : decide (x8_1 < (l0.length : Int)) = true := decide_eq_true c4
            clear c4
            by_cases c5 : x3_1.length < 4398046511104
            · rw [if_pos c5] at H
              have LMc5 := Aside0.mk c5
              clear c5
              obtain ⟨y156, hy156⟩ : ∃ y_ : List (S69), y_ = (x3_1 ++ [(⟨(rd_T98 l0 x8_1).f0, (rd_T98 l0 x8_1).f1⟩ : S69)]) := ⟨_, rfl⟩
              replace H : (flatironlaw19_Pairs.l0 k1 y156 l0 (l0.length : Int) (wrap64 (x8_1 + 1))) = some r := by first | (rw [hy156]; with_reducible exact H) | (have H2_ := (Option.bind_some _ _).symm.trans H; rw [hy156]; with_reducible exact H2_) | (have H2_ := (Option.bind_some _ _).symm.trans H; with_reducible exact H2_) | with_reducible exact H | (rw [hy156]; exact H) | exact H
              have Ny156 := Aside0.mk hy156
              clear hy156
              have H' := Aside0.mk H
              clear H
              have p154 : 0 ≤ (x8_1 : Int) := of_decide_eq_true (by first | (with_reducible assumption) | assumption)
              have q154 : x8_1 < (l0.length : Int) := of_decide_eq_true (by first | (with_reducible assumption) | assumption)
              obtain ⟨ad154, e154, hx154_0, hx154_1⟩ := at_T98 HR0.out x8_1 p154 q154
              cases e154
              replace hx154_0 := (HB.out.cell (World.block_lt_of_cell? w _ hx154_0)).trans hx154_0
              replace hx154_1 := (HB.out.cell (World.block_lt_of_cell? w _ hx154_1)).trans hx154_1
              replace p154 := eq_true p154
              replace q154 := eq_true q154
              go_wp2_with (first | ((with_reducible refine gate_dst (N := 5) rfl ?_); refine box_event ?hg (N := 5) ?hd (cs := #[.string (⟨#[]⟩ : ByteArray), .string (⟨#[]⟩ : ByteArray)]) (t := 98) ?hr ?_; (case hd => rfl); (case hg => rfl); (case hr => first | (go_simp; done) | (go_simp; rfl)); intro gb155 hg w6 hbox hb; have n0_ := Aside0.mk (Kd.R_below (by (with_reducible repeat (first | apply Kd.R_alloc | apply Kd.R_drewN | apply Kd.R_drew)); (first | exact HO_3.out | (first | refine Kd.R_mono HO_3.out (fun _ hk => ?_) | refine Kd.S_mono HO_3.out (fun _ hk => ?_) | refine Kd.Q_mono HO_3.out (fun _ hk => ?_)); simp only [ownBlock_slice] at hk ⊢; exact hk)) hb); have n1_ := Aside0.mk (below_step (by repeat (first | (with_reducible first | exact HB.out | apply below_alloc | apply pw_below_drewN | apply below_drew1) | exact HB.out)) hb); have n2_ := Aside0.mk (hbox); have n3_ := Aside0.mk ((by rw [hg]; exact (below_size (by repeat (first | (with_reducible first | exact HB.out | apply below_alloc | apply pw_below_drewN | apply below_drew1) | exact HB.out))) : w.heap.size ≤ gb155)); have n4_ := Aside0.mk ((by rw [hg]; exact (below_size (by repeat (first | (with_reducible first | exact HB.out | apply below_alloc | apply pw_below_drewN | apply below_drew1) | exact HB.out))) : w.heap.size ≤ gb155)); clear HO_3; clear HB; have HO_3 := n0_; have HB := n1_; have BK155 := n2_; have GW155 := n3_; have GE155 := n4_; clear n0_ n1_ n2_ n3_ n4_; clear hb hbox hg; have hcz7_0 : w6.cell? ⟨gb155, 0, none⟩ = some (.string (⟨#[]⟩ : ByteArray)) := (blk_cell BK155.out 0).trans rfl; have hcz7_1 : w6.cell? ⟨gb155, 1, none⟩ = some (.string (⟨#[]⟩ : ByteArray)) := (blk_cell BK155.out 1).trans rfl; have hfz7_0 := blk_frozen BK155.out 0; have hfz7_1 := blk_frozen BK155.out 1) | ((with_reducible refine gate_builtin (b := .append) (xs := #[.tmp 12, .tmp 18]) rfl ?_); at_builtin; refine Kd.R_append k69 (w0 := w) w.heap.size rfl (.tmp 12) (.tmp 18) 62 69 (.agg #[(.string ⟨#[]⟩), (.string ⟨#[]⟩)]) 32 rfl Try.underlying62 info69 rfl (by decide) (by omega) u3 x3_1 (⟨(rd_T98 l0 x8_1).f0, (rd_T98 l0 x8_1).f1⟩ : S69) [.string ((rd_T98 l0 x8_1).f0), .string ((rd_T98 l0 x8_1).f1)] (fun _ => True) (fun _ => False) rfl (by first | (go_simp; done) | (go_simp; rfl)) ?aP (fun _ hk => hk.elim) ?aF ?aO ?aB ?aS ?aL ?_; (case aP => exact k69_mkM _ _ _ (⟨(rd_T98 l0 x8_1).f0, (rd_T98 l0 x8_1).f1⟩ : S69)); (case aB => exact (by repeat (first | (with_reducible first | exact HB.out | apply below_alloc | apply pw_below_drewN | apply below_drew1 | refine below_set ?_ GE155.out) | exact HB.out))); (case aF => exact (fun _ _ => trivial)); (case aO => exact (by (with_reducible repeat (first | apply Kd.R_alloc | apply Kd.R_drewN | apply Kd.R_drew)); exact Kd.R_mono (Kd.R_far (p := ⟨gb155, 1, none⟩) (Kd.R_far (p := ⟨gb155, 0, none⟩) (Kd.R_types HO_3.out BK155.out (by decide)) (fun _ hk => hk.2) (.string ((rd_T98 l0 x8_1).f0))) (fun _ hk => hk.2) (.string ((rd_T98 l0 x8_1).f1))) (fun _ hk => trivial))); (case aS => exact (below_size (by repeat (first | (with_reducible first | exact HB.out | apply below_alloc | apply pw_below_drewN | apply below_drew1 | refine below_set ?_ GE155.out) | exact HB.out)))); (case aL => have := LMc5.out; omega); intro v157 w8 ho hb hg hat; rw [← Ny156.out] at ho; have n0_ := Aside0.mk (blk_grown (g := gb155) (o := .cells #[.string ((rd_T98 l0 x8_1).f0), .string ((rd_T98 l0 x8_1).f1)] 98 (0, 0)) (by (with_reducible repeat (first | refine blk_drewN ?_ _ | refine blk_drew ?_ | refine blk_alloc ?_ _)); refine blk_put (cs := #[.string ((rd_T98 l0 x8_1).f0), .string (⟨#[]⟩ : ByteArray)]) ?_ 1 _ rfl; (with_reducible repeat (first | refine blk_drewN ?_ _ | refine blk_drew ?_ | refine blk_alloc ?_ _)); refine blk_put (cs := #[.string (⟨#[]⟩ : ByteArray), .string (⟨#[]⟩ : ByteArray)]) ?_ 0 _ rfl; (with_reducible repeat (first | refine blk_drewN ?_ _ | refine blk_drew ?_ | refine blk_alloc ?_ _)); exact BK155.out) hg (Kd.R_ne HO_3.out BK155.out (by decide))); have n1_ := Aside0.mk (hb); have n2_ := Aside0.mk (ho); clear BK155; clear HB; clear HO_3; have BK155 := n0_; have HB := n1_; have HO158 := n2_; clear n0_ n1_ n2_; clear ho hb hg hat))
              go_roundg k1
              case measure => have := HK1.out; omega
              case rel => exact ⟨(y156), (wrap64 (x8_1 + 1)), (by first | rfl | (simp; done) | (simp [*]; done)), H', ⟨by have := HK1.out; omega⟩, ⟨by (with_reducible repeat (first | apply Kd.R_alloc | apply Kd.R_drewN | apply Kd.R_drew)); (first | exact HO158.out | (first | refine Kd.R_mono HO158.out (fun _ hk => ?_) | refine Kd.S_mono HO158.out (fun _ hk => ?_) | refine Kd.Q_mono HO158.out (fun _ hk => ?_)); simp only [ownBlock_slice] at hk ⊢; exact hk)⟩, ⟨by repeat (first | (with_reducible first | exact HB.out | apply below_alloc | apply pw_below_drewN | apply below_drew1 | refine below_set ?_ GE155.out) | exact HB.out)⟩⟩
            · rw [if_neg c5] at H
              exact absurd H (by simp)
          · rw [if_neg c4] at H
            exact absurd H (by simp)
        · rw [if_neg c3] at H
          exact absurd H (by simp)
      · rw [if_neg c2] at H
        have c2b0 : decide (x8_1 < (l0.length : Int)) = false := decide_eq_false c2
        clear c2
        obtain rfl := Option.some.inj H
        go_wp2
        go_ret
        exact ⟨_, by first | rfl | (simp [errW_none, errW_some] <;> rfl) | (simp [*, errW_none, errW_some] <;> rfl), by (with_reducible repeat (first | apply Kd.R_alloc | apply Kd.R_drewN | apply Kd.R_drew)); exact HO_3.out, by repeat (first | (with_reducible first | exact HB.out | apply below_alloc | apply pw_below_drewN | apply below_drew1) | exact HB.out)⟩

/-! ### slices_Equal_string_string: function 14 -/
def slices_Equal_string_string.l0 : Nat → List ByteArray → List ByteArray → Int → Int → Option (Bool)
  | 0, _, _, _, _ => none
  | k + 1, x0, x1, x12, x13 => if x13 < x12 then (if 0 ≤ x13 then (if x13 < (x0.length : Int) then (if x13 < (x1.length : Int) then (if (rdOf ByteArray.empty x0 x13).toList = (rdOf ByteArray.empty x1 x13).toList then (slices_Equal_string_string.l0 k x0 x1 x12 (wrap64 (x13 + 1))) else (some false)) else (none)) else (none)) else (none)) else (some true)
def slices_Equal_string_string.f (k : Nat) (l0 : List ByteArray) (l1 : List ByteArray) : Option (Bool) := if (l0.length : Int) = (l1.length : Int) then (slices_Equal_string_string.l0 k l0 l1 (l0.length : Int) 0) else (some false)
theorem slices_Equal_string_string.mono_l : ∀ k, (∀ y0 y1 y2 y3, LeO (slices_Equal_string_string.l0 k y0 y1 y2 y3) (slices_Equal_string_string.l0 (k + 1) y0 y1 y2 y3))
  | 0 => fun _ _ _ _ r h => by simp [slices_Equal_string_string.l0] at h
  | k + 1 => by
    have ih0 := slices_Equal_string_string.mono_l k
    · intro y0 y1 y2 y3
      unfold slices_Equal_string_string.l0
      repeat' first
      | (with_reducible exact ih0 _ _ _ _)
      | (with_reducible exact LeO.refl _)
      | (with_reducible exact LeO.none _)
      | (with_reducible refine LeO.ite ?_ ?_)
      | (with_reducible refine LeO.bind ?_ (fun _ => ?_))
      | exact ih0 _ _ _ _
      | exact LeO.none _
      | refine LeO.ite ?_ ?_
      | refine LeO.bind ?_ (fun _ => ?_)
theorem slices_Equal_string_string.mono : ∀ a0 a1 k, LeO (slices_Equal_string_string.f k a0 a1) (slices_Equal_string_string.f (k + 1) a0 a1) := by
  intro a0 a1 k
  have ih0 := slices_Equal_string_string.mono_l k
  unfold slices_Equal_string_string.f
  repeat' first
      | (with_reducible exact ih0 _ _ _ _)
      | (with_reducible exact LeO.refl _)
      | (with_reducible exact LeO.none _)
      | (with_reducible refine LeO.ite ?_ ?_)
      | (with_reducible refine LeO.bind ?_ (fun _ => ?_))
      | exact ih0 _ _ _ _
      | exact LeO.none _
      | refine LeO.ite ?_ ?_
      | refine LeO.bind ?_ (fun _ => ?_)
set_option maxHeartbeats 8000000 in
set_option maxRecDepth 100000 in
theorem slices_Equal_string_string.calls (k : Nat) (A0 : Option Addr) (c0 : Nat) (l0 : List ByteArray) (A1 : Option Addr) (c1 : Nat) (l1 : List ByteArray) (r : Bool) (w : World) (hr0 : Kd.C Kd.string w A0 l0.length l0) (hc0 : l0.length ≤ c0) (hr1 : Kd.C Kd.string w A1 l1.length l1) (hc1 : l1.length ≤ c1) (h : slices_Equal_string_string.f k l0 l1 = some r) :
    Calls Try.prog 14 #[.slice A0 l0.length c0, .slice A1 l1.length c1] w fun e w' => e = .returned (.bool r) ∧ Drawn0 w w' := by
  have HR0 := Aside0.mk hr0
  have HC0 := Aside0.mk hc0
  clear hr0 hc0
  have HR1 := Aside0.mk hr1
  have HC1 := Aside0.mk hc1
  clear hr1 hc1
  have H : (if (l0.length : Int) = (l1.length : Int) then (slices_Equal_string_string.l0 k l0 l1 (l0.length : Int) 0) else (some false)) = some r := h
  clear h
  by_cases c3 : (l0.length : Int) = (l1.length : Int)
  · rw [if_pos c3] at H
    have c3b0 : ((l0.length : Int) == (l1.length : Int)) = true := beq_iff_eq.mpr c3
    have c3b1 : ((l0.length : Int) != (l1.length : Int)) = false := bne_eq_false_iff_eq.mpr c3
    have c3b2 : (l0.length == l1.length) = true := by first | simpa using c3 | (simp at c3 ⊢; omega)
    clear c3
    have H' := Aside0.mk H
    clear H
    go_enter Try.func14, Try.ntmps14
    go_wp2
    repeat (go_quiet (fail); try go_wp2)
    go_loopg [13] k (fun kq v13 w' => ∃ (x13_1 : Int), v13 = .int .i64 x13_1 ∧ Aside0 (slices_Equal_string_string.l0 kq l0 l1 (l0.length : Int) x13_1 = some r) ∧ Aside0 (kq ≤ k) ∧ Drawn0 w w')
    case atStart => exact ⟨(0), (by first | rfl | (simp; done) | (simp [*]; done)), H', ⟨Nat.le_refl _⟩, by repeat (first | exact Drawn0.refl _ | apply Drawn0.step)⟩
    case round =>
      clear H'
      try clear c1
      try clear p2
      try clear c3
      try clear c3b0
      try clear c3b1
      try clear c3b2
      obtain ⟨x13_1, rfl, HA, HK1, ⟨m1, rfl⟩⟩ := hrel
      cases gk with
      | zero => exact absurd HA.out (by simp [slices_Equal_string_string.l0])
      | succ k1 =>
        have H := HA.out
        clear HA
        simp only [slices_Equal_string_string.l0] at H
        by_cases c4 : x13_1 < (l0.length : Int)
        · rw [if_pos c4] at H
          have c4b0 : decide (x13_1 < (l0.length : Int)) = true := decide_eq_true c4
          clear c4
          by_cases c5 : 0 ≤ x13_1
          · rw [if_pos c5] at H
            have c5b0 : decide (0 ≤ x13_1) = true := decide_eq_true c5
            clear c5
            by_cases c6 : x13_1 < (l0.length : Int)
            · rw [if_pos c6] at H
              have c6b0 : decide (x13_1 < (l0.length : Int)) = true := decide_eq_true c6
              clear c6
              by_cases c7 : x13_1 < (l1.length : Int)
              · rw [if_pos c7] at H
                have c7b0 : decide (x13_1 < (l1.length : Int)) = true := decide_eq_true c7
                clear c7
                by_cases c8 : (rdOf ByteArray.empty l0 x13_1).toList = (rdOf ByteArray.empty l1 x13_1).toList
                · rw [if_pos c8] at H
                  have c8b0 : ((rdOf ByteArray.empty l0 x13_1).toList == (rdOf ByteArray.empty l1 x13_1).toList) = true := beq_iff_eq.mpr c8
                  have c8b1 : ((rdOf ByteArray.empty l0 x13_1).toList != (rdOf ByteArray.empty l1 x13_1).toList) = false := bne_eq_false_iff_eq.mpr c8
                  clear c8
                  have H' := Aside0.mk H
                  clear H
                  have p159 : 0 ≤ (x13_1 : Int) := of_decide_eq_true (by first | (with_reducible assumption) | assumption)
                  have q159 : x13_1 < (l0.length : Int) := of_decide_eq_true (by first | (with_reducible assumption) | assumption)
                  obtain ⟨ad159, e159, hx159_0⟩ := Kd.at_string HR0.out x13_1 p159 q159
                  cases e159
                  replace p159 := eq_true p159
                  replace q159 := eq_true q159
                  have p160 : 0 ≤ (x13_1 : Int) := of_decide_eq_true (by first | (with_reducible assumption) | assumption)
                  have q160 : x13_1 < (l1.length : Int) := of_decide_eq_true (by first | (with_reducible assumption) | assumption)
                  obtain ⟨ad160, e160, hx160_0⟩ := Kd.at_string HR1.out x13_1 p160 q160
                  cases e160
                  replace p160 := eq_true p160
                  replace q160 := eq_true q160
                  go_wp2
                  repeat (go_quiet (fail); try go_wp2)
                  go_roundg k1
                  case measure => have := HK1.out; omega
                  case rel => exact ⟨(wrap64 (x13_1 + 1)), (by first | rfl | (simp; done) | (simp [*]; done)), H', ⟨by have := HK1.out; omega⟩, by repeat (first | exact Drawn0.refl _ | apply Drawn0.step)⟩
                · rw [if_neg c8] at H
                  have c8b0 : ((rdOf ByteArray.empty l0 x13_1).toList == (rdOf ByteArray.empty l1 x13_1).toList) = false := beq_eq_false_iff_ne.mpr c8
                  have c8b1 : ((rdOf ByteArray.empty l0 x13_1).toList != (rdOf ByteArray.empty l1 x13_1).toList) = true := bne_iff_ne.mpr c8
                  obtain rfl := Option.some.inj H
                  have p159 : 0 ≤ (x13_1 : Int) := of_decide_eq_true (by first | (with_reducible assumption) | assumption)
                  have q159 : x13_1 < (l0.length : Int) := of_decide_eq_true (by first | (with_reducible assumption) | assumption)
                  obtain ⟨ad159, e159, hx159_0⟩ := Kd.at_string HR0.out x13_1 p159 q159
                  cases e159
                  replace p159 := eq_true p159
                  replace q159 := eq_true q159
                  have p160 : 0 ≤ (x13_1 : Int) := of_decide_eq_true (by first | (with_reducible assumption) | assumption)
                  have q160 : x13_1 < (l1.length : Int) := of_decide_eq_true (by first | (with_reducible assumption) | assumption)
                  obtain ⟨ad160, e160, hx160_0⟩ := Kd.at_string HR1.out x13_1 p160 q160
                  cases e160
                  replace p160 := eq_true p160
                  replace q160 := eq_true q160
                  go_wp2
                  repeat (go_quiet (fail); try go_wp2)
                  go_ret
                  exact ⟨by first | rfl | (simp; done) | (simp [*]; done), by repeat (first | exact Drawn0.refl _ | apply Drawn0.step)⟩
              · rw [if_neg c7] at H
                exact absurd H (by simp)
            · rw [if_neg c6] at H
              exact absurd H (by simp)
          · rw [if_neg c5] at H
            exact absurd H (by simp)
        · rw [if_neg c4] at H
          have c4b0 : decide (x13_1 < (l0.length : Int)) = false := decide_eq_false c4
          clear c4
          obtain rfl := Option.some.inj H
          go_wp2
          repeat (go_quiet (fail); try go_wp2)
          go_ret
          exact ⟨by first | rfl | (simp; done) | (simp [*]; done), by repeat (first | exact Drawn0.refl _ | apply Drawn0.step)⟩
  · rw [if_neg c3] at H
    have c3b0 : ((l0.length : Int) == (l1.length : Int)) = false := beq_eq_false_iff_ne.mpr c3
    have c3b1 : ((l0.length : Int) != (l1.length : Int)) = true := bne_iff_ne.mpr c3
    have c3b2 : (l0.length == l1.length) = false := by first | simpa using c3 | (simp at c3 ⊢; omega)
    obtain rfl := Option.some.inj H
    go_enter Try.func14, Try.ntmps14
    go_wp2
    repeat (go_quiet (fail); try go_wp2)
    go_ret
    exact ⟨by first | rfl | (simp; done) | (simp [*]; done), by repeat (first | exact Drawn0.refl _ | apply Drawn0.step)⟩

/-! ### flatironref14_Pair: function 23 -/
def flatironref14_Pair.l0 : Nat → List (S69) → List (S69) → Int → Int → Option (Bool)
  | 0, _, _, _, _ => none
  | k + 1, x0, x1, x12, x13 => if x13 < x12 then (if 0 ≤ x13 then (if x13 < (x0.length : Int) then (if x13 < (x1.length : Int) then (if (!((((rd_T69 x0 x13).f0).toList) == (((rd_T69 x1 x13).f0).toList)) || (!((((rd_T69 x0 x13).f1).toList) == (((rd_T69 x1 x13).f1).toList)))) = true then (some false) else (flatironref14_Pair.l0 k x0 x1 x12 (wrap64 (x13 + 1)))) else (none)) else (none)) else (none)) else (some true)
def flatironref14_Pair.f (k : Nat) (l0 : List (S69)) (l1 : List (S69)) : Option (Bool) := if (l0.length : Int) = (l1.length : Int) then (flatironref14_Pair.l0 k l0 l1 (l0.length : Int) 0) else (some false)
theorem flatironref14_Pair.mono_l : ∀ k, (∀ y0 y1 y2 y3, LeO (flatironref14_Pair.l0 k y0 y1 y2 y3) (flatironref14_Pair.l0 (k + 1) y0 y1 y2 y3))
  | 0 => fun _ _ _ _ r h => by simp [flatironref14_Pair.l0] at h
  | k + 1 => by
    have ih0 := flatironref14_Pair.mono_l k
    · intro y0 y1 y2 y3
      unfold flatironref14_Pair.l0
      repeat' first
      | (with_reducible exact ih0 _ _ _ _)
      | (with_reducible exact LeO.refl _)
      | (with_reducible exact LeO.none _)
      | (with_reducible refine LeO.ite ?_ ?_)
      | (with_reducible refine LeO.bind ?_ (fun _ => ?_))
      | exact ih0 _ _ _ _
      | exact LeO.none _
      | refine LeO.ite ?_ ?_
      | refine LeO.bind ?_ (fun _ => ?_)
theorem flatironref14_Pair.mono : ∀ a0 a1 k, LeO (flatironref14_Pair.f k a0 a1) (flatironref14_Pair.f (k + 1) a0 a1) := by
  intro a0 a1 k
  have ih0 := flatironref14_Pair.mono_l k
  unfold flatironref14_Pair.f
  repeat' first
      | (with_reducible exact ih0 _ _ _ _)
      | (with_reducible exact LeO.refl _)
      | (with_reducible exact LeO.none _)
      | (with_reducible refine LeO.ite ?_ ?_)
      | (with_reducible refine LeO.bind ?_ (fun _ => ?_))
      | exact ih0 _ _ _ _
      | exact LeO.none _
      | refine LeO.ite ?_ ?_
      | refine LeO.bind ?_ (fun _ => ?_)
set_option maxHeartbeats 8000000 in
set_option maxRecDepth 100000 in
theorem flatironref14_Pair.calls (k : Nat) (A0 : Option Addr) (c0 : Nat) (l0 : List (S69)) (A1 : Option Addr) (c1 : Nat) (l1 : List (S69)) (r : Bool) (w : World) (hr0 : Kd.C k69 w A0 l0.length l0) (hc0 : l0.length ≤ c0) (hr1 : Kd.C k69 w A1 l1.length l1) (hc1 : l1.length ≤ c1) (h : flatironref14_Pair.f k l0 l1 = some r) :
    Calls Try.prog 23 #[.slice A0 l0.length c0, .slice A1 l1.length c1] w fun e w' => e = .returned (.bool r) ∧ Drawn0 w w' := by
  have hu69 := Try.underlying69
  have HR0 := Aside0.mk hr0
  have HC0 := Aside0.mk hc0
  clear hr0 hc0
  have HR1 := Aside0.mk hr1
  have HC1 := Aside0.mk hc1
  clear hr1 hc1
  have H : (if (l0.length : Int) = (l1.length : Int) then (flatironref14_Pair.l0 k l0 l1 (l0.length : Int) 0) else (some false)) = some r := h
  clear h
  by_cases c3 : (l0.length : Int) = (l1.length : Int)
  · rw [if_pos c3] at H
    have c3b0 : ((l0.length : Int) == (l1.length : Int)) = true := beq_iff_eq.mpr c3
    have c3b1 : ((l0.length : Int) != (l1.length : Int)) = false := bne_eq_false_iff_eq.mpr c3
    have c3b2 : (l0.length == l1.length) = true := by first | simpa using c3 | (simp at c3 ⊢; omega)
    clear c3
    have H' := Aside0.mk H
    clear H
    go_enter Try.func23, Try.ntmps23
    go_wp2
    repeat (go_quiet (fail); try go_wp2)
    go_loopg [13] k (fun kq v13 w' => ∃ (x13_1 : Int), v13 = .int .i64 x13_1 ∧ Aside0 (flatironref14_Pair.l0 kq l0 l1 (l0.length : Int) x13_1 = some r) ∧ Aside0 (kq ≤ k) ∧ Drawn0 w w')
    case atStart => exact ⟨(0), (by first | rfl | (simp; done) | (simp [*]; done)), H', ⟨Nat.le_refl _⟩, by repeat (first | exact Drawn0.refl _ | apply Drawn0.step)⟩
    case round =>
      clear H'
      try clear c1
      try clear c2
      try clear p2
      try clear c3
      try clear c3b0
      try clear c3b1
      try clear c3b2
      obtain ⟨x13_1, rfl, HA, HK1, ⟨m1, rfl⟩⟩ := hrel
      cases gk with
      | zero => exact absurd HA.out (by simp [flatironref14_Pair.l0])
      | succ k1 =>
        have H := HA.out
        clear HA
        simp only [flatironref14_Pair.l0] at H
        by_cases c4 : x13_1 < (l0.length : Int)
        · rw [if_pos c4] at H
          have c4b0 : decide (x13_1 < (l0.length : Int)) = true := decide_eq_true c4
          clear c4
          by_cases c5 : 0 ≤ x13_1
          · rw [if_pos c5] at H
            have c5b0 : decide (0 ≤ x13_1) = true := decide_eq_true c5
            clear c5
            by_cases c6 : x13_1 < (l0.length : Int)
            · rw [if_pos c6] at H
              have c6b0 : decide (x13_1 < (l0.length : Int)) = true := decide_eq_true c6
              clear c6
              by_cases c7 : x13_1 < (l1.length : Int)
              · rw [if_pos c7] at H
                have c7b0 : decide (x13_1 < (l1.length : Int)) = true := decide_eq_true c7
                clear c7
                by_cases c8 : (!((((rd_T69 l0 x13_1).f0).toList) == (((rd_T69 l1 x13_1).f0).toList)) || (!((((rd_T69 l0 x13_1).f1).toList) == (((rd_T69 l1 x13_1).f1).toList)))) = true
                · rw [if_pos c8] at H
                  have c8b0 : (!((((rd_T69 l0 x13_1).f0).toList) == (((rd_T69 l1 x13_1).f0).toList)) || (!((((rd_T69 l0 x13_1).f1).toList) == (((rd_T69 l1 x13_1).f1).toList)))) = true := c8
                  clear c8
                  obtain rfl := Option.some.inj H
                  have p161 : 0 ≤ (x13_1 : Int) := of_decide_eq_true (by first | (with_reducible assumption) | assumption)
                  have q161 : x13_1 < (l0.length : Int) := of_decide_eq_true (by first | (with_reducible assumption) | assumption)
                  obtain ⟨ad161, e161, hx161_0, hx161_1⟩ := at_T69 HR0.out x13_1 p161 q161
                  cases e161
                  replace p161 := eq_true p161
                  replace q161 := eq_true q161
                  have p162 : 0 ≤ (x13_1 : Int) := of_decide_eq_true (by first | (with_reducible assumption) | assumption)
                  have q162 : x13_1 < (l1.length : Int) := of_decide_eq_true (by first | (with_reducible assumption) | assumption)
                  obtain ⟨ad162, e162, hx162_0, hx162_1⟩ := at_T69 HR1.out x13_1 p162 q162
                  cases e162
                  replace p162 := eq_true p162
                  replace q162 := eq_true q162
                  go_wp2
                  repeat (go_quiet (fail); try go_wp2)
                  go_ret
                  exact ⟨by first | rfl | (simp; done) | (simp [*]; done), by repeat (first | exact Drawn0.refl _ | apply Drawn0.step)⟩
                · rw [if_neg c8] at H
                  have c8b0 : (!((((rd_T69 l0 x13_1).f0).toList) == (((rd_T69 l1 x13_1).f0).toList)) || (!((((rd_T69 l0 x13_1).f1).toList) == (((rd_T69 l1 x13_1).f1).toList)))) = false := by simpa using c8
                  clear c8
                  have H' := Aside0.mk H
                  clear H
                  have p161 : 0 ≤ (x13_1 : Int) := of_decide_eq_true (by first | (with_reducible assumption) | assumption)
                  have q161 : x13_1 < (l0.length : Int) := of_decide_eq_true (by first | (with_reducible assumption) | assumption)
                  obtain ⟨ad161, e161, hx161_0, hx161_1⟩ := at_T69 HR0.out x13_1 p161 q161
                  cases e161
                  replace p161 := eq_true p161
                  replace q161 := eq_true q161
                  have p162 : 0 ≤ (x13_1 : Int) := of_decide_eq_true (by first | (with_reducible assumption) | assumption)
                  have q162 : x13_1 < (l1.length : Int) := of_decide_eq_true (by first | (with_reducible assumption) | assumption)
                  obtain ⟨ad162, e162, hx162_0, hx162_1⟩ := at_T69 HR1.out x13_1 p162 q162
                  cases e162
                  replace p162 := eq_true p162
                  replace q162 := eq_true q162
                  go_wp2
                  repeat (go_quiet (fail); try go_wp2)
                  go_roundg k1
                  case measure => have := HK1.out; omega
                  case rel => exact ⟨(wrap64 (x13_1 + 1)), (by first | rfl | (simp; done) | (simp [*]; done)), H', ⟨by have := HK1.out; omega⟩, by repeat (first | exact Drawn0.refl _ | apply Drawn0.step)⟩
              · rw [if_neg c7] at H
                exact absurd H (by simp)
            · rw [if_neg c6] at H
              exact absurd H (by simp)
          · rw [if_neg c5] at H
            exact absurd H (by simp)
        · rw [if_neg c4] at H
          have c4b0 : decide (x13_1 < (l0.length : Int)) = false := decide_eq_false c4
          clear c4
          obtain rfl := Option.some.inj H
          go_wp2
          repeat (go_quiet (fail); try go_wp2)
          go_ret
          exact ⟨by first | rfl | (simp; done) | (simp [*]; done), by repeat (first | exact Drawn0.refl _ | apply Drawn0.step)⟩
  · rw [if_neg c3] at H
    have c3b0 : ((l0.length : Int) == (l1.length : Int)) = false := beq_eq_false_iff_ne.mpr c3
    have c3b1 : ((l0.length : Int) != (l1.length : Int)) = true := bne_iff_ne.mpr c3
    have c3b2 : (l0.length == l1.length) = false := by first | simpa using c3 | (simp at c3 ⊢; omega)
    obtain rfl := Option.some.inj H
    go_enter Try.func23, Try.ntmps23
    go_wp2
    repeat (go_quiet (fail); try go_wp2)
    go_ret
    exact ⟨by first | rfl | (simp; done) | (simp [*]; done), by repeat (first | exact Drawn0.refl _ | apply Drawn0.step)⟩

/-! ### sub_Pair: function 42 -/
def sub_Pair.l0 : Nat → List (S98) → List (S98) → Int → Int → Option (Bool)
  | 0, _, _, _, _ => none
  | k + 1, x0, x1, x12, x13 => if x13 < x12 then (if 0 ≤ x13 then (if x13 < (x0.length : Int) then (if x13 < (x1.length : Int) then (if (!((((rd_T98 x0 x13).f0).toList) == (((rd_T98 x1 x13).f0).toList)) || (!((((rd_T98 x0 x13).f1).toList) == (((rd_T98 x1 x13).f1).toList)))) = true then (some false) else (sub_Pair.l0 k x0 x1 x12 (wrap64 (x13 + 1)))) else (none)) else (none)) else (none)) else (some true)
def sub_Pair.f (k : Nat) (l0 : List (S98)) (l1 : List (S98)) : Option (Bool) := if (l0.length : Int) = (l1.length : Int) then (sub_Pair.l0 k l0 l1 (l0.length : Int) 0) else (some false)
theorem sub_Pair.mono_l : ∀ k, (∀ y0 y1 y2 y3, LeO (sub_Pair.l0 k y0 y1 y2 y3) (sub_Pair.l0 (k + 1) y0 y1 y2 y3))
  | 0 => fun _ _ _ _ r h => by simp [sub_Pair.l0] at h
  | k + 1 => by
    have ih0 := sub_Pair.mono_l k
    · intro y0 y1 y2 y3
      unfold sub_Pair.l0
      repeat' first
      | (with_reducible exact ih0 _ _ _ _)
      | (with_reducible exact LeO.refl _)
      | (with_reducible exact LeO.none _)
      | (with_reducible refine LeO.ite ?_ ?_)
      | (with_reducible refine LeO.bind ?_ (fun _ => ?_))
      | exact ih0 _ _ _ _
      | exact LeO.none _
      | refine LeO.ite ?_ ?_
      | refine LeO.bind ?_ (fun _ => ?_)
theorem sub_Pair.mono : ∀ a0 a1 k, LeO (sub_Pair.f k a0 a1) (sub_Pair.f (k + 1) a0 a1) := by
  intro a0 a1 k
  have ih0 := sub_Pair.mono_l k
  unfold sub_Pair.f
  repeat' first
      | (with_reducible exact ih0 _ _ _ _)
      | (with_reducible exact LeO.refl _)
      | (with_reducible exact LeO.none _)
      | (with_reducible refine LeO.ite ?_ ?_)
      | (with_reducible refine LeO.bind ?_ (fun _ => ?_))
      | exact ih0 _ _ _ _
      | exact LeO.none _
      | refine LeO.ite ?_ ?_
      | refine LeO.bind ?_ (fun _ => ?_)
set_option maxHeartbeats 8000000 in
set_option maxRecDepth 100000 in
theorem sub_Pair.calls (k : Nat) (A0 : Option Addr) (c0 : Nat) (l0 : List (S98)) (A1 : Option Addr) (c1 : Nat) (l1 : List (S98)) (r : Bool) (w : World) (hr0 : Kd.C k98 w A0 l0.length l0) (hc0 : l0.length ≤ c0) (hr1 : Kd.C k98 w A1 l1.length l1) (hc1 : l1.length ≤ c1) (h : sub_Pair.f k l0 l1 = some r) :
    Calls Try.prog 42 #[.slice A0 l0.length c0, .slice A1 l1.length c1] w fun e w' => e = .returned (.bool r) ∧ Drawn0 w w' := by
  have hu98 := Try.underlying98
  have HR0 := Aside0.mk hr0
  have HC0 := Aside0.mk hc0
  clear hr0 hc0
  have HR1 := Aside0.mk hr1
  have HC1 := Aside0.mk hc1
  clear hr1 hc1
  have H : (if (l0.length : Int) = (l1.length : Int) then (sub_Pair.l0 k l0 l1 (l0.length : Int) 0) else (some false)) = some r := h
  clear h
  by_cases c3 : (l0.length : Int) = (l1.length : Int)
  · rw [if_pos c3] at H
    have c3b0 : ((l0.length : Int) == (l1.length : Int)) = true := beq_iff_eq.mpr c3
    have c3b1 : ((l0.length : Int) != (l1.length : Int)) = false := bne_eq_false_iff_eq.mpr c3
    have c3b2 : (l0.length == l1.length) = true := by first | simpa using c3 | (simp at c3 ⊢; omega)
    clear c3
    have H' := Aside0.mk H
    clear H
    go_enter Try.func42, Try.ntmps42
    go_wp2
    repeat (go_quiet (fail); try go_wp2)
    go_loopg [13] k (fun kq v13 w' => ∃ (x13_1 : Int), v13 = .int .i64 x13_1 ∧ Aside0 (sub_Pair.l0 kq l0 l1 (l0.length : Int) x13_1 = some r) ∧ Aside0 (kq ≤ k) ∧ Drawn0 w w')
    case atStart => exact ⟨(0), (by first | rfl | (simp; done) | (simp [*]; done)), H', ⟨Nat.le_refl _⟩, by repeat (first | exact Drawn0.refl _ | apply Drawn0.step)⟩
    case round =>
      clear H'
      try clear c1
      try clear p2
      try clear c3
      try clear c3b0
      try clear c3b1
      try clear c3b2
      obtain ⟨x13_1, rfl, HA, HK1, ⟨m1, rfl⟩⟩ := hrel
      cases gk with
      | zero => exact absurd HA.out (by simp [sub_Pair.l0])
      | succ k1 =>
        have H := HA.out
        clear HA
        simp only [sub_Pair.l0] at H
        by_cases c4 : x13_1 < (l0.length : Int)
        · rw [if_pos c4] at H
          have c4b0 : decide (x13_1 < (l0.length : Int)) = true := decide_eq_true c4
          clear c4
          by_cases c5 : 0 ≤ x13_1
          · rw [if_pos c5] at H
            have c5b0 : decide (0 ≤ x13_1) = true := decide_eq_true c5
            clear c5
            by_cases c6 : x13_1 < (l0.length : Int)
            · rw [if_pos c6] at H
              have c6b0 : decide (x13_1 < (l0.length : Int)) = true := decide_eq_true c6
              clear c6
              by_cases c7 : x13_1 < (l1.length : Int)
              · rw [if_pos c7] at H
                have c7b0 : decide (x13_1 < (l1.length : Int)) = true := decide_eq_true c7
                clear c7
                by_cases c8 : (!((((rd_T98 l0 x13_1).f0).toList) == (((rd_T98 l1 x13_1).f0).toList)) || (!((((rd_T98 l0 x13_1).f1).toList) == (((rd_T98 l1 x13_1).f1).toList)))) = true
                · rw [if_pos c8] at H
                  have c8b0 : (!((((rd_T98 l0 x13_1).f0).toList) == (((rd_T98 l1 x13_1).f0).toList)) || (!((((rd_T98 l0 x13_1).f1).toList) == (((rd_T98 l1 x13_1).f1).toList)))) = true := c8
                  clear c8
                  obtain rfl := Option.some.inj H
                  have p163 : 0 ≤ (x13_1 : Int) := of_decide_eq_true (by first | (with_reducible assumption) | assumption)
                  have q163 : x13_1 < (l0.length : Int) := of_decide_eq_true (by first | (with_reducible assumption) | assumption)
                  obtain ⟨ad163, e163, hx163_0, hx163_1⟩ := at_T98 HR0.out x13_1 p163 q163
                  cases e163
                  replace p163 := eq_true p163
                  replace q163 := eq_true q163
                  have p164 : 0 ≤ (x13_1 : Int) := of_decide_eq_true (by first | (with_reducible assumption) | assumption)
                  have q164 : x13_1 < (l1.length : Int) := of_decide_eq_true (by first | (with_reducible assumption) | assumption)
                  obtain ⟨ad164, e164, hx164_0, hx164_1⟩ := at_T98 HR1.out x13_1 p164 q164
                  cases e164
                  replace p164 := eq_true p164
                  replace q164 := eq_true q164
                  go_wp2
                  repeat (go_quiet (fail); try go_wp2)
                  go_ret
                  exact ⟨by first | rfl | (simp; done) | (simp [*]; done), by repeat (first | exact Drawn0.refl _ | apply Drawn0.step)⟩
                · rw [if_neg c8] at H
                  have c8b0 : (!((((rd_T98 l0 x13_1).f0).toList) == (((rd_T98 l1 x13_1).f0).toList)) || (!((((rd_T98 l0 x13_1).f1).toList) == (((rd_T98 l1 x13_1).f1).toList)))) = false := by simpa using c8
                  clear c8
                  have H' := Aside0.mk H
                  clear H
                  have p163 : 0 ≤ (x13_1 : Int) := of_decide_eq_true (by first | (with_reducible assumption) | assumption)
                  have q163 : x13_1 < (l0.length : Int) := of_decide_eq_true (by first | (with_reducible assumption) | assumption)
                  obtain ⟨ad163, e163, hx163_0, hx163_1⟩ := at_T98 HR0.out x13_1 p163 q163
                  cases e163
                  replace p163 := eq_true p163
                  replace q163 := eq_true q163
                  have p164 : 0 ≤ (x13_1 : Int) := of_decide_eq_true (by first | (with_reducible assumption) | assumption)
                  have q164 : x13_1 < (l1.length : Int) := of_decide_eq_true (by first | (with_reducible assumption) | assumption)
                  obtain ⟨ad164, e164, hx164_0, hx164_1⟩ := at_T98 HR1.out x13_1 p164 q164
                  cases e164
                  replace p164 := eq_true p164
                  replace q164 := eq_true q164
                  go_wp2
                  repeat (go_quiet (fail); try go_wp2)
                  go_roundg k1
                  case measure => have := HK1.out; omega
                  case rel => exact ⟨(wrap64 (x13_1 + 1)), (by first | rfl | (simp; done) | (simp [*]; done)), H', ⟨by have := HK1.out; omega⟩, by repeat (first | exact Drawn0.refl _ | apply Drawn0.step)⟩
              · rw [if_neg c7] at H
                exact absurd H (by simp)
            · rw [if_neg c6] at H
              exact absurd H (by simp)
          · rw [if_neg c5] at H
            exact absurd H (by simp)
        · rw [if_neg c4] at H
          have c4b0 : decide (x13_1 < (l0.length : Int)) = false := decide_eq_false c4
          clear c4
          obtain rfl := Option.some.inj H
          go_wp2
          repeat (go_quiet (fail); try go_wp2)
          go_ret
          exact ⟨by first | rfl | (simp; done) | (simp [*]; done), by repeat (first | exact Drawn0.refl _ | apply Drawn0.step)⟩
  · rw [if_neg c3] at H
    have c3b0 : ((l0.length : Int) == (l1.length : Int)) = false := beq_eq_false_iff_ne.mpr c3
    have c3b1 : ((l0.length : Int) != (l1.length : Int)) = true := bne_iff_ne.mpr c3
    have c3b2 : (l0.length == l1.length) = false := by first | simpa using c3 | (simp at c3 ⊢; omega)
    obtain rfl := Option.some.inj H
    go_enter Try.func42, Try.ntmps42
    go_wp2
    repeat (go_quiet (fail); try go_wp2)
    go_ret
    exact ⟨by first | rfl | (simp; done) | (simp [*]; done), by repeat (first | exact Drawn0.refl _ | apply Drawn0.step)⟩

end Go.Proofs.Ytmpheeanjjfddaa.XW05
/- Laid for this claim by the session's own program xprint.py, over the print of the kit: functions of the program as plain Lean functions, each with a proof that a call comes to what its function says, or the row of a law out of these; no condition of its own. -/
namespace Go.Proofs.Ytmpheeanjjfddaa.XW05
open Go.Proofs.Ytmpheeanjjfddaa.X Go.Proofs.Ytmpheeanjjfddaa.XT06 Go.RowKit Go.Proofs.YtmpheeanjjfddaaW.PrintWords Go.Proofs.YtmpheeanjjfddaaW.PrintLast Go.Proofs.YtmpheeanjjfddaaW.PrintMore
attribute [local go_sem] cell4_1 cell4_1d max2_int min2_int max_two min_two max_three min_three max_four min_four   -- for this text's walks alone
set_option linter.unusedVariables false
set_option linter.unusedSimpArgs false

end Go.Proofs.Ytmpheeanjjfddaa.XW05
/- lex.mark and lex.Tokens say the plain tokens; plain Lean. -/
namespace Go.Proofs.Ytmpheeanjjfddaa.X
open Go.RowKit Go.Proofs.YtmpheeanjjfddaaW.PrintWords Go.Proofs.YtmpheeanjjfddaaW.PrintLast Go.Proofs.YtmpheeanjjfddaaW.PrintMore Go.Proofs.Ytmpheeanjjfddaa.XW05
open Go.Proofs.Ytmpheeanjjfddaa.XT06
set_option linter.unusedSimpArgs false
set_option linter.unusedVariables false

def s94 (x : List UInt8 × Nat) : S194 := ⟨B x.1, (x.2 : Int)⟩
def s83 (x : Nat × List UInt8) : S128 := ⟨(x.1 : Int), B x.2⟩
def firstM (T : List (List UInt8 × Nat)) (l : List UInt8) : Nat × Nat :=
  match T with
  | [] => (0, 0)
  | x :: T => if x.1.isPrefixOf l = true then (x.2, x.1.length) else firstM T l
theorem mark_loop (l : List UInt8) (T : List (List UInt8 × Nat)) (hT : T.length < 100) : ∀ i, i ≤ T.length → Ev (fun k => lex_mark.l0 k (B l) (T.map s94) (T.length : Int) (i : Int)) (((firstM (T.drop i) l).1 : Int), ((firstM (T.drop i) l).2 : Int)) := by
  refine upto_ind ?_ ?_
  · refine Ev.step (fun k => by rw [lex_mark.l0]) ?_
    refine Ev.neg (by omega) ?_
    rw [List.drop_length]
    exact Ev.ret _
  · intro i hi ih
    have r : rd_T194 (T.map s94) (i : Int) = s94 T[i] := by
      unfold rd_T194
      rw [show ((i : Int)).toNat = i from rfl, List.getD_eq_getElem?_getD, List.getElem?_map, List.getElem?_eq_getElem hi]
      rfl
    rw [← wrap_succ i (by omega)] at ih
    refine Ev.step (fun k => by rw [lex_mark.l0]) ?_
    rw [r]
    refine Ev.pos (by omega) ?_
    refine Ev.pos (by omega) ?_
    refine Ev.pos (by simp; omega) ?_
    have hp : strings_HasPrefix.f (B l) (s94 T[i]).f0 = some (T[i].1.isPrefixOf l) := by
      unfold strings_HasPrefix.f s94
      rw [B_data, B_data]
      rfl
    refine Ev.bind (Ev.of hp) ?_
    rw [List.drop_eq_getElem_cons hi, firstM]
    refine Ev.ite (fun h => ?_) (fun h => ?_)
    · rw [if_pos h]
      refine Ev.eq (Ev.ret _) ?_
      show ((T[i].2 : Int), (((B T[i].1).size : Nat) : Int)) = _
      rw [B_size]
    · rw [if_neg h]
      exact ih
def marksT : List (List UInt8 × Nat) := [([38, 38], 2), ([124, 124], 3), ([62, 62], 5), ([62], 4), ([60], 6), ([59], 1)]
theorem firstM_eq (l : List UInt8) : firstM marksT l = (match markS l with | some (k, n, _) => (k, n) | none => (0, 0)) := by
  cases l with
  | nil => simp [firstM, marksT, markS]
  | cons b m =>
    cases m with
    | nil =>
      simp only [firstM, marksT, markS, List.isPrefixOf, Bool.and_false, Bool.and_true, Bool.false_eq_true, if_false, beq_iff_eq]
      simp only [eq_comm (a := (62 : UInt8)), eq_comm (a := (60 : UInt8)), eq_comm (a := (59 : UInt8))]
      repeat' split
      all_goals first | rfl | (simp_all; done) | (simp_all; omega)
    | cons c r =>
      simp only [firstM, marksT, markS, List.isPrefixOf, Bool.and_true, Bool.and_eq_true, beq_iff_eq]
      simp only [eq_comm (a := (62 : UInt8)), eq_comm (a := (60 : UInt8)), eq_comm (a := (59 : UInt8)), eq_comm (a := (38 : UInt8)), eq_comm (a := (124 : UInt8))]
      repeat' split
      all_goals first | rfl | (simp_all; done) | (simp_all; omega)
theorem mark_ev (l : List UInt8) : Ev (fun k => lex_mark.f k (B l)) (((firstM marksT l).1 : Int), ((firstM marksT l).2 : Int)) := by
  refine Ev.congr (fun k => by rw [lex_mark.f]) ?_
  have hm : lex_marks.f = some (marksT.map s94) := by unfold lex_marks.f; rfl
  refine Ev.bind (Ev.of hm) ?_
  have := mark_loop l marksT (by decide) 0 (by decide)
  exact this
/-- What lex.Tokens answers. -/
def resT (o : Option (List (Nat × List UInt8))) : List S128 × Int := match o with | some res => (res.map s83, 0) | none => ([], 6)
theorem word_eq (l : List UInt8) (hl : l.length < 4294967281) : lex_word.f (B l) = some (resQ ((wS [] l).map (fun p => (p.1, l.length - p.2.length)))) := by
  unfold lex_word.f
  rw [if_pos (by rw [B_size]; exact hl), B_data, wA_eq l _ 0 [] (Nat.le_refl _) (Nat.zero_le _), List.drop_zero]
theorem Tokens_loop : ∀ d (l : List UInt8) (out : List (Nat × List UInt8)), l.length ≤ d → out.length + l.length < 4294967281 → Ev (fun k => lex_Tokens.l0 k (B l) (out.map s83)) (resT (tokS out l)) := by
  intro d
  induction d with
  | zero =>
    intro l out hd hs
    cases l with
    | nil =>
      refine Ev.step (fun k => by rw [lex_Tokens.l0]) ?_
      refine Ev.pos (by rw [B_toList]) ?_
      rw [tokS_nil]
      exact Ev.ret _
    | cons b r => simp at hd
  | succ d ih =>
    intro l out hd hs
    cases l with
    | nil =>
      refine Ev.step (fun k => by rw [lex_Tokens.l0]) ?_
      refine Ev.pos (by rw [B_toList]) ?_
      rw [tokS_nil]
      exact Ev.ret _
    | cons b r =>
      have hsz : (B (b :: r)).size = r.length + 1 := by rw [B_size]; simp
      have hbt : bt (B (b :: r)) 0 = (b.toNat : Int) := bt_B (b :: r) 0 (by simp)
      have hdr : ∀ n : Nat, (B (b :: r)).extract n (B (b :: r)).size = B ((b :: r).drop n) := by
        intro n
        rw [B_size, B_extract, List.take_of_length_le (Nat.le_refl _)]
      simp only [List.length_cons] at hd hs
      have hm := mark_ev (b :: r)
      refine Ev.step (fun k => by rw [lex_Tokens.l0]) ?_
      refine Ev.neg (by rw [B_toList]; simp) ?_
      refine Ev.pos (by rw [hsz]; omega) ?_
      rw [hbt]
      have hix : strings_IndexByte.f (⟨#[32, 9, 10]⟩ : ByteArray) (b.toNat : Int) = some (Lib.indexByte [32, 9, 10] b) := by
        unfold strings_IndexByte.f
        rw [u8_back]
      refine Ev.bind (Ev.of hix) ?_
      refine Ev.iff (show (Lib.indexByte [32, 9, 10] b ≥ 0) = (blk b = true) from propext (by rw [← decide_eq_true_iff (p := Lib.indexByte [32, 9, 10] b ≥ 0), idx_mem]; rfl)) ?_ ?_
      · intro hb
        rw [tokS_blk _ _ _ hb]
        refine Ev.pos (by rw [hsz]; omega) ?_
        rw [hdr 1]
        exact ih r out (by omega) (by omega)
      · intro hb
        refine Ev.bind hm ?_
        rw [firstM_eq]
        cases hmk : markS (b :: r) with
        | some x =>
          obtain ⟨k, n, r'⟩ := x
          obtain ⟨⟨p, hp, hpl⟩, h0, _, _⟩ := markS_suffix hmk
          have hlen := congrArg List.length hp
          simp only [List.length_append, List.length_cons] at hlen
          rw [tokS_mark _ _ _ hb k n r' hmk]
          refine Ev.pos (show ((n : Int)) > 0 by omega) ?_
          refine Ev.pos (by rw [List.length_map]; omega) ?_
          refine Ev.pos (show (0 : Int) ≤ (n : Int) by omega) ?_
          refine Ev.pos (show (n : Int) ≤ ((B (b :: r)).size : Int) by rw [hsz]; omega) ?_
          have := ih r' (out ++ [(k, [])]) (by omega) (by simp; omega)
          rw [List.map_append] at this
          rw [show ((n : Int)).toNat = n from rfl, hdr n, show (b :: r).drop n = r' by rw [hp, ← hpl]; simp]
          exact this
        | none =>
          refine Ev.neg (show ¬ (((0 : Nat) : Int)) > 0 by decide) ?_
          have hwe := word_eq (b :: r) (by simp; omega)
          cases hw : wS [] (b :: r) with
          | none =>
            rw [tokS_bad _ _ _ hb hmk hw]
            rw [hw] at hwe
            have hwe' : lex_word.f (B (b :: r)) = some (B [], -1) := hwe
            refine Ev.bind (Ev.of hwe') ?_
            exact Ev.pos (show (-1 : Int) ≤ 0 by decide) (Ev.ret _)
          | some x =>
            obtain ⟨t, r'⟩ := x
            obtain ⟨⟨p, hp⟩, _⟩ := wS_suffix _ _ _ _ _ (Nat.le_refl _) hw
            have hlen := congrArg List.length hp
            simp only [List.length_append, List.length_cons] at hlen
            have hds := drop_of_suffix hp
            rw [tokS_word _ _ _ hb hmk t r' hw]
            obtain ⟨n, hn⟩ : ∃ n, (b :: r).length - r'.length = n := ⟨_, rfl⟩
            have hn' := hn
            simp only [List.length_cons] at hn'
            rw [hn] at hds
            have hwe' : lex_word.f (B (b :: r)) = some (B t, (n : Int)) := by rw [hwe, hw, ← hn]; rfl
            refine Ev.bind (Ev.of hwe') ?_
            refine Ev.iff (show ((n : Int) ≤ 0) = (¬ r'.length < (b :: r).length) by simp only [List.length_cons]; exact propext ⟨fun h => by omega, fun h => by omega⟩) ?_ ?_
            · intro h
              rw [if_neg h]
              exact Ev.ret _
            · intro h
              have h' : r'.length < (b :: r).length := Classical.not_not.mp h
              rw [if_pos h']
              simp only [List.length_cons] at h'
              refine Ev.pos (by rw [List.length_map]; omega) ?_
              refine Ev.pos (by omega) ?_
              refine Ev.pos (by rw [hsz]; omega) ?_
              have := ih r' (out ++ [(0, t)]) (by omega) (by simp; omega)
              rw [List.map_append] at this
              rw [show ((n : Int)).toNat = n from rfl, hdr n, hds]
              exact this
theorem Tokens_ev (l : List UInt8) (hl : l.length < 4294967281) : Ev (fun k => lex_Tokens.f k (B l)) (resT (tokS [] l)) := by
  refine Ev.congr (fun k => by rw [lex_Tokens.f]) ?_
  exact Tokens_loop _ l [] (Nat.le_refl _) (by simpa using hl)
end Go.Proofs.Ytmpheeanjjfddaa.X
/- lex.Quote and lex.Show say the plain ones; plain Lean. -/
namespace Go.Proofs.Ytmpheeanjjfddaa.X
open Go.RowKit Go.Proofs.YtmpheeanjjfddaaW.PrintWords Go.Proofs.YtmpheeanjjfddaaW.PrintLast Go.Proofs.YtmpheeanjjfddaaW.PrintMore Go.Proofs.Ytmpheeanjjfddaa.XW05
open Go.Proofs.Ytmpheeanjjfddaa.XT06
set_option linter.unusedSimpArgs false
set_option linter.unusedVariables false

theorem any_eq (cs : List UInt8) : ∀ l : List UInt8, decide (0 ≤ Lib.indexAny l cs) = l.any (fun b => cs.contains b) := by
  intro l
  induction l with
  | nil => rfl
  | cons b l ih =>
    have hg := Lib.indexAny_ge cs l
    rw [Lib.indexAny, List.any_cons]
    by_cases hb : cs.contains b = true
    · rw [if_pos hb, hb]; rfl
    · rw [if_neg hb, ← ih, show cs.contains b = false by simpa using hb, Bool.false_or]
      by_cases hm : Lib.indexAny l cs = -1
      · rw [if_pos (beq_iff_eq.2 hm), hm]
      · rw [if_neg (fun h => hm (beq_iff_eq.1 h))]
        rw [decide_eq_true (by omega : 0 ≤ Lib.indexAny l cs + 1), decide_eq_true (by omega : 0 ≤ Lib.indexAny l cs)]
theorem index39 (b : UInt8) (l : List UInt8) : Lib.index (b :: l) [39] = if b = 39 then 0 else if Lib.index l [39] = -1 then -1 else Lib.index l [39] + 1 := by
  rw [Lib.index]
  have e : (([39] : List UInt8).isPrefixOf (b :: l) = true) = (b = 39) := by
    simp only [List.isPrefixOf, Bool.and_true, beq_iff_eq]
    exact propext eq_comm
  by_cases hb : b = 39
  · rw [if_pos (e.symm ▸ hb), if_pos hb]
  · rw [if_neg (fun h => hb (e ▸ h)), if_neg hb]
    by_cases hm : Lib.index l [39] = -1
    · rw [if_pos (beq_iff_eq.2 hm), if_pos hm]
    · rw [if_neg (fun h => hm (beq_iff_eq.1 h)), if_neg hm]
theorem flat_index (l : List UInt8) : (Lib.index l [39] = -1 ∧ flat l = l) ∨ ∃ i : Nat, Lib.index l [39] = (i : Int) ∧ i < l.length ∧ flat l = l.take i ++ [39, 92, 39, 39] ++ flat (l.drop (i + 1)) := by
  induction l with
  | nil => exact .inl ⟨rfl, rfl⟩
  | cons b m ih =>
    rw [index39]
    by_cases hb : b = 39
    · refine .inr ⟨0, by rw [if_pos hb]; rfl, by simp, ?_⟩
      rw [flat_cons, if_pos hb]
      rfl
    · rw [if_neg hb]
      rcases ih with ⟨h1, h2⟩ | ⟨i, h1, h2, h3⟩
      · rw [if_pos h1]
        refine .inl ⟨rfl, ?_⟩
        rw [flat_cons, if_neg hb, h2]
        rfl
      · rw [if_neg (by omega), h1]
        refine .inr ⟨i + 1, by omega, by simp; omega, ?_⟩
        rw [flat_cons, if_neg hb, h3]
        simp
theorem flat_len (t : List UInt8) : (flat t).length ≤ 4 * t.length := by
  induction t with
  | nil => simp [flat_nil]
  | cons b t ih =>
    rw [flat_cons]
    split <;> simp <;> omega
end Go.Proofs.Ytmpheeanjjfddaa.X
/- lex.Show says the plain line; how long tokens and lines are; plain Lean. -/
namespace Go.Proofs.Ytmpheeanjjfddaa.X
open Go.RowKit Go.Proofs.YtmpheeanjjfddaaW.PrintWords Go.Proofs.YtmpheeanjjfddaaW.PrintLast Go.Proofs.YtmpheeanjjfddaaW.PrintMore Go.Proofs.Ytmpheeanjjfddaa.XW05
open Go.Proofs.Ytmpheeanjjfddaa.XT06
set_option linter.unusedSimpArgs false
set_option linter.unusedVariables false

theorem qS_both (e : UInt8) : ∀ d (l acc t r : List UInt8), l.length ≤ d → qS e acc l = some (t, r) → t.length + r.length ≤ acc.length + l.length := by
  intro d
  induction d with
  | zero =>
    intro l acc t r hd h
    cases l with
    | nil => rw [qS_nil] at h; exact absurd h (by simp)
    | cons b m => simp at hd
  | succ d ih =>
    intro l acc t r hd h
    cases l with
    | nil => rw [qS_nil] at h; exact absurd h (by simp)
    | cons b m =>
      simp only [List.length_cons] at hd ⊢
      cases m with
      | nil =>
        rw [qS_single] at h
        split at h
        · injection h with h; injection h with h1 h2; subst h1 h2; simp
        · exact absurd h (by simp)
      | cons c m' =>
        simp only [List.length_cons] at hd ⊢
        rw [qS_two] at h
        split at h
        · injection h with h; injection h with h1 h2; subst h1 h2; simp only [List.length_cons]; omega
        · split at h
          · have := ih m' _ t r (by omega) h
            simp only [List.length_append, List.length_cons, List.length_nil] at this; omega
          · have := ih (c :: m') _ t r (by simp; omega) h
            simp only [List.length_append, List.length_cons, List.length_nil] at this; omega
theorem wS_len : ∀ d (l acc t r : List UInt8), l.length ≤ d → wS acc l = some (t, r) → t.length ≤ acc.length + l.length := by
  intro d
  induction d with
  | zero =>
    intro l acc t r hd h
    cases l with
    | nil => rw [wS_nil] at h; injection h with h; injection h with h1 h2; subst h1; omega
    | cons b m => simp at hd
  | succ d ih =>
    intro l acc t r hd h
    cases l with
    | nil => rw [wS_nil] at h; injection h with h; injection h with h1 h2; subst h1; omega
    | cons b m =>
      simp only [List.length_cons] at hd ⊢
      by_cases hs : stopB b = true
      · rw [wS_stop _ _ _ hs] at h; injection h with h; injection h with h1 h2; subst h1; omega
      · by_cases hq : b = 39 ∨ b = 34
        · cases hqs : qS b [] m with
          | none => rw [wS_q0 _ _ _ hs hq hqs] at h; exact absurd h (by simp)
          | some x =>
            obtain ⟨t1, r1⟩ := x
            rw [wS_q _ _ _ _ _ hs hq hqs] at h
            have hl := qS_less hqs
            obtain ⟨p1, hp1, _⟩ := qS_suffix _ _ _ _ _ _ (Nat.le_refl _) hqs
            have := ih r1 _ t r (by omega) h
            have h4 : t1.length + r1.length ≤ m.length := by simpa using qS_both b _ m [] t1 r1 (Nat.le_refl _) hqs
            simp only [List.length_append] at this
            omega
        · by_cases hb : b = 92
          · subst hb
            cases m with
            | nil => rw [wS_b0] at h; exact absurd h (by simp)
            | cons c m' =>
              rw [wS_b] at h
              simp only [List.length_cons] at hd ⊢
              have := ih m' _ t r (by omega) h
              simp only [List.length_append, List.length_cons, List.length_nil] at this; omega
          · rw [wS_one _ _ _ hs (fun h => hq (.inl h)) (fun h => hq (.inr h)) hb] at h
            have := ih m _ t r (by omega) h
            simp only [List.length_append, List.length_cons, List.length_nil] at this; omega
theorem tokS_len (N : Nat) : ∀ d (l : List UInt8) (out res : List (Nat × List UInt8)), l.length ≤ d → l.length ≤ N → (∀ x ∈ out, x.2.length ≤ N) → tokS out l = some res → res.length ≤ out.length + l.length ∧ ∀ x ∈ res, x.2.length ≤ N := by
  intro d
  induction d with
  | zero =>
    intro l out res hd hN ho h
    cases l with
    | nil => rw [tokS_nil] at h; injection h with h; subst h; exact ⟨by omega, ho⟩
    | cons b r => simp at hd
  | succ d ih =>
    intro l out res hd hN ho h
    cases l with
    | nil => rw [tokS_nil] at h; injection h with h; subst h; exact ⟨by omega, ho⟩
    | cons b r =>
      simp only [List.length_cons] at hd hN ⊢
      by_cases hb : blk b = true
      · rw [tokS_blk _ _ _ hb] at h
        have := ih r out res (by omega) (by omega) ho h
        exact ⟨by omega, this.2⟩
      · cases hm : markS (b :: r) with
        | some x =>
          obtain ⟨k, n, r'⟩ := x
          rw [tokS_mark _ _ _ hb k n r' hm] at h
          obtain ⟨⟨p, hp, hl⟩, h0, h1, h6⟩ := markS_suffix hm
          have hlen := congrArg List.length hp
          simp only [List.length_append, List.length_cons] at hlen
          have := ih r' _ res (by omega) (by omega) (by
            intro x hx
            rcases List.mem_append.1 hx with hx | hx
            · exact ho x hx
            · rw [List.mem_singleton.1 hx]; exact Nat.zero_le _) h
          refine ⟨?_, this.2⟩
          have := this.1
          simp only [List.length_append, List.length_cons, List.length_nil] at this
          omega
        | none =>
          cases hw : wS [] (b :: r) with
          | none => rw [tokS_bad _ _ _ hb hm hw] at h; exact absurd h (by simp)
          | some x =>
            obtain ⟨t, r'⟩ := x
            have hwl := wS_len _ _ _ _ _ (Nat.le_refl _) hw
            simp only [List.length_cons, List.length_nil] at hwl
            rw [tokS_word _ _ _ hb hm t r' hw] at h
            split at h
            · rename_i hlt
              simp only [List.length_cons] at hlt
              have := ih r' _ res (by omega) (by omega) (by
                intro x hx
                rcases List.mem_append.1 hx with hx | hx
                · exact ho x hx
                · rw [List.mem_singleton.1 hx]; show t.length ≤ N; omega) h
              refine ⟨?_, this.2⟩
              have := this.1
              simp only [List.length_append, List.length_cons, List.length_nil] at this
              omega
            · exact absurd h (by simp)
theorem show1_len (x : Nat × List UInt8) : (show1 x).length ≤ 4 * x.2.length + 2 := by
  unfold show1
  split
  · unfold quoteU
    split
    · omega
    · have := flat_len x.2
      simp; omega
  · unfold markT
    repeat' split
    all_goals simp
theorem joinU_len (M : Nat) : ∀ A : List (List UInt8), (∀ x ∈ A, x.length ≤ M) → (joinU A).length ≤ A.length * (M + 1) := by
  intro A
  induction A with
  | nil => intro _; simp [joinU]
  | cons x A ih =>
    intro h
    have hx := h x (by simp)
    cases A with
    | nil => simp [joinU]; omega
    | cons y A =>
      have := ih (fun z hz => h z (by simp [hz]))
      rw [joinU, List.length_append, List.length_cons, List.length_cons, Nat.succ_mul]
      omega
end Go.Proofs.Ytmpheeanjjfddaa.X
/- sub.set and the reference's set say setU; the reference's Is and Of. Plain Lean. -/
namespace Go.Proofs.Ytmpheeanjjfddaa.X
open Go.RowKit Go.Proofs.YtmpheeanjjfddaaW.PrintWords Go.Proofs.YtmpheeanjjfddaaW.PrintLast Go.Proofs.YtmpheeanjjfddaaW.PrintMore Go.Proofs.Ytmpheeanjjfddaa.XW05 Go.Proofs.Ytmpheeanjjfddaa.XT06
set_option linter.unusedSimpArgs false
set_option linter.unusedVariables false

theorem any_eq0 (cs : List UInt8) : ∀ l : List UInt8, decide (0 ≤ Lib.indexAny l cs) = l.any (fun b => cs.contains b) := by
  intro l
  induction l with
  | nil => rfl
  | cons b l ih =>
    have hg := Lib.indexAny_ge cs l
    rw [Lib.indexAny, List.any_cons]
    by_cases hb : cs.contains b = true
    · rw [if_pos hb, hb]; rfl
    · rw [if_neg hb, ← ih, show cs.contains b = false by simpa using hb, Bool.false_or]
      by_cases hm : Lib.indexAny l cs = -1
      · rw [if_pos (beq_iff_eq.2 hm), hm]
      · rw [if_neg (fun h => hm (beq_iff_eq.1 h))]
        rw [decide_eq_true (by omega : 0 ≤ Lib.indexAny l cs + 1), decide_eq_true (by omega : 0 ≤ Lib.indexAny l cs)]
theorem index61 (b : UInt8) (l : List UInt8) : Lib.index (b :: l) [61] = if b = 61 then 0 else if Lib.index l [61] = -1 then -1 else Lib.index l [61] + 1 := by
  rw [Lib.index]
  have e : (([61] : List UInt8).isPrefixOf (b :: l) = true) = (b = 61) := by
    simp only [List.isPrefixOf, Bool.and_true, beq_iff_eq]
    exact propext eq_comm
  by_cases hb : b = 61
  · rw [if_pos (e.symm ▸ hb), if_pos hb]
  · rw [if_neg (fun h => hb (e ▸ h)), if_neg hb]
    by_cases hm : Lib.index l [61] = -1
    · rw [if_pos (beq_iff_eq.2 hm), if_pos hm]
    · rw [if_neg (fun h => hm (beq_iff_eq.1 h)), if_neg hm]
theorem index61_ways : ∀ l : List UInt8, (Lib.index l [61] = -1 ∧ ∀ b ∈ l, ¬ b = 61) ∨ ∃ p r, l = p ++ 61 :: r ∧ (∀ b ∈ p, ¬ b = 61) ∧ Lib.index l [61] = (p.length : Int) := by
  intro l
  induction l with
  | nil => exact .inl ⟨rfl, by simp⟩
  | cons b l ih =>
    rw [index61]
    by_cases hb : b = 61
    · subst hb
      exact .inr ⟨[], l, rfl, by simp, by simp⟩
    · rw [if_neg hb]
      rcases ih with ⟨h1, h2⟩ | ⟨p, r, rfl, h2, h3⟩
      · rw [if_pos h1]
        refine .inl ⟨rfl, fun x hx => ?_⟩
        rcases List.mem_cons.1 hx with rfl | hx
        · exact hb
        · exact h2 x hx
      · rw [if_neg (by rw [h3]; omega), h3]
        refine .inr ⟨b :: p, r, rfl, fun x hx => ?_, by simp⟩
        rcases List.mem_cons.1 hx with rfl | hx
        · exact hb
        · exact h2 x hx
theorem set_ok (y : List UInt8) (hy : y.length < 100000000) : ∃ n t : ByteArray, sub_set.f (B y) = some (n, t, (setU y).isSome) ∧ ∀ p, setU y = some p → n = B p.1 ∧ t = B p.2 := by
  unfold sub_set.f strings_Cut.f stringslite_Cut.f stringslite_Index.f
  rw [if_pos (by rw [B_size]; omega), B_data]
  show ∃ n t : ByteArray, ((((some (Lib.index y [61])).bind _).bind _).bind _) = _ ∧ _
  simp only [Option.bind_some]
  rcases index61_ways y with ⟨h1, h2⟩ | ⟨p, r, rfl, h2, h3⟩
  · have hs : setU y = none := setR_no y [] h2
    rw [h1, if_neg (by omega)]
    simp only [Option.bind_some]
    rw [if_neg (by simp), hs]
    exact ⟨_, _, rfl, fun p h => absurd h (by simp)⟩
  · have hs := setR_at p [] r h2
    have hlen : (p ++ 61 :: r).length = p.length + 1 + r.length := by simp; omega
    rw [hlen] at hy
    have hw : wrap64 ((p.length : Int) + ((⟨#[61]⟩ : ByteArray).size : Int)) = ((p.length + 1 : Nat) : Int) := wrap_succ p.length (by omega)
    rw [h3, hw, if_pos (by omega), if_pos (by omega), if_pos (by rw [B_size, hlen]; omega), if_pos (by omega), if_pos (by rw [B_size, hlen]; omega)]
    simp only [Option.bind_some, if_true]
    have e1 : (B (p ++ 61 :: r)).extract 0 ((p.length : Int)).toNat = B p := by
      rw [show ((p.length : Int)).toNat = p.length from rfl, B_extract]
      congr 1
      simp
    have e2 : (B (p ++ 61 :: r)).extract (((p.length + 1 : Nat) : Int)).toNat (B (p ++ 61 :: r)).size = B r := by
      rw [show (((p.length + 1 : Nat) : Int)).toNat = p.length + 1 from rfl, B_extract, B_size, List.take_length]
      congr 1
      rw [show p ++ 61 :: r = (p ++ [61]) ++ r by simp, List.drop_left' (by simp)]
    rw [e1, e2, B_toList]
    unfold setU
    rw [hs, List.nil_append]
    by_cases hp : p = []
    · subst hp
      rw [if_pos rfl]
      simp only [List.any_nil]
      exact ⟨_, _, rfl, fun p h => absurd h (by simp)⟩
    · rw [if_neg hp]
      have hc : strings_ContainsAny.f (B p) (⟨#[32, 9, 10, 58, 35, 36]⟩ : ByteArray) = some (p.any stopV) := by
        unfold strings_ContainsAny.f strings_IndexAny.f
        rw [if_pos ⟨by rw [B_size]; omega, by decide, by decide⟩, B_data]
        simp only [Option.map_some]
        exact congrArg some (any_eq0 _ p)
      rw [hc]
      simp only [Option.bind_some]
      by_cases hst : p.any stopV = true
      · rw [if_pos hst, if_pos hst]
        exact ⟨_, _, rfl, fun p h => absurd h (by simp)⟩
      · rw [if_neg hst, if_neg hst, if_neg hp]
        exact ⟨_, _, rfl, fun q h => by cases h; exact ⟨rfl, rfl⟩⟩
/-! the reference's -/
theorem refset_loop (y : List UInt8) (hy : y.length < 100000000) : ∀ i, i ≤ y.length → ∃ n t : ByteArray, Ev (fun k => flatironref19_set.l0 k (B y) (i : Int)) (n, t, (setR (y.take i) (y.drop i)).isSome) ∧ ∀ p, setR (y.take i) (y.drop i) = some p → n = B p.1 ∧ t = B p.2 := by
  refine upto_ind ?_ ?_
  · rw [List.drop_length, setR]
    refine ⟨⟨#[]⟩, ⟨#[]⟩, ?_, fun p h => absurd h (by simp)⟩
    refine Ev.step (fun k => by rw [flatironref19_set.l0]) ?_
    refine Ev.neg (by rw [B_size]; omega) ?_
    exact Ev.ret _
  · intro i hi ih
    have hb := bt_B y i hi
    rw [drop_get y i hi, setR]
    have hw := wrap_succ i (by omega)
    have hj : ∀ (v : Bool) (n t : ByteArray) (o : Bool), Ev (fun k => flatironref19_set.j1 k (B y) (i : Int) (bt (B y) (i : Int)) v) (n, t, o) → stopV y[i] = v → Ev (fun k => flatironref19_set.l0 k (B y) (i : Int)) (n, t, o) := by
      intro v n t o h hv
      refine Ev.step (fun k => by rw [flatironref19_set.l0]) ?_
      refine Ev.pos (by rw [B_size]; omega) ?_
      refine Ev.pos (by omega) ?_
      rw [hb] at h ⊢
      have c : ∀ m : Nat, m < 256 → (((y[i].toNat : Int) == (m : Int)) = decide (y[i] = UInt8.ofNat m)) := by
        intro m hm
        have := u8_num y[i] m hm
        rw [Bool.eq_iff_iff, beq_iff_eq, decide_eq_true_eq, this]
      have c32 : ((y[i].toNat : Int) == 32) = decide (y[i] = 32) := c 32 (by omega)
      have c9 : ((y[i].toNat : Int) == 9) = decide (y[i] = 9) := c 9 (by omega)
      have c10 : ((y[i].toNat : Int) == 10) = decide (y[i] = 10) := c 10 (by omega)
      have c58 : ((y[i].toNat : Int) == 58) = decide (y[i] = 58) := c 58 (by omega)
      have c35 : ((y[i].toNat : Int) == 35) = decide (y[i] = 35) := c 35 (by omega)
      have c36 : ((y[i].toNat : Int) == 36) = decide (y[i] = 36) := c 36 (by omega)
      have hst : stopV y[i] = (decide (y[i] = 32) || decide (y[i] = 9) || decide (y[i] = 10) || decide (y[i] = 58) || decide (y[i] = 35) || decide (y[i] = 36)) := by
        unfold stopV
        simp only [List.contains_cons, List.contains_nil, Bool.or_false]
        simp only [Bool.beq_eq_decide_eq, Bool.or_assoc]
      rw [hst] at hv
      refine Ev.iff (u8_num y[i] 32 (by omega)) (fun hc => ?_) (fun hc => ?_)
      · rw [show ((y[i].toNat : Int) == 32) = v by rw [← hv, c32]; simp [hc]]; exact h
      · refine Ev.iff (u8_num y[i] 9 (by omega)) (fun hc2 => ?_) (fun hc2 => ?_)
        · rw [show ((y[i].toNat : Int) == 9) = v by rw [← hv, c9]; simp [hc2]]; exact h
        · refine Ev.iff (u8_num y[i] 10 (by omega)) (fun hc3 => ?_) (fun hc3 => ?_)
          · rw [show ((y[i].toNat : Int) == 10) = v by rw [← hv, c10]; simp [hc3]]; exact h
          · refine Ev.iff (u8_num y[i] 58 (by omega)) (fun hc4 => ?_) (fun hc4 => ?_)
            · rw [show ((y[i].toNat : Int) == 58) = v by rw [← hv, c58]; simp [hc4]]; exact h
            · refine Ev.iff (u8_num y[i] 35 (by omega)) (fun hc5 => ?_) (fun hc5 => ?_)
              · rw [show ((y[i].toNat : Int) == 35) = v by rw [← hv, c35]; simp [hc5]]; exact h
              · rw [show ((y[i].toNat : Int) == 36) = v by
                  rw [← hv, c36]
                  have a1 : decide (y[i] = 32) = false := decide_eq_false hc
                  have a2 : decide (y[i] = 9) = false := decide_eq_false hc2
                  have a3 : decide (y[i] = 10) = false := decide_eq_false hc3
                  have a4 : decide (y[i] = 58) = false := decide_eq_false hc4
                  have a5 : decide (y[i] = 35) = false := decide_eq_false hc5
                  rw [a1, a2, a3, a4, a5]; rfl]
                exact h
    by_cases hs : stopV y[i] = true
    · rw [if_pos hs]
      refine ⟨⟨#[]⟩, ⟨#[]⟩, hj true _ _ _ ?_ hs, fun p h => absurd h (by simp)⟩
      refine Ev.step (fun k => by rw [flatironref19_set.j1]) ?_
      refine Ev.pos rfl ?_
      exact Ev.ret _
    · have hs' : stopV y[i] = false := by simpa using hs
      rw [if_neg hs]
      by_cases h61 : y[i] = 61
      · rw [if_pos h61]
        have e1 : (B y).extract 0 ((i : Int)).toNat = B (y.take i) := by rw [show ((i : Int)).toNat = i from rfl, B_extract]; simp
        have e2 : (B y).extract (((i + 1 : Nat) : Int)).toNat (B y).size = B (y.drop (i + 1)) := by rw [show (((i + 1 : Nat) : Int)).toNat = i + 1 from rfl, B_extract, B_size, List.take_length]
        have hti : (y.take i = []) = (i = 0) := by
          apply propext
          constructor
          · intro h
            have := congrArg List.length h
            rw [List.length_take, List.length_nil] at this
            omega
          · rintro rfl; rfl
        refine ⟨B (y.take i), B (y.drop (i + 1)), ?_, ?_⟩
        · refine hj false _ _ _ ?_ hs'
          refine Ev.step (fun k => by rw [flatironref19_set.j1]) ?_
          refine Ev.neg (by simp) ?_
          rw [hb, hw]
          refine Ev.pos (by rw [h61]; rfl) ?_
          refine Ev.pos (by omega) ?_
          refine Ev.pos (by rw [B_size]; omega) ?_
          refine Ev.pos (by omega) ?_
          refine Ev.pos (by rw [B_size]; omega) ?_
          rw [e1, e2]
          refine Ev.eq (Ev.ret _) ?_
          by_cases h0 : i = 0
          · rw [if_pos (hti.symm ▸ h0), h0]; rfl
          · rw [if_neg (fun h => h0 (hti ▸ h)), decide_eq_true (by omega : (i : Int) > 0)]; rfl
        · intro p h
          split at h
          · simp at h
          · cases h; exact ⟨rfl, rfl⟩
      · rw [if_neg h61]
        obtain ⟨n, t, g1, g2⟩ := ih
        have ht : y.take i ++ [y[i]] = y.take (i + 1) := (List.take_succ_eq_append_getElem hi).symm
        rw [ht]
        refine ⟨n, t, hj false _ _ _ ?_ hs', g2⟩
        refine Ev.step (fun k => by rw [flatironref19_set.j1]) ?_
        refine Ev.neg (by simp) ?_
        rw [hb, hw]
        refine Ev.neg (fun h => h61 ((u8_num y[i] 61 (by omega)) ▸ h)) ?_
        exact g1
theorem refset_ev (y : List UInt8) (hy : y.length < 100000000) : ∃ n t : ByteArray, Ev (fun k => flatironref19_set.f k (B y)) (n, t, (setU y).isSome) ∧ ∀ p, setU y = some p → n = B p.1 ∧ t = B p.2 := by
  obtain ⟨n, t, h1, h2⟩ := refset_loop y hy 0 (Nat.zero_le _)
  refine ⟨n, t, ?_, h2⟩
  refine Ev.congr (fun k => by rw [flatironref19_set.f]) ?_
  exact h1
end Go.Proofs.Ytmpheeanjjfddaa.X
/- parse.reader: next, take, as contracts over the tokens' row. -/
namespace Go.Proofs.Ytmpheeanjjfddaa.X
open Go.RowKit Go.Proofs.YtmpheeanjjfddaaW.PrintWords Go.Proofs.YtmpheeanjjfddaaW.PrintLast Go.Proofs.YtmpheeanjjfddaaW.PrintMore Go.Proofs.Ytmpheeanjjfddaa.XW05 Go.Proofs.Ytmpheeanjjfddaa.XT06
set_option linter.unusedSimpArgs false
set_option linter.unusedVariables false

/-- The reader at br: the tokens from i on, of N in the row at b. -/
def RdI (br b i N : Nat) (W : World) : Prop := i ≤ N ∧ ∃ A c, W.heap[br]? = some (.cells #[.slice A (N - i) c] 120 (0, 0)) ∧ (i < N → A = some ⟨b, i * 2, none⟩ ∧ N - i ≤ c)
theorem nblk_setCell (w : World) (a : Addr) (v : Value) : (w.setCell a v).heap.size = w.heap.size := by simp [World.setCell]
theorem World.grownBy_set (w : World) (g j : Nat) (v : Value) : w.grownBy (w.setCell ⟨g, j, none⟩ v) (some g) :=
  ⟨rfl, rfl, rfl, Nat.le_of_eq (nblk_setCell w _ v).symm, fun k _ hk => Below.heap_setCell w _ v k (fun e => hk (by rw [e]))⟩
def nextK : List Tok → Int
  | [] => -1
  | (k, _) :: _ => (k : Int)
theorem tok_cells {e base b N C : Nat} {ok : Nat → Prop} {W : World} {toks : List Tok} (h : Kd.R k128 e W base ok (.slice (some ⟨b, 0, none⟩) N C) (toks.map s83)) (i : Nat) (hi : i < toks.length) :
    W.cell? ⟨b, i * 2, none⟩ = some (.int .i64 (toks[i].1 : Int)) ∧ W.cell? ⟨b, i * 2 + 1, none⟩ = some (.string (B toks[i].2)) := by
  obtain ⟨g1, g2, g3⟩ := Kd.R_reads' h
  obtain ⟨ad, e1, h1, h2⟩ := at_T128 g3 (i : Int) (by omega) (by rw [List.length_map]; omega)
  injection e1 with e1
  subst e1
  have r : rd_T128 (toks.map s83) (i : Int) = s83 toks[i] := by
    unfold rd_T128
    rw [show ((i : Int)).toNat = i from rfl, List.getD_eq_getElem?_getD, List.getElem?_map, List.getElem?_eq_getElem hi]
    rfl
  rw [r] at h1 h2
  have ea : (⟨b, 0, none⟩ : Addr).add (((i : Int)).toNat * 2) = ⟨b, i * 2, none⟩ := by
    rw [Addr.add_lit, show ((i : Int)).toNat = i from rfl, Nat.zero_add]
  rw [ea] at h1 h2
  exact ⟨h1, h2⟩
set_option maxRecDepth 100000 in
set_option maxHeartbeats 1000000 in
theorem next_calls {e base : Nat} {ok : Nat → Prop} (br b i N C : Nat) (toks : List Tok) (w : World) (hN : toks.length = N) (h : RdI br b i N w) (hT : Kd.R k128 e w base ok (.slice (some ⟨b, 0, none⟩) N C) (toks.map s83)) :
    Calls Try.prog 79 #[.pointer (some ⟨br, 0, none⟩)] w fun e w' => e = .returned (.int .i64 (nextK (toks.drop i))) ∧ w' = w := by
  obtain ⟨hi, A, c, hb, hA⟩ := h
  have c0 := blk_cell hb 0
  by_cases hlt : i < N
  · obtain ⟨rfl, hc⟩ := hA hlt
    obtain ⟨h1, h2⟩ := tok_cells hT i (by omega)
    have hz : (((N - i : Nat) : Int) == 0) = false := by simp; omega
    have hz1 : (0 : Int) < ((N - i : Nat) : Int) := by omega
    obtain ⟨n, hn⟩ : ∃ n, N - i = n := ⟨_, rfl⟩
    rw [hn] at hz hz1 c0
    rw [drop_get toks i (by omega)]
    obtain ⟨k, x, hx⟩ : ∃ k x, toks[i] = (k, x) := ⟨_, _, rfl⟩
    rw [hx] at h1 h2 ⊢
    simp only at h1 h2
    clear hT hb hA hx
    go_enter Try.func79, Try.ntmps79
    go_wp2
    go_ret
    exact ⟨rfl, rfl⟩
  · have : i = N := by omega
    subst this
    have hd : toks.drop i = [] := List.drop_eq_nil_of_le (by omega)
    rw [hd]
    rw [Nat.sub_self] at c0
    clear hT hb hA
    go_enter Try.func79, Try.ntmps79
    go_wp2
    go_ret
    exact ⟨rfl, rfl⟩
set_option maxRecDepth 100000 in
set_option maxHeartbeats 1000000 in
theorem take_calls {base : Nat} {ok : Nat → Prop} (br b i N C : Nat) (toks : List Tok) (w : World) (hN : toks.length = N) (h : RdI br b i N w) (hi : i < toks.length) (hT : Kd.R k128 128 w base ok (.slice (some ⟨b, 0, none⟩) N C) (toks.map s83)) :
    Calls Try.prog 45 #[.pointer (some ⟨br, 0, none⟩)] w fun e w' => e = .returned (.agg #[.int .i64 (toks[i].1 : Int), .string (B toks[i].2)]) ∧ RdI br b (i + 1) N w' ∧ w.grownBy w' (some br) := by
  obtain ⟨hi', A, c, hb, hA⟩ := h
  have c0 := blk_cell hb 0
  obtain ⟨rfl, hc⟩ := hA (by omega)
  obtain ⟨h1, h2⟩ := tok_cells hT i hi
  have hz1 : (0 : Int) < ((N - i : Nat) : Int) := by omega
  have hz2 : (1 : Int) ≤ ((N - i : Nat) : Int) := by omega
  obtain ⟨n, hn⟩ : ∃ n, N - i = n := ⟨_, rfl⟩
  have hz3 : (n : Int) ≤ (c : Int) := by omega
  rw [hn] at hz1 hz2 c0
  obtain ⟨k, x, hx⟩ : ∃ k x, toks[i] = (k, x) := ⟨_, _, rfl⟩
  rw [hx] at h1 h2 ⊢
  simp only at h1 h2 ⊢
  have hbl := blk_lt hb
  have b1 := blk_alloc hb (.cells #[.int .i64 0, .string ⟨#[]⟩] 128)
  have b1a := blk_new w (.cells #[.int .i64 0, .string ⟨#[]⟩] 128 (0, 0))
  have h1a := (World.cell?_alloc_lt w (.cells #[.int .i64 0, .string ⟨#[]⟩] 128) _ (World.block_lt_of_cell? _ _ h1)).trans h1
  have h2a := (World.cell?_alloc_lt w (.cells #[.int .i64 0, .string ⟨#[]⟩] 128) _ (World.block_lt_of_cell? _ _ h2)).trans h2
  have b2 := blk_alloc b1 (.cells #[.int .i64 (k : Int), .string (B x)] 128)
  have b2a := blk_alloc b1a (.cells #[.int .i64 (k : Int), .string (B x)] 128)
  have b2b := blk_new (w.alloc (.cells #[.int .i64 0, .string ⟨#[]⟩] 128)) (.cells #[.int .i64 (k : Int), .string (B x)] 128 (0, 0))
  have c1 := blk_cell b1 0
  have c2 := blk_cell b2 0
  have c2a := blk_cell b2a 0
  have c2b := blk_cell b2a 1
  have f2 := blk_frozen b2 0
  have fin : ∀ (A' : Option Addr) (c' : Nat), (i + 1 < N → A' = some ⟨b, (i + 1) * 2, none⟩ ∧ N - (i + 1) ≤ c') → ∀ X, X = ((w.setCell ⟨br, 0, none⟩ (.slice A' (n - 1) c')).alloc (.cells #[.int .i64 (k : Int), .string (B x)] 128)).alloc (.cells #[.int .i64 (k : Int), .string (B x)] 128) →
      RdI br b (i + 1) N X ∧ w.grownBy X (some br) ∧ X.heap[w.heap.size]? = some (.cells #[.int .i64 (k : Int), .string (B x)] 128 (0, 0)) := by
    rintro A' c' h' X rfl
    have hbs := blk_put hb 0 (.slice A' (n - 1) c') (cs' := #[.slice A' (n - 1) c']) rfl
    have hgs : w.grownBy (w.setCell ⟨br, 0, none⟩ (.slice A' (n - 1) c')) (some br) := World.grownBy_set w br 0 _
    refine ⟨⟨by omega, A', c', ?_, h'⟩, ((hgs.trans (World.grownBy_alloc _ _ _)).trans (World.grownBy_alloc _ _ _)), ?_⟩
    · rw [show N - (i + 1) = n - 1 by omega]
      exact blk_alloc (blk_alloc hbs _) _
    · have := blk_new (w.setCell ⟨br, 0, none⟩ (.slice A' (n - 1) c')) (.cells #[.int .i64 (k : Int), .string (B x)] 128 (0, 0))
      rw [nblk_setCell] at this
      exact blk_alloc this _
  have FIN := Aside0.mk fin
  clear fin hT hN b1 b1a b2 b2a b2b hA
  by_cases hc1 : c = 1
  · subst hc1
    go_enter Try.func45, Try.ntmps45
    go_wp2
    obtain ⟨r1, r2, r3⟩ := FIN.out (some ⟨b, i * 2, none⟩) 0 (by omega) _ rfl
    refine bodyPost_ret (results_single rfl (.cell w.heap.size 128 #[.int .i64 (k : Int), .string (B x)] (0, 0) _ rfl r3 Try.underlying128 rfl (by kernel_rfl) .nil)) rfl ?_
    exact ⟨rfl, r1, r2⟩
  · have hc2 : (c == 1) = false := by simpa using hc1
    go_enter Try.func45, Try.ntmps45
    go_wp2
    obtain ⟨r1, r2, r3⟩ := FIN.out (some ⟨b, i * 2 + 2, none⟩) (c - 1) (fun h => ⟨by rw [show (i + 1) * 2 = i * 2 + 2 by omega], by omega⟩) _ rfl
    refine bodyPost_ret (results_single rfl (.cell w.heap.size 128 #[.int .i64 (k : Int), .string (B x)] (0, 0) _ rfl r3 Try.underlying128 rfl (by kernel_rfl) .nil)) rfl ?_
    exact ⟨rfl, r1, r2⟩
end Go.Proofs.Ytmpheeanjjfddaa.X
/- parse.reader.command as a contract over the tokens' row. -/
namespace Go.Proofs.Ytmpheeanjjfddaa.X
open Go.RowKit Go.Proofs.YtmpheeanjjfddaaW.PrintWords Go.Proofs.YtmpheeanjjfddaaW.PrintLast Go.Proofs.YtmpheeanjjfddaaW.PrintMore Go.Proofs.Ytmpheeanjjfddaa.XW05 Go.Proofs.Ytmpheeanjjfddaa.XT06
set_option linter.unusedSimpArgs false
set_option linter.unusedVariables false

theorem R_grown_ty {α : Type} {d : Kd α} {e base t : Nat} {ok : Nat → Prop} {w w1 : World} {v : Value} {xs : List α} {row : Option Nat} (h : d.R e w base ok v xs) (hg : w.grownBy w1 row)
    (ht : ∀ k, row = some k → ∃ cells, w.heap[k]? = some (.cells cells t (0, 0))) (hne : ∀ q, q ∈ e :: d.E → q ≠ t) : d.R e w1 base ok v xs := by
  refine Kd.R_mono (Kd.R_grown (Kd.R_bound h) hg (fun k hk e_ => ?_)) (fun k hk => hk.1)
  obtain ⟨_, _, _, q, hq, cells, hc⟩ := hk
  obtain ⟨cells', hc'⟩ := ht k e_.symm
  rw [hc] at hc'
  injection hc' with hc'
  injection hc' with _ hc' _
  exact hne q hq hc'
theorem blk_grown_ty {g t t' : Nat} {cs : Array Value} {w w1 : World} {row : Option Nat} (h : w.heap[g]? = some (.cells cs t' (0, 0))) (hg : w.grownBy w1 row)
    (ht : ∀ k, row = some k → ∃ cells, w.heap[k]? = some (.cells cells t (0, 0))) (hne : t' ≠ t) : w1.heap[g]? = some (.cells cs t' (0, 0)) := by
  refine blk_grown h hg (fun e => ?_)
  obtain ⟨cells, hc⟩ := ht g e.symm
  rw [h] at hc
  injection hc with hc
  injection hc with _ hc _
  exact hne hc
theorem R_row_ty {α : Type} {d : Kd α} {e base : Nat} {ok : Nat → Prop} {w : World} {v : Value} {xs : List α} (h : d.R e w base ok v xs) : ∀ k, v.ownBlock = some k → ∃ cells, w.heap[k]? = some (.cells cells e (0, 0)) := by
  obtain ⟨inner, hown, _⟩ := h.2
  exact fun k hk => own_typed hown k hk
theorem R_is {α : Type} {d : Kd α} {e base : Nat} {ok : Nat → Prop} {w : World} {v : Value} {xs : List α} (h : d.R e w base ok v xs) : ∃ A n c, v = .slice A n c := by
  obtain ⟨A, c, e⟩ := Kd.R_slice h
  exact ⟨A, _, c, e⟩
def toT (t : Int × List UInt8) : S134 := ⟨t.1, B t.2⟩

/-- What holds between the rounds of command. -/
structure CI (w : World) (base : Nat) (ok : Nat → Prop) (br b N C : Nat) (toks : List Tok) (on : Int) (vw vt : Value) (j : Nat) (ws : List (List UInt8)) (ts : List (Int × List UInt8)) (W : World) : Prop where
  rd : RdI br b j N W
  tok : Kd.R k128 128 W base ok (.slice (some ⟨b, 0, none⟩) N C) (toks.map s83)
  c4 : W.heap[w.heap.size]? = some (.cells #[.int .i64 0, .slice none 0 0, .slice none 0 0] 124 (0, 0))
  c6 : W.heap[w.heap.size + 1]? = some (.cells #[.int .i64 on, vw, vt] 124 (0, 0))
  rw : Kd.R Kd.string 9 W w.heap.size (fun _ => True) vw (ws.map B)
  rt : Kd.R k134 134 W w.heap.size (fun _ => True) vt (ts.map toT)
  gr : w.grownBy W (some br)
section
variable {w W W1 : World} {base br b N C j : Nat} {ok : Nat → Prop} {toks : List Tok} {on : Int} {vw vt : Value} {ws : List (List UInt8)} {ts : List (Int × List UInt8)}
theorem RdI.ty {br b i N : Nat} {W : World} (h : RdI br b i N W) : ∀ k, some br = some k → ∃ cells, W.heap[k]? = some (.cells cells 120 (0, 0)) := by
  obtain ⟨_, A, c, hb, _⟩ := h
  intro k hk
  injection hk with hk
  subst hk
  exact ⟨_, hb⟩
theorem RdI.grown {br b i N t : Nat} {W W1 : World} {row : Option Nat} (h : RdI br b i N W) (hg : W.grownBy W1 row) (ht : ∀ k, row = some k → ∃ cells, W.heap[k]? = some (.cells cells t (0, 0))) (hne : 120 ≠ t) : RdI br b i N W1 := by
  obtain ⟨hi, A, c, hb, hA⟩ := h
  exact ⟨hi, A, c, blk_grown_ty hb hg ht hne, hA⟩
theorem CI.new (h : CI w base ok br b N C toks on vw vt j ws ts W) (hg : W.grownBy W1 none) : CI w base ok br b N C toks on vw vt j ws ts W1 := by
  have nn : ∀ (t : Nat) (k : Nat), (none : Option Nat) = some k → ∃ cells, W.heap[k]? = some (.cells cells t (0, 0)) := fun _ _ e => by cases e
  exact ⟨h.rd.grown hg (nn 0) (by decide), R_grown_ty h.tok hg (nn 0) (by decide), blk_grown_ty h.c4 hg (nn 0) (by decide), blk_grown_ty h.c6 hg (nn 0) (by decide), R_grown_ty h.rw hg (nn 0) (by decide), R_grown_ty h.rt hg (nn 0) (by decide), h.gr.trans ⟨hg.os, hg.tape, hg.output, hg.size, fun i hi _ => hg.block i hi (by simp)⟩⟩
theorem CI.take (h : CI w base ok br b N C toks on vw vt j ws ts W) {j1 : Nat} (hr : RdI br b j1 N W1) (hg : W.grownBy W1 (some br)) : CI w base ok br b N C toks on vw vt j1 ws ts W1 :=
  ⟨hr, R_grown_ty h.tok hg h.rd.ty (by decide), blk_grown_ty h.c4 hg h.rd.ty (by decide), blk_grown_ty h.c6 hg h.rd.ty (by decide), R_grown_ty h.rw hg h.rd.ty (by decide), R_grown_ty h.rt hg h.rd.ty (by decide), h.gr.trans hg⟩
theorem CI.word (h : CI w base ok br b N C toks on vw vt j ws ts W) {v1 : Value} {ws1 : List (List UInt8)} (hg : W.grownBy W1 vw.ownBlock) (ho : Kd.R Kd.string 9 W1 w.heap.size (fun _ => True) v1 (ws1.map B)) :
    CI w base ok br b N C toks on v1 vt j ws1 ts (W1.setCell ⟨w.heap.size + 1, 1, none⟩ v1) := by
  have ht := R_row_ty h.rw
  have c6 := blk_grown_ty h.c6 hg ht (by decide)
  have hs := World.grownBy_set W1 (w.heap.size + 1) 1 v1
  have hst : ∀ k, some (w.heap.size + 1) = some k → ∃ cells, W1.heap[k]? = some (.cells cells 124 (0, 0)) := by
    intro k hk; injection hk with hk; subst hk; exact ⟨_, c6⟩
  have c4 := blk_grown_ty h.c4 hg ht (by decide)
  refine ⟨(h.rd.grown hg ht (by decide)).grown hs hst (by decide), R_grown_ty (R_grown_ty h.tok hg ht (by decide)) hs hst (by decide), ?_, blk_put c6 1 v1 rfl, R_grown_ty ho hs hst (by decide), R_grown_ty (R_grown_ty h.rt hg ht (by decide)) hs hst (by decide), ?_⟩
  · exact blk_far c4 (by simp) v1
  · refine (h.gr.andThen hg (fun k hk => ?_)).andThen hs (fun k hk => ?_)
    · exact .inl (Kd.R_base h.rw k hk)
    · injection hk with hk; exact .inl (by omega)
theorem CI.way (h : CI w base ok br b N C toks on vw vt j ws ts W) {v1 : Value} {ts1 : List (Int × List UInt8)} (hg : W.grownBy W1 vt.ownBlock) (ho : Kd.R k134 134 W1 w.heap.size (fun _ => True) v1 (ts1.map toT)) :
    CI w base ok br b N C toks on vw v1 j ws ts1 (W1.setCell ⟨w.heap.size + 1, 2, none⟩ v1) := by
  have ht := R_row_ty h.rt
  have c6 := blk_grown_ty h.c6 hg ht (by decide)
  have hs := World.grownBy_set W1 (w.heap.size + 1) 2 v1
  have hst : ∀ k, some (w.heap.size + 1) = some k → ∃ cells, W1.heap[k]? = some (.cells cells 124 (0, 0)) := by
    intro k hk; injection hk with hk; subst hk; exact ⟨_, c6⟩
  have c4 := blk_grown_ty h.c4 hg ht (by decide)
  refine ⟨(h.rd.grown hg ht (by decide)).grown hs hst (by decide), R_grown_ty (R_grown_ty h.tok hg ht (by decide)) hs hst (by decide), ?_, blk_put c6 2 v1 rfl, R_grown_ty (R_grown_ty h.rw hg ht (by decide)) hs hst (by decide), R_grown_ty ho hs hst (by decide), ?_⟩
  · exact blk_far c4 (by simp) v1
  · refine (h.gr.andThen hg (fun k hk => ?_)).andThen hs (fun k hk => ?_)
    · exact .inl (Kd.R_base h.rt k hk)
    · injection hk with hk; exact .inl (by omega)
end

theorem CI.fin {w W : World} {base br b N C j : Nat} {ok : Nat → Prop} {toks : List Tok} {on : Int} {vw vt : Value} {ws : List (List UInt8)} {ts : List (Int × List UInt8)} (h : CI w base ok br b N C toks on vw vt j ws ts W) (x y z : Value) {X : World}
    (hX : X = ((W.setCell ⟨w.heap.size, 0, none⟩ x).setCell ⟨w.heap.size, 1, none⟩ y).setCell ⟨w.heap.size, 2, none⟩ z) :
    RdI br b j N X ∧ Kd.R Kd.string 9 X w.heap.size (fun _ => True) vw (ws.map B) ∧ Kd.R k134 134 X w.heap.size (fun _ => True) vt (ts.map toT) ∧ w.grownBy X (some br) ∧ X.heap[w.heap.size]? = some (.cells #[x, y, z] 124 (0, 0)) := by
  subst hX
  have b1 := blk_put h.c4 0 x (cs' := #[x, .slice none 0 0, .slice none 0 0]) rfl
  have b2 := blk_put b1 1 y (cs' := #[x, y, .slice none 0 0]) rfl
  have b3 := blk_put b2 2 z (cs' := #[x, y, z]) rfl
  have g1 := World.grownBy_set W w.heap.size 0 x
  have g2 := World.grownBy_set (W.setCell ⟨w.heap.size, 0, none⟩ x) w.heap.size 1 y
  have g3 := World.grownBy_set ((W.setCell ⟨w.heap.size, 0, none⟩ x).setCell ⟨w.heap.size, 1, none⟩ y) w.heap.size 2 z
  have g := (g1.trans g2).trans g3
  have ht : ∀ k, some w.heap.size = some k → ∃ cells, W.heap[k]? = some (.cells cells 124 (0, 0)) := by
    intro k hk; injection hk with hk; subst hk; exact ⟨_, h.c4⟩
  exact ⟨h.rd.grown g ht (by decide), R_grown_ty h.rw g ht (by decide), R_grown_ty h.rt g ht (by decide), h.gr.andThen g (fun k hk => by injection hk with hk; exact .inl (by omega)), b3⟩
/-- What command's answer says. -/
def CmdEnd (br b N : Nat) (toks : List Tok) (w w' : World) (on' : Int) (vw vt : Value) (okb : Bool) : Option (Cmd × List Tok) → Prop
  | none => okb = false
  | some (c, r) => okb = true ∧ on' = c.on ∧ ∃ j, r = toks.drop j ∧ RdI br b j N w' ∧ Kd.R Kd.string 9 w' w.heap.size (fun _ => True) vw (c.words.map B) ∧ Kd.R k134 134 w' w.heap.size (fun _ => True) vt (c.tos.map toT)
theorem field1 (k : Int) (x : ByteArray) (W : World) : Sem.run Try.prog (Instr.field 128 (Value.agg #[Value.int IntKind.i64 k, Value.string x]) 1) W = .ok (.string x) W := by kernel_rfl
theorem grown_drew0 (W : World) : W.grownBy W.drew none := ⟨rfl, rfl, rfl, Nat.le_refl _, fun _ _ _ => rfl⟩
set_option maxRecDepth 100000 in
set_option maxHeartbeats 8000000 in
theorem command_calls {base : Nat} {ok : Nat → Prop} (br b i N C : Nat) (on : Int) (toks : List Tok) (w : World) (hN : toks.length = N) (hNl : N < 1000000000) (h6 : ∀ x ∈ toks, x.1 ≤ 6) (h : RdI br b i N w)
    (hT : Kd.R k128 128 w base ok (.slice (some ⟨b, 0, none⟩) N C) (toks.map s83)) :
    Calls Try.prog 44 #[.pointer (some ⟨br, 0, none⟩), .int .i64 on] w fun e w' => ∃ (on' : Int) (Aw : Option Addr) (nw cw : Nat) (At : Option Addr) (nt ct : Nat) (okb : Bool), e = .returned (.tuple #[.agg #[.int .i64 on', .slice Aw nw cw, .slice At nt ct], .bool okb]) ∧ w.grownBy w' (some br) ∧
      CmdEnd br b N toks w w' on' (.slice Aw nw cw) (.slice At nt ct) okb (cmdS on [] [] (toks.drop i)) := by
  have infoS : (Try.prog.info? 9).map (fun i => (i.zero, i.size, i.bytes)) = some (some (.string ⟨#[]⟩), 1, 16) := by kernel_rfl
  have infoT : (Try.prog.info? 134).map (fun i => (i.zero, i.size, i.bytes)) = some (some (.agg #[.int .i64 0, .string ⟨#[]⟩]), 2, 24) := by kernel_rfl
  obtain ⟨CM, hCM⟩ : ∃ x, cmdS on [] [] (toks.drop i) = x := ⟨_, rfl⟩
  rw [hCM]
  have HJ0 := Aside0.mk (show CI w base ok br b N C toks on (.slice none 0 0) (.slice none 0 0) i [] [] ((w.alloc (.cells #[.int .i64 0, .slice none 0 0, .slice none 0 0] 124)).alloc (.cells #[.int .i64 on, .slice none 0 0, .slice none 0 0] 124)) from by
    have nn : ∀ (t : Nat) (k : Nat), (none : Option Nat) = some k → ∃ cells, w.heap[k]? = some (.cells cells t (0, 0)) := fun _ _ e => by cases e
    have hg : w.grownBy ((w.alloc (.cells #[.int .i64 0, .slice none 0 0, .slice none 0 0] 124)).alloc (.cells #[.int .i64 on, .slice none 0 0, .slice none 0 0] 124)) none := (World.grownBy_alloc _ _ _).trans (World.grownBy_alloc _ _ _)
    refine ⟨h.grown hg (nn 0) (by decide), R_grown_ty hT hg (nn 0) (by decide), blk_alloc (blk_new w _) _, ?_, Kd.R_nil _ _ _ _ _, Kd.R_nil _ _ _ _ _, (World.grownBy_alloc _ _ _).trans (World.grownBy_alloc _ _ _)⟩
    have := blk_new (w.alloc (.cells #[.int .i64 0, .slice none 0 0, .slice none 0 0] 124)) (.cells #[.int .i64 on, .slice none 0 0, .slice none 0 0] 124 (0, 0))
    rw [show (w.alloc (.cells #[.int .i64 0, .slice none 0 0, .slice none 0 0] 124)).heap.size = w.heap.size + 1 by simp] at this
    exact this)
  have HCM := Aside0.mk hCM
  clear hCM h hT
  go_enter Try.func44, Try.ntmps44
  go_wp2
  go_loopg [7] (N + 1) (fun g v7 wr => ∃ (j : Nat) (ws : List (List UInt8)) (ts : List (Int × List UInt8)) (vw vt : Value), j ≤ N ∧ N - j < g ∧ ws.length ≤ j ∧ ts.length ≤ j
    ∧ Aside0 (CI w base ok br b N C toks on vw vt j ws ts wr) ∧ Aside0 (cmdS on ws ts (toks.drop j) = CM))
  case atStart => exact ⟨i, [], [], _, _, HJ0.out.rd.1, by have := HJ0.out.rd.1; omega, by simp, by simp, HJ0, HCM⟩
  case round =>
    obtain ⟨j, ws, ts, vw, vt, hj, hg, hws, hts, HJ, HR⟩ := hrel
    obtain ⟨Aw, cw, ew⟩ := Kd.R_slice HJ.out.rw
    rw [List.length_map] at ew
    obtain ⟨At, ct, et⟩ := Kd.R_slice HJ.out.rt
    rw [List.length_map] at et
    subst ew et
    have HJd := Aside0.mk (HJ.out.new (grown_drew0 _))
    have c1d : wr.drew.cell? ⟨w.heap.size + 1, 1, none⟩ = some (.slice Aw ws.length cw) := blk_cell HJd.out.c6 1
    have c2d : wr.drew.cell? ⟨w.heap.size + 1, 2, none⟩ = some (.slice At ts.length ct) := blk_cell HJd.out.c6 2
    by_cases hlt : j < N
    · have hdr := drop_get toks j (by omega)
      obtain ⟨k, x, hx⟩ : ∃ k x, toks[j]'(by omega) = (k, x) := ⟨_, _, rfl⟩
      have hk6 : k ≤ 6 := by have := h6 _ (List.getElem_mem (show j < toks.length by omega)); rw [hx] at this; exact this
      have hn : nextK (toks.drop j) = (k : Int) := by rw [hdr, hx]; rfl
      have htk : ∀ W, RdI br b j N W → Kd.R k128 128 W base ok (.slice (some ⟨b, 0, none⟩) N C) (toks.map s83) → Calls Try.prog 45 #[.pointer (some ⟨br, 0, none⟩)] W fun e w' => e = .returned (.agg #[.int .i64 (k : Int), .string (B x)]) ∧ RdI br b (j + 1) N w' ∧ W.grownBy w' (some br) := by
        intro W h1 h2
        have := take_calls br b j N C toks W hN h1 (by omega) h2
        rw [hx] at this
        exact this
      rw [hx] at hdr
      have hnx : ∀ W, RdI br b j N W → Kd.R k128 128 W base ok (.slice (some ⟨b, 0, none⟩) N C) (toks.map s83) → Calls Try.prog 79 #[.pointer (some ⟨br, 0, none⟩)] W fun e w' => e = .returned (.int .i64 (k : Int)) ∧ w' = W := by
        intro W h1 h2
        have := next_calls br b j N C toks W hN h1 h2
        rw [hn] at this
        exact this
      have HDR := Aside0.mk hdr
      have HTK := Aside0.mk htk
      have HNX := Aside0.mk hnx
      clear hn hdr htk hnx hx
      by_cases h0 : k = 0
      · subst h0
        have hz : ((((0 : Nat) : Int)) == 0) = true := rfl
        go_wp2_with (go_at_call 79; refine (HNX.out _ HJ.out.rd HJ.out.tok).mono ?_; rintro e1 w1 ⟨rfl, rfl⟩)
        have hfield := field1 (0 : Int) (B x)
        go_region_law (first | (refine Kd.R_append_step Kd.string (w0 := w2) w.heap.size (by rfl) (.tmp 21) (.tmp 25) 23 9 (.string ⟨#[]⟩) 16 rfl Try.underlying23 infoS rfl (by decide) (by omega) (.slice Aw ws.length cw) (ws.map B) (B x) [.string (B x)] (fun _ => True) (fun _ => False) rfl rfl rfl (fun _ hk => hk.elim) (fun _ _ => trivial) J2.out.rw (Below.refl _ _) J2.out.gr.size (by rw [List.length_map]; omega) ?_; intro v1 w3 ho hb hg3 hat; obtain ⟨A1, n1, q1, e1⟩ := R_is ho; subst e1; rw [show ws.map B ++ [B x] = (ws ++ [x]).map B by simp] at ho; have J3 := Aside0.mk (J2.out.word hg3 ho); have k6 := blk_grown_ty J2.out.c6 hg3 (R_row_ty J2.out.rw) (by decide); have s1 := blk_cell k6 1; have s2 := blk_frozen k6 1; clear ho hb hg3 hat k6) | ((go_simp; go_wp2_with (go_at_call 45; refine (HTK.out _ HJd.out.rd HJd.out.tok).mono ?_; rintro e2 w2 ⟨rfl, hr2, hg2⟩; have J2 := Aside0.mk (HJd.out.take hr2 hg2); have cc1 := blk_cell J2.out.c6 1; have cc1a := blk_cell (blk_alloc J2.out.c6 (.cells #[.string (B x)] 9)) 1; clear hr2 hg2))))
        all_goals
          go_wp2
          go_roundg (gk - 1)
          case measure => omega
          case rel => exact ⟨j + 1, ws ++ [x], ts, _, _, by omega, by omega, by simp; omega, by omega, J3, ⟨by rw [← HR.out, HDR.out, cmdS_word]⟩⟩
      · by_cases h4 : 4 ≤ k
        · obtain ⟨kk, hkk⟩ : ∃ kk : Nat, (k : Int) = (kk : Int) := ⟨k, rfl⟩
          by_cases hy : ∃ (h : j + 1 < toks.length) (y : List UInt8), toks[j + 1] = (0, y)
          · obtain ⟨hj1, y, hy⟩ := hy
            have htk2 : ∀ W, RdI br b (j + 1) N W → Kd.R k128 128 W base ok (.slice (some ⟨b, 0, none⟩) N C) (toks.map s83) → Calls Try.prog 45 #[.pointer (some ⟨br, 0, none⟩)] W fun e w' => e = .returned (.agg #[.int .i64 (0 : Int), .string (B y)]) ∧ RdI br b (j + 2) N w' ∧ W.grownBy w' (some br) := by
              intro W h1 h2
              have := take_calls br b (j + 1) N C toks W hN h1 hj1 h2
              rw [hy] at this
              exact this
            have hdr2 := drop_get toks (j + 1) hj1
            rw [hy] at hdr2
            have hnx2 : ∀ W, RdI br b (j + 1) N W → Kd.R k128 128 W base ok (.slice (some ⟨b, 0, none⟩) N C) (toks.map s83) → Calls Try.prog 79 #[.pointer (some ⟨br, 0, none⟩)] W fun e w' => e = .returned (.int .i64 0) ∧ w' = W := by
              intro W h1 h2
              have := next_calls br b (j + 1) N C toks W hN h1 h2
              rw [hdr2] at this
              exact this
            have HTK2 := Aside0.mk htk2
            have HNX2 := Aside0.mk hnx2
            have HRR := Aside0.mk (show cmdS on ws (ts ++ [((k : Int), y)]) (toks.drop (j + 2)) = CM by rw [← HR.out, HDR.out, hdr2, cmdS_to _ _ _ k h4])
            have hfield := field1 (0 : Int) (B y)
            have hkk2 : k = 4 ∨ k = 5 ∨ k = 6 := by omega
            have HL := Aside0.mk hj1
            clear htk2 hnx2 hdr2 hy h0 h4 hkk kk hk6 hj1
            rcases hkk2 with rfl | rfl | rfl
            · go_wp2_with (first | (go_at_call 79; first | (refine (HNX2.out _ J2.out.rd J2.out.tok).mono ?_; rintro e4 w4 ⟨rfl, rfl⟩) | (refine (HNX.out _ HJ.out.rd HJ.out.tok).mono ?_; rintro e1 w1 ⟨rfl, rfl⟩)) | (go_at_call 45; refine (HTK.out _ HJ.out.rd HJ.out.tok).mono ?_; rintro e2 w2 ⟨rfl, hr2, hg2⟩; have J2 := Aside0.mk (HJ.out.take hr2 hg2); have J2d := Aside0.mk (J2.out.new (grown_drew0 _)); have c3d : w2.drew.cell? ⟨w.heap.size + 1, 2, none⟩ = some (.slice At ts.length ct) := blk_cell J2d.out.c6 2; have d0 := blk_cell J2.out.c4 0; have d1 := blk_cell J2.out.c4 1; have d2 := blk_cell J2.out.c4 2; have q0 := blk_frozen J2.out.c4 0; have q1 := blk_frozen J2.out.c4 1; have q2 := blk_frozen J2.out.c4 2; clear hr2 hg2))
              go_region_law (first | (refine Kd.R_append_step k134 (w0 := w3) w.heap.size (by rfl) (.tmp 39) (.tmp 45) 122 134 (.agg #[.int .i64 0, .string ⟨#[]⟩]) 24 rfl Try.underlying122 infoT rfl (by decide) (by omega) (.slice At ts.length ct) (ts.map toT) (⟨(4 : Int), B y⟩ : S134) [.int .i64 (4 : Int), .string (B y)] (fun _ => True) (fun _ => False) rfl rfl (k134_mkM _ _ _ _) (fun _ hk => hk.elim) (fun _ _ => trivial) J3.out.rt (Below.refl _ _) J3.out.gr.size (by rw [List.length_map]; omega) ?_; intro v1 w4 ho hb hg3 hat; obtain ⟨A1, n1, q1, e1⟩ := R_is ho; subst e1; rw [show ts.map toT ++ [(⟨(4 : Int), B y⟩ : S134)] = (ts ++ [((4 : Int), y)]).map toT by simp [toT]] at ho; have J4 := Aside0.mk (J3.out.way hg3 ho); have k6 := blk_grown_ty J3.out.c6 hg3 (R_row_ty J3.out.rt) (by decide); have s1 := blk_cell k6 2; have s2 := blk_frozen k6 2; clear ho hb hg3 hat k6) | ((go_simp; go_wp2_with (go_at_call 45; refine (HTK2.out _ J2d.out.rd J2d.out.tok).mono ?_; rintro e3 w3 ⟨rfl, hr3, hg3⟩; have J3 := Aside0.mk (J2d.out.take hr3 hg3); have cc1 := blk_cell J3.out.c6 2; have cc1a := blk_cell (blk_alloc J3.out.c6 (.cells #[.int .i64 (4 : Int), .string (B y)] 134)) 2; clear hr3 hg3))))
              all_goals
                go_wp2
                go_roundg (gk - 1)
                case measure => have := HL.out; omega
                case rel => exact ⟨j + 2, ws, ts ++ [((4 : Int), y)], _, _, by have := HL.out; omega, by have := HL.out; omega, by omega, by simp; omega, J4, HRR⟩
            · go_wp2_with (first | (go_at_call 79; first | (refine (HNX2.out _ J2.out.rd J2.out.tok).mono ?_; rintro e4 w4 ⟨rfl, rfl⟩) | (refine (HNX.out _ HJ.out.rd HJ.out.tok).mono ?_; rintro e1 w1 ⟨rfl, rfl⟩)) | (go_at_call 45; refine (HTK.out _ HJ.out.rd HJ.out.tok).mono ?_; rintro e2 w2 ⟨rfl, hr2, hg2⟩; have J2 := Aside0.mk (HJ.out.take hr2 hg2); have J2d := Aside0.mk (J2.out.new (grown_drew0 _)); have c3d : w2.drew.cell? ⟨w.heap.size + 1, 2, none⟩ = some (.slice At ts.length ct) := blk_cell J2d.out.c6 2; have d0 := blk_cell J2.out.c4 0; have d1 := blk_cell J2.out.c4 1; have d2 := blk_cell J2.out.c4 2; have q0 := blk_frozen J2.out.c4 0; have q1 := blk_frozen J2.out.c4 1; have q2 := blk_frozen J2.out.c4 2; clear hr2 hg2))
              go_region_law (first | (refine Kd.R_append_step k134 (w0 := w3) w.heap.size (by rfl) (.tmp 39) (.tmp 45) 122 134 (.agg #[.int .i64 0, .string ⟨#[]⟩]) 24 rfl Try.underlying122 infoT rfl (by decide) (by omega) (.slice At ts.length ct) (ts.map toT) (⟨(5 : Int), B y⟩ : S134) [.int .i64 (5 : Int), .string (B y)] (fun _ => True) (fun _ => False) rfl rfl (k134_mkM _ _ _ _) (fun _ hk => hk.elim) (fun _ _ => trivial) J3.out.rt (Below.refl _ _) J3.out.gr.size (by rw [List.length_map]; omega) ?_; intro v1 w4 ho hb hg3 hat; obtain ⟨A1, n1, q1, e1⟩ := R_is ho; subst e1; rw [show ts.map toT ++ [(⟨(5 : Int), B y⟩ : S134)] = (ts ++ [((5 : Int), y)]).map toT by simp [toT]] at ho; have J4 := Aside0.mk (J3.out.way hg3 ho); have k6 := blk_grown_ty J3.out.c6 hg3 (R_row_ty J3.out.rt) (by decide); have s1 := blk_cell k6 2; have s2 := blk_frozen k6 2; clear ho hb hg3 hat k6) | ((go_simp; go_wp2_with (go_at_call 45; refine (HTK2.out _ J2d.out.rd J2d.out.tok).mono ?_; rintro e3 w3 ⟨rfl, hr3, hg3⟩; have J3 := Aside0.mk (J2d.out.take hr3 hg3); have cc1 := blk_cell J3.out.c6 2; have cc1a := blk_cell (blk_alloc J3.out.c6 (.cells #[.int .i64 (5 : Int), .string (B y)] 134)) 2; clear hr3 hg3))))
              all_goals
                go_wp2
                go_roundg (gk - 1)
                case measure => have := HL.out; omega
                case rel => exact ⟨j + 2, ws, ts ++ [((5 : Int), y)], _, _, by have := HL.out; omega, by have := HL.out; omega, by omega, by simp; omega, J4, HRR⟩
            · go_wp2_with (first | (go_at_call 79; first | (refine (HNX2.out _ J2.out.rd J2.out.tok).mono ?_; rintro e4 w4 ⟨rfl, rfl⟩) | (refine (HNX.out _ HJ.out.rd HJ.out.tok).mono ?_; rintro e1 w1 ⟨rfl, rfl⟩)) | (go_at_call 45; refine (HTK.out _ HJ.out.rd HJ.out.tok).mono ?_; rintro e2 w2 ⟨rfl, hr2, hg2⟩; have J2 := Aside0.mk (HJ.out.take hr2 hg2); have J2d := Aside0.mk (J2.out.new (grown_drew0 _)); have c3d : w2.drew.cell? ⟨w.heap.size + 1, 2, none⟩ = some (.slice At ts.length ct) := blk_cell J2d.out.c6 2; have d0 := blk_cell J2.out.c4 0; have d1 := blk_cell J2.out.c4 1; have d2 := blk_cell J2.out.c4 2; have q0 := blk_frozen J2.out.c4 0; have q1 := blk_frozen J2.out.c4 1; have q2 := blk_frozen J2.out.c4 2; clear hr2 hg2))
              go_region_law (first | (refine Kd.R_append_step k134 (w0 := w3) w.heap.size (by rfl) (.tmp 39) (.tmp 45) 122 134 (.agg #[.int .i64 0, .string ⟨#[]⟩]) 24 rfl Try.underlying122 infoT rfl (by decide) (by omega) (.slice At ts.length ct) (ts.map toT) (⟨(6 : Int), B y⟩ : S134) [.int .i64 (6 : Int), .string (B y)] (fun _ => True) (fun _ => False) rfl rfl (k134_mkM _ _ _ _) (fun _ hk => hk.elim) (fun _ _ => trivial) J3.out.rt (Below.refl _ _) J3.out.gr.size (by rw [List.length_map]; omega) ?_; intro v1 w4 ho hb hg3 hat; obtain ⟨A1, n1, q1, e1⟩ := R_is ho; subst e1; rw [show ts.map toT ++ [(⟨(6 : Int), B y⟩ : S134)] = (ts ++ [((6 : Int), y)]).map toT by simp [toT]] at ho; have J4 := Aside0.mk (J3.out.way hg3 ho); have k6 := blk_grown_ty J3.out.c6 hg3 (R_row_ty J3.out.rt) (by decide); have s1 := blk_cell k6 2; have s2 := blk_frozen k6 2; clear ho hb hg3 hat k6) | ((go_simp; go_wp2_with (go_at_call 45; refine (HTK2.out _ J2d.out.rd J2d.out.tok).mono ?_; rintro e3 w3 ⟨rfl, hr3, hg3⟩; have J3 := Aside0.mk (J2d.out.take hr3 hg3); have cc1 := blk_cell J3.out.c6 2; have cc1a := blk_cell (blk_alloc J3.out.c6 (.cells #[.int .i64 (6 : Int), .string (B y)] 134)) 2; clear hr3 hg3))))
              all_goals
                go_wp2
                go_roundg (gk - 1)
                case measure => have := HL.out; omega
                case rel => exact ⟨j + 2, ws, ts ++ [((6 : Int), y)], _, _, by have := HL.out; omega, by have := HL.out; omega, by omega, by simp; omega, J4, HRR⟩
          · have hnk : ∃ kx : Int, nextK (toks.drop (j + 1)) = kx ∧ (kx == 0) = false := by
              refine ⟨_, rfl, ?_⟩
              by_cases hj1 : j + 1 < toks.length
              · rw [drop_get toks (j + 1) hj1]
                obtain ⟨ky, y, hyy⟩ : ∃ ky y, toks[j + 1] = (ky, y) := ⟨_, _, rfl⟩
                rw [hyy]
                have : ¬ ky = 0 := by rintro rfl; exact hy ⟨hj1, y, hyy⟩
                simp [nextK, this]
              · rw [List.drop_eq_nil_of_le (by omega)]
                rfl
            obtain ⟨kx, hkx, hkx0⟩ := hnk
            have hcm : CM = none := by
              rw [← HR.out, HDR.out]
              refine cmdS_to0 _ _ _ k h4 x _ (fun y r' e => ?_)
              have hj1 : j + 1 < toks.length := by
                have := congrArg List.length e
                simp at this
                omega
              rw [drop_get toks (j + 1) hj1] at e
              injection e with e _
              exact hy ⟨hj1, y, e⟩
            have HCMN := Aside0.mk hcm
            have hnx2 : ∀ W, RdI br b (j + 1) N W → Kd.R k128 128 W base ok (.slice (some ⟨b, 0, none⟩) N C) (toks.map s83) → Calls Try.prog 79 #[.pointer (some ⟨br, 0, none⟩)] W fun e w' => e = .returned (.int .i64 kx) ∧ w' = W := by
              intro W h1 h2
              have := next_calls br b (j + 1) N C toks W hN h1 h2
              rw [hkx] at this
              exact this
            have HNX2 := Aside0.mk hnx2
            have hkk2 : k = 4 ∨ k = 5 ∨ k = 6 := by omega
            clear hnx2 hkx hcm hy h0 h4 hkk kk hk6
            rcases hkk2 with rfl | rfl | rfl
            all_goals
              go_wp2_with (first | (go_at_call 79; first | (refine (HNX2.out _ J2.out.rd J2.out.tok).mono ?_; rintro e4 w4 ⟨rfl, rfl⟩) | (refine (HNX.out _ HJ.out.rd HJ.out.tok).mono ?_; rintro e1 w1 ⟨rfl, rfl⟩)) | (go_at_call 45; refine (HTK.out _ HJ.out.rd HJ.out.tok).mono ?_; rintro e2 w2 ⟨rfl, hr2, hg2⟩; have J2 := Aside0.mk (HJ.out.take hr2 hg2); have J2d := Aside0.mk (J2.out.new (grown_drew0 _)); have c3d : w2.drew.cell? ⟨w.heap.size + 1, 2, none⟩ = some (.slice At ts.length ct) := blk_cell J2d.out.c6 2; have d0 := blk_cell J2.out.c4 0; have d1 := blk_cell J2.out.c4 1; have d2 := blk_cell J2.out.c4 2; have q0 := blk_frozen J2.out.c4 0; have q1 := blk_frozen J2.out.c4 1; have q2 := blk_frozen J2.out.c4 2; clear hr2 hg2))
              have FIN := Aside0.mk (J2.out.fin (.int .i64 0) (.slice none 0 0) (.slice none 0 0) rfl)
              refine bodyPost_ret (results_ct rfl _ _ w.heap.size 124 #[.int .i64 0, .slice none 0 0, .slice none 0 0] (0, 0) _ rfl FIN.out.2.2.2.2 Try.underlying124 rfl (by kernel_rfl)) rfl ?_
              rw [HCMN.out]
              exact ⟨_, _, _, _, _, _, _, _, rfl, FIN.out.2.2.2.1, rfl⟩
        · have HDE := Aside0.mk (show cmdS on ws ts (toks.drop j) = if ws = [] then none else some (⟨on, ws, ts⟩, toks.drop j) by rw [HDR.out, cmdS_end _ _ _ k h0 h4])
          have hkk2 : k = 1 ∨ k = 2 ∨ k = 3 := by omega
          clear h0 h4 hk6
          rcases hkk2 with rfl | rfl | rfl
          all_goals
            have c0d : wr.drew.cell? ⟨w.heap.size + 1, 0, none⟩ = some (.int .i64 on) := blk_cell HJd.out.c6 0
            have d0 : wr.drew.cell? ⟨w.heap.size, 0, none⟩ = some (.int .i64 0) := blk_cell HJd.out.c4 0
            have d1 : wr.drew.cell? ⟨w.heap.size, 1, none⟩ = some (.slice none 0 0) := blk_cell HJd.out.c4 1
            have d2 : wr.drew.cell? ⟨w.heap.size, 2, none⟩ = some (.slice none 0 0) := blk_cell HJd.out.c4 2
            have e0 : wr.cell? ⟨w.heap.size, 0, none⟩ = some (.int .i64 0) := blk_cell HJ.out.c4 0
            have e1 : wr.cell? ⟨w.heap.size, 1, none⟩ = some (.slice none 0 0) := blk_cell HJ.out.c4 1
            have e2 : wr.cell? ⟨w.heap.size, 2, none⟩ = some (.slice none 0 0) := blk_cell HJ.out.c4 2
            have z0 := blk_frozen HJ.out.c4 0
            have z1 := blk_frozen HJ.out.c4 1
            have z2 := blk_frozen HJ.out.c4 2
            have y0 : wr.cell? ⟨w.heap.size + 1, 0, none⟩ = some (.int .i64 on) := blk_cell HJ.out.c6 0
            have y1 : wr.cell? ⟨w.heap.size + 1, 1, none⟩ = some (.slice Aw ws.length cw) := blk_cell HJ.out.c6 1
            have y2 : wr.cell? ⟨w.heap.size + 1, 2, none⟩ = some (.slice At ts.length ct) := blk_cell HJ.out.c6 2
            have q0 := blk_frozen HJd.out.c4 0
            have q1 := blk_frozen HJd.out.c4 1
            have q2 := blk_frozen HJd.out.c4 2
            have FIN := Aside0.mk (HJd.out.fin (.int .i64 on) (.slice Aw ws.length cw) (.slice At ts.length ct) rfl)
            by_cases hw0 : ws = []
            · have hcm : CM = none := by rw [← HR.out, HDE.out, if_pos hw0]
              have HCMN := Aside0.mk hcm
              have HW0 := Aside0.mk hw0
              clear hcm hw0
              go_wp2_with (go_at_call 79; refine (HNX.out _ HJ.out.rd HJ.out.tok).mono ?_; rintro e1 w1 ⟨rfl, rfl⟩)
              go_region
              all_goals
                go_wp2
                refine bodyPost_ret (results_ct rfl _ _ w.heap.size 124 #[.int .i64 on, .slice Aw ws.length cw, .slice At ts.length ct] (0, 0) _ rfl FIN.out.2.2.2.2 Try.underlying124 rfl (by kernel_rfl)) rfl ?_
                rw [HCMN.out]
                exact ⟨_, _, _, _, _, _, _, _, rfl, FIN.out.2.2.2.1, (show decide (0 < ws.length) = false by rw [HW0.out]; rfl)⟩
            · have hcm : CM = some (⟨on, ws, ts⟩, toks.drop j) := by rw [← HR.out, HDE.out, if_neg hw0]
              have HCMN := Aside0.mk hcm
              have HW0 := Aside0.mk hw0
              clear hcm hw0
              go_wp2_with (go_at_call 79; refine (HNX.out _ HJ.out.rd HJ.out.tok).mono ?_; rintro e1 w1 ⟨rfl, rfl⟩)
              go_region
              all_goals
                go_wp2
                refine bodyPost_ret (results_ct rfl _ _ w.heap.size 124 #[.int .i64 on, .slice Aw ws.length cw, .slice At ts.length ct] (0, 0) _ rfl FIN.out.2.2.2.2 Try.underlying124 rfl (by kernel_rfl)) rfl ?_
                rw [HCMN.out]
                exact ⟨_, _, _, _, _, _, _, _, rfl, FIN.out.2.2.2.1, decide_eq_true (List.length_pos_iff.2 HW0.out), rfl, j, rfl, FIN.out.1, FIN.out.2.1, FIN.out.2.2.1⟩
    · have hd : toks.drop j = [] := List.drop_eq_nil_of_le (by omega)
      have hnx : ∀ W, RdI br b j N W → Kd.R k128 128 W base ok (.slice (some ⟨b, 0, none⟩) N C) (toks.map s83) → Calls Try.prog 79 #[.pointer (some ⟨br, 0, none⟩)] W fun e w' => e = .returned (.int .i64 (-1)) ∧ w' = W := by
        intro W h1 h2
        have := next_calls br b j N C toks W hN h1 h2
        rw [hd] at this
        exact this
      have HNX := Aside0.mk hnx
      have HDE := Aside0.mk (show cmdS on ws ts (toks.drop j) = if ws = [] then none else some (⟨on, ws, ts⟩, toks.drop j) by rw [hd, cmdS_nil])
      clear hnx hd
      have c0d : wr.drew.cell? ⟨w.heap.size + 1, 0, none⟩ = some (.int .i64 on) := blk_cell HJd.out.c6 0
      have d0 : wr.drew.cell? ⟨w.heap.size, 0, none⟩ = some (.int .i64 0) := blk_cell HJd.out.c4 0
      have d1 : wr.drew.cell? ⟨w.heap.size, 1, none⟩ = some (.slice none 0 0) := blk_cell HJd.out.c4 1
      have d2 : wr.drew.cell? ⟨w.heap.size, 2, none⟩ = some (.slice none 0 0) := blk_cell HJd.out.c4 2
      have e0 : wr.cell? ⟨w.heap.size, 0, none⟩ = some (.int .i64 0) := blk_cell HJ.out.c4 0
      have e1 : wr.cell? ⟨w.heap.size, 1, none⟩ = some (.slice none 0 0) := blk_cell HJ.out.c4 1
      have e2 : wr.cell? ⟨w.heap.size, 2, none⟩ = some (.slice none 0 0) := blk_cell HJ.out.c4 2
      have z0 := blk_frozen HJ.out.c4 0
      have z1 := blk_frozen HJ.out.c4 1
      have z2 := blk_frozen HJ.out.c4 2
      have y0 : wr.cell? ⟨w.heap.size + 1, 0, none⟩ = some (.int .i64 on) := blk_cell HJ.out.c6 0
      have y1 : wr.cell? ⟨w.heap.size + 1, 1, none⟩ = some (.slice Aw ws.length cw) := blk_cell HJ.out.c6 1
      have y2 : wr.cell? ⟨w.heap.size + 1, 2, none⟩ = some (.slice At ts.length ct) := blk_cell HJ.out.c6 2
      have q0 := blk_frozen HJd.out.c4 0
      have q1 := blk_frozen HJd.out.c4 1
      have q2 := blk_frozen HJd.out.c4 2
      have FIN := Aside0.mk (HJd.out.fin (.int .i64 on) (.slice Aw ws.length cw) (.slice At ts.length ct) rfl)
      by_cases hw0 : ws = []
      · have hcm : CM = none := by rw [← HR.out, HDE.out, if_pos hw0]
        have HCMN := Aside0.mk hcm
        have HW0 := Aside0.mk hw0
        clear hcm hw0
        go_wp2_with (go_at_call 79; refine (HNX.out _ HJ.out.rd HJ.out.tok).mono ?_; rintro e1 w1 ⟨rfl, rfl⟩)
        go_region
        all_goals
          go_wp2
          refine bodyPost_ret (results_ct rfl _ _ w.heap.size 124 #[.int .i64 on, .slice Aw ws.length cw, .slice At ts.length ct] (0, 0) _ rfl FIN.out.2.2.2.2 Try.underlying124 rfl (by kernel_rfl)) rfl ?_
          rw [HCMN.out]
          exact ⟨_, _, _, _, _, _, _, _, rfl, FIN.out.2.2.2.1, (show decide (0 < ws.length) = false by rw [HW0.out]; rfl)⟩
      · have hcm : CM = some (⟨on, ws, ts⟩, toks.drop j) := by rw [← HR.out, HDE.out, if_neg hw0]
        have HCMN := Aside0.mk hcm
        have HW0 := Aside0.mk hw0
        clear hcm hw0
        go_wp2_with (go_at_call 79; refine (HNX.out _ HJ.out.rd HJ.out.tok).mono ?_; rintro e1 w1 ⟨rfl, rfl⟩)
        go_region
        all_goals
          go_wp2
          refine bodyPost_ret (results_ct rfl _ _ w.heap.size 124 #[.int .i64 on, .slice Aw ws.length cw, .slice At ts.length ct] (0, 0) _ rfl FIN.out.2.2.2.2 Try.underlying124 rfl (by kernel_rfl)) rfl ?_
          rw [HCMN.out]
          exact ⟨_, _, _, _, _, _, _, _, rfl, FIN.out.2.2.2.1, decide_eq_true (List.length_pos_iff.2 HW0.out), rfl, j, rfl, FIN.out.1, FIN.out.2.1, FIN.out.2.2.1⟩
end Go.Proofs.Ytmpheeanjjfddaa.X
