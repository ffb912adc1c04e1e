/- Texts of this claim, one behind the other (merged by the session's own program merge.py: a claim bears sixty files): XW05x7, XW05x9, XW05x, PLexD, HReader, HCmd, PLexE, PLexF, HParse, HRight, HOf, PLexG, PLexH, PLexI. -/
import Derived.WalkKit
import Derived.Lib.Hide
import Derived.Deep.Heap
import Derived.Deep.LoopGhost
import Derived.Deep.RegionLaw
import Derived.BigRegion
import Derived.RangeFuncBox
import Derived.Test.YtogbdjboblfokaaDoorZPLB
/- Laid for this claim by the session's own program xprint.py, over the print of the kit: functions of the program as plain Lean functions, each with a proof that a call comes to what its function says, or the row of a law out of these; no condition of its own. -/
namespace Go.Proofs.YtogbdjboblfokaaDoor.XW05
open Go.Proofs.YtogbdjboblfokaaDoor.X Go.Proofs.YtogbdjboblfokaaDoor.XT06 Go.RowKit Go.Proofs.YtogbdjboblfokaaDoorW.PrintWords Go.Proofs.YtogbdjboblfokaaDoorW.PrintLast Go.Proofs.YtogbdjboblfokaaDoorW.PrintMore
attribute [local go_sem] cell4_1 cell4_1d max2_int min2_int max_two min_two max_three min_three max_four min_four   -- for this text's walks alone
set_option linter.unusedVariables false
set_option linter.unusedSimpArgs false

/-! ### flatironref06_Line: function 8 -/
def flatironref06_Line.l0 : Nat → List (S75) → List (S73) → Int → Int → List ByteArray → List (S77) → Option ((List (S73)) × Bool)
  | 0, _, _, _, _, _, _ => none
  | k + 1, x4, x6, x8, x179000, x179001, x179002 => if x8 < (x4.length : Int) then (if 0 ≤ x8 then (if ((rd_T75 x4 x8).f0) = 0 then (if x179001.length < 8796093022208 then (flatironref06_Line.l0 k x4 x6 (wrap64 (x8 + 1)) x179000 (x179001 ++ [(rd_T75 x4 x8).f1]) x179002) else (none)) else (if ((rd_T75 x4 x8).f0) ≥ 4 then (if (wrap64 (x8 + 1)) ≥ (x4.length : Int) then (some (([] : List (S73)), false)) else (if 0 ≤ (wrap64 (x8 + 1)) then (if (wrap64 (x8 + 1)) < (x4.length : Int) then (if ((rd_T75 x4 (wrap64 (x8 + 1))).f0) = 0 then (if x179002.length < 5864062014805 then (flatironref06_Line.l0 k x4 x6 (wrap64 ((wrap64 (x8 + 1)) + 1)) x179000 x179001 (x179002 ++ [(⟨(rd_T75 x4 x8).f0, (rd_T75 x4 (wrap64 (x8 + 1))).f1⟩ : S77)])) else (none)) else (some (([] : List (S73)), false))) else (none)) else (none))) else (if (x179001.length : Int) = 0 then (some (([] : List (S73)), false)) else (if x6.length < 2513169434916 then (flatironref06_Line.l0 k x4 (x6 ++ [(⟨x179000, x179001, x179002⟩ : S73)]) (wrap64 (x8 + 1)) ((rd_T75 x4 x8).f0) ([] : List ByteArray) ([] : List (S77))) else (none))))) else (none)) else (if (x179001.length : Int) > 0 then (if x6.length < 2513169434916 then (some ((x6 ++ [(⟨x179000, x179001, x179002⟩ : S73)]), true)) else (none)) else (if (x179002.length : Int) = 0 then (some (x6, (x179000 == 1))) else (some (x6, false))))
def flatironref06_Line.f (k : Nat) (a0 : ByteArray) : Option ((List (S73)) × Bool) := (flatironref05_Tokens.f k a0).bind fun bt174 => (if bt174.2 = true then (flatironref06_Line.l0 k bt174.1 ([] : List (S73)) 0 1 ([] : List ByteArray) ([] : List (S77))) else (some (([] : List (S73)), false)))
theorem flatironref06_Line.mono_l : ∀ k, (∀ y0 y1 y2 y3 y4 y5, LeO (flatironref06_Line.l0 k y0 y1 y2 y3 y4 y5) (flatironref06_Line.l0 (k + 1) y0 y1 y2 y3 y4 y5))
  | 0 => fun _ _ _ _ _ _ r h => by simp [flatironref06_Line.l0] at h
  | k + 1 => by
    have ih0 := flatironref06_Line.mono_l k
    · intro y0 y1 y2 y3 y4 y5
      unfold flatironref06_Line.l0
      repeat' first
      | (with_reducible exact ih0 _ _ _ _ _ _)
      | (with_reducible exact flatironref05_Tokens.mono _ _)
      | (with_reducible exact LeO.refl _)
      | (with_reducible exact LeO.none _)
      | (with_reducible refine LeO.ite ?_ ?_)
      | (with_reducible refine LeO.bind ?_ (fun _ => ?_))
      | exact ih0 _ _ _ _ _ _
      | exact flatironref05_Tokens.mono _ _
      | exact LeO.none _
      | refine LeO.ite ?_ ?_
      | refine LeO.bind ?_ (fun _ => ?_)
theorem flatironref06_Line.mono : ∀ a0 k, LeO (flatironref06_Line.f k a0) (flatironref06_Line.f (k + 1) a0) := by
  intro a0 k
  have ih0 := flatironref06_Line.mono_l k
  unfold flatironref06_Line.f
  repeat' first
      | (with_reducible exact ih0 _ _ _ _ _ _)
      | (with_reducible exact flatironref05_Tokens.mono _ _)
      | (with_reducible exact LeO.refl _)
      | (with_reducible exact LeO.none _)
      | (with_reducible refine LeO.ite ?_ ?_)
      | (with_reducible refine LeO.bind ?_ (fun _ => ?_))
      | exact ih0 _ _ _ _ _ _
      | exact flatironref05_Tokens.mono _ _
      | exact LeO.none _
      | refine LeO.ite ?_ ?_
      | refine LeO.bind ?_ (fun _ => ?_)
def flatironref06_Line.T15 : Bool × List (List Nat × List Nat) := (true, [([], []), ([0], [0]), ([], []), ([], []), ([2, 3], [2, 3]), ([4], [4]), ([5], [5]), ([6], [6]), ([1, 7], [1, 7]), ([0, 1, 2, 3, 4, 5, 6, 7, 8], []), ([9, 8, 8, 0, 1, 2, 3, 4, 5, 6, 7, 8], [8, 9])])
def flatironref06_Line.B15 : List Nat := [0, 1, 0, 0, 12, 28, 60, 124, 255, 511, 1023]
theorem flatironref06_Line.tab15 : rtab .any (opsOf Tryd.f8 15) = flatironref06_Line.T15 := by kernel_rfl
theorem flatironref06_Line.bits15 : waitsOk flatironref06_Line.T15.2 flatironref06_Line.B15 = true := by kernel_rfl
def flatironref06_Line.T19 : Bool × List (List Nat × List Nat) := (true, [([], []), ([0], [0]), ([], []), ([], []), ([], []), ([4], [4]), ([3, 5], [3, 5]), ([6], [6]), ([7], [7]), ([2, 8], [2, 8]), ([9], [9]), ([1, 10], [1, 10]), ([0, 1, 2, 3, 4, 5, 6, 7, 8, 9, 10, 11], []), ([12, 11, 11, 0, 1, 2, 3, 4, 5, 6, 7, 8, 9, 10, 11], [11, 12])])
def flatironref06_Line.B19 : List Nat := [0, 1, 0, 0, 0, 16, 56, 120, 248, 508, 1020, 2047, 4095, 8191]
theorem flatironref06_Line.tab19 : rtab .any (opsOf Tryd.f8 19) = flatironref06_Line.T19 := by kernel_rfl
theorem flatironref06_Line.bits19 : waitsOk flatironref06_Line.T19.2 flatironref06_Line.B19 = true := by kernel_rfl
def flatironref06_Line.T23 : Bool × List (List Nat × List Nat) := (true, [([], []), ([], []), ([1], [1]), ([2], [2]), ([3], [3]), ([4], [4]), ([5], [5]), ([6, 5], [5, 6]), ([7, 5], [5, 7]), ([5, 8], [5, 8]), ([0, 5, 0], [0]), ([9, 10, 0, 1, 2, 3, 4, 5, 6, 7, 8, 9, 10], [9])])
def flatironref06_Line.B23 : List Nat := [0, 0, 2, 6, 14, 30, 62, 126, 254, 510, 63, 2047]
theorem flatironref06_Line.tab23 : rtab .any (opsOf Tryd.f8 23) = flatironref06_Line.T23 := by kernel_rfl
theorem flatironref06_Line.bits23 : waitsOk flatironref06_Line.T23.2 flatironref06_Line.B23 = true := by kernel_rfl
set_option maxHeartbeats 8000000 in
set_option maxRecDepth 100000 in
theorem flatironref06_Line.calls (k : Nat) (a0 : ByteArray) (r1 : List (S73)) (r2 : Bool) (w : World) (h : flatironref06_Line.f k a0 = some (r1, r2)) :
    Calls Tryd.prog 8 #[.string a0] w fun e w' => ∃ v0_ : Value, e = .returned (.tuple #[v0_, .bool r2]) ∧ Kd.S k73 73 w' w.heap.size (fun _ => True) v0_ r1 ∧ Below w.heap.size w w' := by
  have hu73 := Tryd.underlying73
  have hu77 := Tryd.underlying77
  have HB := Aside0.mk (Below.refl w.heap.size w)
  have H : ((flatironref05_Tokens.f k a0).bind fun bt174 => (if bt174.2 = true then (flatironref06_Line.l0 k bt174.1 ([] : List (S73)) 0 1 ([] : List ByteArray) ([] : List (S77))) else (some (([] : List (S73)), false)))) = some (r1, r2) := h
  clear h
  replace H := Option.bind_eq_some_iff.mp H
  obtain ⟨⟨t174, t175⟩, A20, H⟩ := H
  replace H : (if t175 = true then (flatironref06_Line.l0 k t174 ([] : List (S73)) 0 1 ([] : List ByteArray) ([] : List (S77))) else (some (([] : List (S73)), false))) = some (r1, r2) := H
  have A2 := Aside0.mk A20
  clear A20
  by_cases c3 : t175 = true
  · subst c3
    have H1 : (flatironref06_Line.l0 k t174 ([] : List (S73)) 0 1 ([] : List ByteArray) ([] : List (S77))) = some (r1, r2) := by rw [if_pos rfl] at H; exact H
    clear H
    have H := H1
    clear H1
    have H' := Aside0.mk H
    clear H
    go_enter Tryd.func8, Tryd.ntmps8
    go_wp2_with (first | ((with_reducible refine gate_callee (f := 22) rfl ?_); refine goesL_ (some 12) rfl rfl Tryd.func22 (by kernel_rfl) rfl #[.string a0] rfl (by (try simp only [List.map_toArray, List.map_cons, List.map_nil]); first | done | rfl | (simp only [List.length_drop, List.length_take]; rfl)) ?_; (with_reducible refine (flatironref05_Tokens.calls k a0 t174 true _ A2.out).mono ?_); rintro e w4 ⟨v176, rfl, ho0, hb⟩; refine ⟨_, rfl, ?_⟩; have n0_ := Aside0.mk (Kd.R_lower ho0 (below_size (by repeat (first | (with_reducible first | exact HB.out | apply below_alloc | apply pw_below_drewN | apply below_drew1) | exact HB.out)))); have n1_ := Aside0.mk (below_step (by repeat (first | (with_reducible first | exact HB.out | apply below_alloc | apply pw_below_drewN | apply below_drew1) | exact HB.out)) hb); clear HB; have HO177 := n0_; have HB := n1_; clear n0_ n1_; (try clear hb); (try clear hb2); (try clear hk); (try clear hi); (try clear ho0)) | ((with_reducible refine gate_dst (N := 7) rfl ?_); refine box_event ?hg (N := 7) ?hd (cs := #[.int .i64 0, .slice none 0 0, .slice none 0 0]) (t := 73) ?hr ?_; (case hd => rfl); (case hg => rfl); (case hr => first | (go_simp; done) | (go_simp; rfl)); intro gb178 hg w5 hbox hb; have n0_ := Aside0.mk (Kd.R_below (by (with_reducible repeat (first | apply Kd.R_alloc | apply Kd.R_drewN | apply Kd.R_drew)); (first | exact HO177.out | (first | refine Kd.R_mono HO177.out (fun _ hk => ?_) | refine Kd.S_mono HO177.out (fun _ hk => ?_) | refine Kd.Q_mono HO177.out (fun _ hk => ?_)); simp only [ownBlock_slice] at hk ⊢; exact hk)) hb); have n1_ := Aside0.mk (below_step (by repeat (first | (with_reducible first | exact HB.out | apply below_alloc | apply pw_below_drewN | apply below_drew1) | exact HB.out)) hb); have n2_ := Aside0.mk (hbox); have n3_ := Aside0.mk ((by rw [hg]; exact (below_size (by repeat (first | (with_reducible first | exact HB.out | apply below_alloc | apply pw_below_drewN | apply below_drew1) | exact HB.out))) : w.heap.size ≤ gb178)); have n4_ := Aside0.mk ((by rw [hg]; exact (below_size (by repeat (first | (with_reducible first | exact HB.out | apply below_alloc | apply pw_below_drewN | apply below_drew1) | exact HB.out))) : w.heap.size ≤ gb178)); clear HO177; clear HB; have HO177 := n0_; have HB := n1_; have BK178 := n2_; have GW178 := n3_; have GE178 := n4_; clear n0_ n1_ n2_ n3_ n4_; clear hb hbox hg; have hcz6_0 : w5.cell? ⟨gb178, 0, none⟩ = some (.int .i64 0) := (blk_cell BK178.out 0).trans rfl; have hcz6_1 : w5.cell? ⟨gb178, 1, none⟩ = some (.slice none 0 0) := (blk_cell BK178.out 1).trans rfl; have hcz6_2 : w5.cell? ⟨gb178, 2, none⟩ = some (.slice none 0 0) := (blk_cell BK178.out 2).trans rfl; have hfz6_0 := blk_frozen BK178.out 0; have hfz6_1 := blk_frozen BK178.out 1; have hfz6_2 := blk_frozen BK178.out 2))
    go_loopg [6, 8] k (fun kq v6 v8 w' => ∃ (x6_1 : List (S73)) (x8_1 : Int) (x179000_1 : Int) (x179001_1 : List ByteArray) (x179002_1 : List (S77)) (u179001 : Value) (u179002 : Value), v8 = .int .i64 x8_1 ∧ Aside0 (flatironref06_Line.l0 kq t174 x6_1 x8_1 x179000_1 x179001_1 x179002_1 = some (r1, r2)) ∧ Aside0 (kq ≤ k) ∧ Aside0 (Kd.R k75 75 w' w.heap.size (fun _ => True) v176 t174) ∧ Aside0 (Kd.S k73 73 w' w.heap.size (fun k_ => some k_ ≠ (u179001 : Value).ownBlock ∧ some k_ ≠ (u179002 : Value).ownBlock ∧ k_ ≠ gb178) v6 x6_1) ∧ Aside0 (Kd.R Kd.string 9 w' w.heap.size (fun _ => True) u179001 x179001_1) ∧ Aside0 (Kd.R k77 77 w' w.heap.size (fun _ => True) u179002 x179002_1) ∧ Aside0 (w'.heap[gb178]? = some (.cells #[.int .i64 x179000_1, u179001, u179002] 73 (0, 0))) ∧ Aside0 (Below w.heap.size w w'))
    case atStart => exact ⟨(([] : List (S73))), (0), (1), (([] : List ByteArray)), (([] : List (S77))), (.slice none 0 0), (.slice none 0 0), (by first | rfl | (simp; done) | (simp [*]; done)), H', ⟨Nat.le_refl _⟩, ⟨by (with_reducible repeat (first | apply Kd.R_alloc | apply Kd.R_drewN | apply Kd.R_drew)); exact Kd.R_mono (Kd.R_far (p := ⟨gb178, 2, none⟩) (Kd.R_far (p := ⟨gb178, 1, none⟩) (Kd.R_far (p := ⟨gb178, 0, none⟩) (Kd.R_types HO177.out BK178.out (by decide)) (fun _ hk => hk.2) (.int .i64 1)) (fun _ hk => hk.2) (.slice none 0 0)) (fun _ hk => hk.2) (.slice none 0 0)) (fun _ hk => trivial)⟩, ⟨by first | exact Kd.S_nil _ _ _ _ _ | exact Kd.N_nil _ _ _ _ _ | exact Kd.V_nil _ _ _ _ _ | exact Kd.Q_nil _ _ _ _ _ | exact Kd.R_nil _ _ _ _ _⟩, ⟨by first | exact Kd.R_nil _ _ _ _ _ | exact Kd.N_nil _ _ _ _ _ | exact Kd.V_nil _ _ _ _ _ | exact Kd.Q_nil _ _ _ _ _ | exact Kd.S_nil _ _ _ _ _⟩, ⟨by first | exact Kd.R_nil _ _ _ _ _ | exact Kd.N_nil _ _ _ _ _ | exact Kd.V_nil _ _ _ _ _ | exact Kd.Q_nil _ _ _ _ _ | exact Kd.S_nil _ _ _ _ _⟩, ⟨by (with_reducible repeat (first | refine blk_drewN ?_ _ | refine blk_drew ?_ | refine blk_alloc ?_ _)); refine blk_put (cs := #[.int .i64 1, .slice none 0 0, .slice none 0 0]) ?_ 2 _ rfl; (with_reducible repeat (first | refine blk_drewN ?_ _ | refine blk_drew ?_ | refine blk_alloc ?_ _)); refine blk_put (cs := #[.int .i64 1, .slice none 0 0, .slice none 0 0]) ?_ 1 _ rfl; (with_reducible repeat (first | refine blk_drewN ?_ _ | refine blk_drew ?_ | refine blk_alloc ?_ _)); refine blk_put (cs := #[.int .i64 0, .slice none 0 0, .slice none 0 0]) ?_ 0 _ rfl; (with_reducible repeat (first | refine blk_drewN ?_ _ | refine blk_drew ?_ | refine blk_alloc ?_ _)); exact BK178.out⟩, ⟨by repeat (first | (with_reducible first | exact HB.out | apply below_alloc | apply pw_below_drewN | apply below_drew1 | refine below_set ?_ GE178.out) | exact HB.out)⟩⟩
    case round =>
      clear H'
      try clear c2
      try clear p2
      try clear c3
      try clear hcz6_0
      try clear hcz6_1
      try clear hcz6_2
      try clear hfz6_0
      try clear hfz6_1
      try clear hfz6_2
      obtain ⟨x6_1, x8_1, x179000_1, x179001_1, x179002_1, u179001, u179002, rfl, HA, HK1, HO_4, HO_6, HO_179001, HO_179002, BK178, HB⟩ := hrel
      cases gk with
      | zero => exact absurd HA.out (by simp [flatironref06_Line.l0])
      | succ k1 =>
        have H := HA.out
        clear HA
        simp only [flatironref06_Line.l0] at H
        by_cases c7 : x8_1 < (t174.length : Int)
        · rw [if_pos c7] at H
          have c7b0 : decide (x8_1 < (t174.length : Int)) = true := decide_eq_true c7
          clear c7
          by_cases c8 : 0 ≤ x8_1
          · rw [if_pos c8] at H
            have c8b0 : decide (0 ≤ x8_1) = true := decide_eq_true c8
            clear c8
            by_cases c9 : ((rd_T75 t174 x8_1).f0) = 0
            · rw [if_pos c9] at H
              have c9b0 : (((rd_T75 t174 x8_1).f0) == 0) = true := beq_iff_eq.mpr c9
              have c9b1 : (((rd_T75 t174 x8_1).f0) != 0) = false := bne_eq_false_iff_eq.mpr c9
              clear c9
              by_cases c10 : x179001_1.length < 8796093022208
              · rw [if_pos c10] at H
                have LMc10 := Aside0.mk c10
                clear c10
                obtain ⟨y184, hy184⟩ : ∃ y_ : List ByteArray, y_ = (x179001_1 ++ [(rd_T75 t174 x8_1).f1]) := ⟨_, rfl⟩
                replace H : (flatironref06_Line.l0 k1 t174 x6_1 (wrap64 (x8_1 + 1)) x179000_1 y184 x179002_1) = some (r1, r2) := by first | (rw [hy184]; with_reducible exact H) | (have H2_ := (Option.bind_some _ _).symm.trans H; rw [hy184]; with_reducible exact H2_) | (have H2_ := (Option.bind_some _ _).symm.trans H; with_reducible exact H2_) | with_reducible exact H | (rw [hy184]; exact H) | exact H
                have Ny184 := Aside0.mk hy184
                clear hy184
                have H' := Aside0.mk H
                clear H
                obtain ⟨Ao11, co11, eo11⟩ := Kd.R_slice HO_4.out
                subst eo11
                have p182 : 0 ≤ (x8_1 : Int) := of_decide_eq_true (by first | (with_reducible assumption) | assumption)
                have q182 : x8_1 < (t174.length : Int) := of_decide_eq_true (by first | (with_reducible assumption) | assumption)
                obtain ⟨ad182, e182, hx182_0, hx182_1⟩ := at_T75 (Kd.R_reads' HO_4.out).2.2 x8_1 p182 q182
                cases e182
                replace p182 := eq_true p182
                replace q182 := eq_true q182
                try go_wp2
                have n0_ := Aside0.mk (Kd.R_drew HO_4.out)
                have n1_ := Aside0.mk (Kd.S_drew HO_6.out)
                have n2_ := Aside0.mk (Kd.R_drew HO_179001.out)
                have n3_ := Aside0.mk (Kd.R_drew HO_179002.out)
                have n4_ := Aside0.mk (blk_drew BK178.out)
                have n5_ := Aside0.mk (below_drew1 HB.out)
                clear HO_4
                clear HO_6
                clear HO_179001
                clear HO_179002
                clear BK178
                clear HB
                have HO_4 := n0_
                have HO_6 := n1_
                have HO_179001 := n2_
                have HO_179002 := n3_
                have BK178 := n4_
                have HB := n5_
                clear n0_ n1_ n2_ n3_ n4_ n5_
                have p183 : 0 ≤ (x8_1 : Int) := of_decide_eq_true (by first | (with_reducible assumption) | assumption)
                have q183 : x8_1 < (t174.length : Int) := of_decide_eq_true (by first | (with_reducible assumption) | assumption)
                obtain ⟨ad183, e183, hx183_0, hx183_1⟩ := at_T75 (Kd.R_reads' HO_4.out).2.2 x8_1 p183 q183
                obtain rfl : ad182 = ad183 := (by injection e183)
                replace p183 := eq_true p183
                replace q183 := eq_true q183
                refine start_ (n := 11) (S := fun w' => w'.cell? ⟨gb178, 0, none⟩ = some (.int .i64 x179000_1) ∧ w'.cell? ⟨gb178, 1, none⟩ = some (u179001) ∧ w'.cell? ⟨gb178, 2, none⟩ = some (u179002) ∧ w'.cell? (ad182.add ((x8_1).toNat * 2)) = some (.int .i64 ((rd_T75 t174 x8_1).f0)) ∧ w'.cell? ⟨(ad182.add ((x8_1).toNat * 2)).block, (ad182.add ((x8_1).toNat * 2)).off + 1, none⟩ = some (.string ((rd_T75 t174 x8_1).f1))) (ds := [8, 10]) #[false, false, false, false, false, false, false, false, false, false, false] (by kernel_rfl) rfl rfl ⟨(blk_cell BK178.out 0).trans rfl, (blk_cell BK178.out 1).trans rfl, (blk_cell BK178.out 2).trans rfl, hx183_0, hx183_1⟩ (fun hHeld => ?_); refine with_tabW flatironref06_Line.tab15 flatironref06_Line.bits15 (fun HT_ HW_ => ?_)
                generalize wr.drew = w12 at HO_4 HO_6 HO_179001 HO_179002 BK178 HB hx183_0 hx183_1 hHeld ⊢
                refine pure_ (i := 0) (N := some 42) (v := ?_) (a' := ?_) #[true, false, false, false, false, false, false, false, false, false, false] rfl rfl (any_of HT_.out (by kernel_rfl)) (fun _ _ _ h => h) (Or.inl ⟨by rfl, ?_⟩) ?_ ?_
                rotate_left
                · intro w'
                  go_simp
                  with_reducible rfl
                rotate_left
                · simp only [Act.put, List.setIfInBounds_toArray, List.set_cons_zero, List.set_cons_succ, i64_w, i32_w]
                  rfl
                refine pure_ (i := 2) (N := some 44) (v := ?_) (a' := ?_) #[true, false, true, false, false, false, false, false, false, false, false] rfl rfl (any_of HT_.out (by kernel_rfl)) (fun _ _ _ h => h) (Or.inl ⟨by rfl, ?_⟩) ?_ ?_
                rotate_left
                · intro w'
                  go_simp
                  with_reducible rfl
                rotate_left
                · simp only [Act.put, List.setIfInBounds_toArray, List.set_cons_zero, List.set_cons_succ, i64_w, i32_w]
                  rfl
                refine pure_ (i := 3) (N := some 45) (v := ?_) (a' := ?_) #[true, false, true, true, false, false, false, false, false, false, false] rfl rfl (any_of HT_.out (by kernel_rfl)) (fun _ _ _ h => h) (Or.inl ⟨by rfl, ?_⟩) ?_ ?_
                rotate_left
                · intro w'
                  go_simp
                  with_reducible rfl
                rotate_left
                · simp only [Act.put, List.setIfInBounds_toArray, List.set_cons_zero, List.set_cons_succ, i64_w, i32_w]
                  rfl
                refine pure_ (i := 4) (N := some 46) (v := ?_) (a' := ?_) #[true, false, true, true, true, false, false, false, false, false, false] rfl rfl (any_of HT_.out (by kernel_rfl)) (fun _ _ _ h => h) (Or.inl ⟨by rfl, ?_⟩) ?_ ?_
                rotate_left
                · intro w'
                  go_simp
                  with_reducible rfl
                rotate_left
                · simp only [Act.put, List.setIfInBounds_toArray, List.set_cons_zero, List.set_cons_succ, i64_w, i32_w]
                  rfl
                refine pure_ (i := 5) (N := some 47) (v := ?_) (a' := ?_) #[true, false, true, true, true, true, false, false, false, false, false] rfl rfl (any_of HT_.out (by kernel_rfl)) (fun _ _ _ h => h) (Or.inl ⟨by rfl, ?_⟩) ?_ ?_
                rotate_left
                · intro w'
                  go_simp
                  with_reducible rfl
                rotate_left
                · simp only [Act.put, List.setIfInBounds_toArray, List.set_cons_zero, List.set_cons_succ, i64_w, i32_w]
                  rfl
                refine take_ (i := 1) (N := some 43) (v := ?_) (a' := ?_) #[true, true, true, true, true, true, false, false, false, false, false] rfl rfl (take_ofW HT_.out HW_.out (by kernel_rfl)) (fun _ _ _ h => h) (Or.inl ⟨by rfl, ?_⟩) hHeld ?_ ?_
                rotate_left
                · rintro w' ⟨s0, s1, s2, s3, s4⟩
                  go_simp
                  with_reducible rfl
                rotate_left
                · simp only [Act.put, List.setIfInBounds_toArray, List.set_cons_zero, List.set_cons_succ, i64_w, i32_w]
                  rfl
                refine take_ (i := 6) (N := some 48) (v := ?_) (a' := ?_) #[true, true, true, true, true, true, true, false, false, false, false] rfl rfl (take_ofW HT_.out HW_.out (by kernel_rfl)) (fun _ _ _ h => h) (Or.inl ⟨by rfl, ?_⟩) hHeld ?_ ?_
                rotate_left
                · rintro w' ⟨s0, s1, s2, s3, s4⟩
                  go_simp
                  with_reducible rfl
                rotate_left
                · simp only [Act.put, List.setIfInBounds_toArray, List.set_cons_zero, List.set_cons_succ, i64_w, i32_w]
                  rfl
                refine one_ (i := 7) (N := some 49) #[true, true, true, true, true, true, true, true, false, false, false] rfl rfl (one_of HT_.out (by kernel_rfl)) (by decide) (fun K hK => ?_)
                refine value_ (w1 := ?_) (v := ?_) (by rfl) rfl ?_ ?_
                rotate_left 2
                · go_simp
                  constructor
                  · rfl
                  · rfl
                refine hK.out _ _ ⟨(blk_cell (blk_alloc BK178.out _) 0).trans rfl, (blk_cell (blk_alloc BK178.out _) 1).trans rfl, (blk_cell (blk_alloc BK178.out _) 2).trans rfl, (World.cell?_alloc_lt _ _ _ (World.block_lt_of_cell? _ _ (hHeld.2.2.2.1))).trans (hHeld.2.2.2.1), (World.cell?_alloc_lt _ _ _ (World.block_lt_of_cell? _ _ (hHeld.2.2.2.2))).trans (hHeld.2.2.2.2)⟩ (fun hHeld => ?_)
                clear hK K
                refine norm_ (a' := ?_) ?_ ?_
                rotate_left
                · show Act.put _ (some 49) _ = _
                  simp only [Act.put, List.setIfInBounds_toArray, List.set_cons_zero, List.set_cons_succ, i64_w, i32_w]
                  rfl
                refine last_ (i := 8) (N := some 50) #[true, true, true, true, true, true, true, true, true, false, false] rfl rfl (one_of HT_.out (by kernel_rfl)) (by decide) (fun K hK => ?_)
                refine Kd.R_append_step Kd.string (w0 := w) w.heap.size (by rfl) (.tmp 43) (.tmp 49) 37 9 (.string ⟨#[]⟩) 16 rfl Tryd.underlying37 info9 rfl (by decide) (by omega) u179001 x179001_1 ((rd_T75 t174 x8_1).f1) [.string ((rd_T75 t174 x8_1).f1)] (fun _ => True) (fun _ => False) rfl rfl ?aP (fun _ hk => hk.elim) ?aF ?aO ?aB ?aS ?aL ?_
                (case aP => exact rfl)
                (case aB => exact (by repeat (first | (with_reducible first | exact HB.out | apply below_alloc | apply pw_below_drewN | apply below_drew1 | refine below_set ?_ GE178.out) | exact HB.out)))
                (case aF => exact (fun _ _ => trivial))
                (case aO => exact (by (with_reducible repeat (first | apply Kd.R_alloc | apply Kd.R_drewN | apply Kd.R_drew)); (first | exact HO_179001.out | (first | refine Kd.R_mono HO_179001.out (fun _ hk => ?_) | refine Kd.S_mono HO_179001.out (fun _ hk => ?_) | refine Kd.Q_mono HO_179001.out (fun _ hk => ?_)); simp only [ownBlock_slice] at hk ⊢; exact hk)))
                (case aS => exact (below_size (by repeat (first | (with_reducible first | exact HB.out | apply below_alloc | apply pw_below_drewN | apply below_drew1 | refine below_set ?_ GE178.out) | exact HB.out))))
                (case aL => have := LMc10.out; omega)
                intro v185 w13 ho hb hg hat
                rw [← Ny184.out] at ho
                have n0_ := Aside0.mk (Kd.R_over' (by (with_reducible repeat (first | apply Kd.R_alloc | apply Kd.R_drewN | apply Kd.R_drew)); (first | exact HO_4.out | (first | refine Kd.R_mono HO_4.out (fun _ hk => ?_) | refine Kd.S_mono HO_4.out (fun _ hk => ?_) | refine Kd.Q_mono HO_4.out (fun _ hk => ?_)); simp only [ownBlock_slice] at hk ⊢; exact hk)) (Kd.R_typed (by (with_reducible repeat (first | apply Kd.R_alloc | apply Kd.R_drewN | apply Kd.R_drew)); (first | exact HO_179001.out | (first | refine Kd.R_mono HO_179001.out (fun _ hk => ?_) | refine Kd.S_mono HO_179001.out (fun _ hk => ?_) | refine Kd.Q_mono HO_179001.out (fun _ hk => ?_)); simp only [ownBlock_slice] at hk ⊢; exact hk))) (by decide) hg)
                have n1_ := Aside0.mk (Kd.S_after (ok := (fun k_ => some k_ ≠ (u179002 : Value).ownBlock ∧ k_ ≠ gb178)) (by (with_reducible repeat (first | apply Kd.S_alloc | apply Kd.S_drewN | apply Kd.S_drew)); exact Kd.S_mono HO_6.out (fun _ hk => ⟨⟨hk.2.1, hk.2.2⟩, hk.1⟩)) hg hat)
                have n2_ := Aside0.mk (Kd.R_over' (by (with_reducible repeat (first | apply Kd.R_alloc | apply Kd.R_drewN | apply Kd.R_drew)); (first | exact HO_179002.out | (first | refine Kd.R_mono HO_179002.out (fun _ hk => ?_) | refine Kd.S_mono HO_179002.out (fun _ hk => ?_) | refine Kd.Q_mono HO_179002.out (fun _ hk => ?_)); simp only [ownBlock_slice] at hk ⊢; exact hk)) (Kd.R_typed (by (with_reducible repeat (first | apply Kd.R_alloc | apply Kd.R_drewN | apply Kd.R_drew)); (first | exact HO_179001.out | (first | refine Kd.R_mono HO_179001.out (fun _ hk => ?_) | refine Kd.S_mono HO_179001.out (fun _ hk => ?_) | refine Kd.Q_mono HO_179001.out (fun _ hk => ?_)); simp only [ownBlock_slice] at hk ⊢; exact hk))) (by decide) hg)
                have n3_ := Aside0.mk (blk_grown (g := gb178) (o := .cells #[.int .i64 x179000_1, u179001, u179002] 73 (0, 0)) (by (with_reducible repeat (first | refine blk_drewN ?_ _ | refine blk_drew ?_ | refine blk_alloc ?_ _)); exact BK178.out) hg (Kd.R_ne HO_179001.out BK178.out (by decide)))
                have n4_ := Aside0.mk (hb)
                have n5_ := Aside0.mk (ho)
                clear HO_4
                clear HO_6
                clear HO_179002
                clear BK178
                clear HB
                clear HO_179001
                have HO_4 := n0_
                have HO_6 := n1_
                have HO_179002 := n2_
                have BK178 := n3_
                have HB := n4_
                have HO186 := n5_
                clear n0_ n1_ n2_ n3_ n4_ n5_
                clear ho hb hg hat
                obtain ⟨Ao14, co14, eo14⟩ := Kd.R_slice HO186.out
                (first | subst eo14 | (injection eo14 with f1_ f2_ f3_; have f4_ := f1_.symm; have f5_ := f3_.symm; clear f1_ f2_ f3_; subst f4_; subst f5_))
                refine hK.out _ _ ?_
                clear hK K
                refine norm_ (a' := ?_) ?_ ?_
                rotate_left
                · show Act.put _ (some 50) _ = _
                  simp only [Act.put, List.setIfInBounds_toArray, List.set_cons_zero, List.set_cons_succ, i64_w, i32_w]
                  rfl
                refine pure_ (i := 9) (N := some 51) (v := ?_) (a' := ?_) #[true, true, true, true, true, true, true, true, true, true, false] rfl rfl (any_of HT_.out (by kernel_rfl)) (fun _ _ _ h => h) (Or.inl ⟨by rfl, ?_⟩) ?_ ?_
                rotate_left
                · intro w'
                  go_simp
                  with_reducible rfl
                rotate_left
                · simp only [Act.put, List.setIfInBounds_toArray, List.set_cons_zero, List.set_cons_succ, i64_w, i32_w]
                  rfl
                refine last_ (i := 10) (N := none) #[true, true, true, true, true, true, true, true, true, true, true] rfl rfl (one_of HT_.out (by kernel_rfl)) (by decide) (fun K hK => ?_)
                have hs15 : w13.cell? ⟨gb178, 1, none⟩ = some (u179001) := (blk_cell BK178.out 1).trans rfl
                have hfs15 := blk_frozen BK178.out 1
                refine skip_ (w1 := ?_) (by rfl) rfl ?_ ?_
                rotate_left
                · go_simp
                  rfl
                refine hK.out _ _ ?_
                clear hK K
                refine done_ (done_of HT_.out (by kernel_rfl)) ?_
                try go_wp2
                go_roundg k1
                case measure => have := HK1.out; omega
                case rel => exact ⟨(x6_1), (wrap64 (x8_1 + 1)), (x179000_1), (y184), (x179002_1), (.slice Ao14 y184.length co14), (u179002), (by first | rfl | (simp; done) | (simp [*]; done)), H', ⟨by have := HK1.out; omega⟩, ⟨by (with_reducible repeat (first | apply Kd.R_alloc | apply Kd.R_drewN | apply Kd.R_drew)); exact Kd.R_mono (Kd.R_far (p := ⟨gb178, 1, none⟩) (Kd.R_types HO_4.out BK178.out (by decide)) (fun _ hk => hk.2) (.slice Ao14 y184.length co14)) (fun _ hk => trivial)⟩, ⟨by (with_reducible repeat (first | apply Kd.S_alloc | apply Kd.S_drewN | apply Kd.S_drew)); exact Kd.S_mono (Kd.S_far (p := ⟨gb178, 1, none⟩) (Kd.S_mono HO_6.out (fun k_ hk => (⟨hk, hk.1.2⟩ : _ ∧ k_ ≠ gb178))) (fun _ hk => hk.2) (.slice Ao14 y184.length co14)) (fun _ hk => ⟨hk.1.2, ⟨hk.1.1.1, hk.1.1.2⟩⟩)⟩, ⟨by (with_reducible repeat (first | apply Kd.R_alloc | apply Kd.R_drewN | apply Kd.R_drew)); exact Kd.R_mono (Kd.R_far (p := ⟨gb178, 1, none⟩) (Kd.R_types HO186.out BK178.out (by decide)) (fun _ hk => hk.2) (.slice Ao14 y184.length co14)) (fun _ hk => trivial)⟩, ⟨by (with_reducible repeat (first | apply Kd.R_alloc | apply Kd.R_drewN | apply Kd.R_drew)); exact Kd.R_mono (Kd.R_far (p := ⟨gb178, 1, none⟩) (Kd.R_types HO_179002.out BK178.out (by decide)) (fun _ hk => hk.2) (.slice Ao14 y184.length co14)) (fun _ hk => trivial)⟩, ⟨by (with_reducible repeat (first | refine blk_drewN ?_ _ | refine blk_drew ?_ | refine blk_alloc ?_ _)); refine blk_put (cs := #[.int .i64 x179000_1, u179001, u179002]) ?_ 1 _ rfl; (with_reducible repeat (first | refine blk_drewN ?_ _ | refine blk_drew ?_ | refine blk_alloc ?_ _)); exact BK178.out⟩, ⟨by repeat (first | (with_reducible first | exact HB.out | apply below_alloc | apply pw_below_drewN | apply below_drew1 | refine below_set ?_ GE178.out) | exact HB.out)⟩⟩
              · rw [if_neg c10] at H
                exact absurd H (by simp)
            · rw [if_neg c9] at H
              have c9b0 : (((rd_T75 t174 x8_1).f0) == 0) = false := beq_eq_false_iff_ne.mpr c9
              have c9b1 : (((rd_T75 t174 x8_1).f0) != 0) = true := bne_iff_ne.mpr c9
              by_cases c16 : ((rd_T75 t174 x8_1).f0) ≥ 4
              · rw [if_pos c16] at H
                have c16b0 : decide (4 ≤ ((rd_T75 t174 x8_1).f0)) = true := decide_eq_true c16
                clear c16
                by_cases c17 : (wrap64 (x8_1 + 1)) ≥ (t174.length : Int)
                · rw [if_pos c17] at H
                  have c17b0 : decide ((t174.length : Int) ≤ (wrap64 (x8_1 + 1))) = true := decide_eq_true c17
                  clear c17
                  simp only [Option.some.injEq, Prod.mk.injEq] at H
                  obtain ⟨rfl, rfl⟩ := H
                  obtain ⟨Ao18, co18, eo18⟩ := Kd.R_slice HO_4.out
                  subst eo18
                  have p182 : 0 ≤ (x8_1 : Int) := of_decide_eq_true (by first | (with_reducible assumption) | assumption)
                  have q182 : x8_1 < (t174.length : Int) := of_decide_eq_true (by first | (with_reducible assumption) | assumption)
                  obtain ⟨ad182, e182, hx182_0, hx182_1⟩ := at_T75 (Kd.R_reads' HO_4.out).2.2 x8_1 p182 q182
                  cases e182
                  replace p182 := eq_true p182
                  replace q182 := eq_true q182
                  go_wp2
                  go_ret2
                  exact ⟨_, by first | rfl | (simp [errW_none, errW_some] <;> rfl) | (simp [*, errW_none, errW_some] <;> rfl), by first | exact Kd.S_nil _ _ _ _ _ | exact Kd.N_nil _ _ _ _ _ | exact Kd.V_nil _ _ _ _ _ | exact Kd.Q_nil _ _ _ _ _ | exact Kd.R_nil _ _ _ _ _, by repeat (first | (with_reducible first | exact HB.out | apply below_alloc | apply pw_below_drewN | apply below_drew1 | refine below_set ?_ GE178.out) | exact HB.out)⟩
                · rw [if_neg c17] at H
                  have c17b0 : decide ((t174.length : Int) ≤ (wrap64 (x8_1 + 1))) = false := decide_eq_false c17
                  clear c17
                  obtain ⟨ji19, hji19⟩ : ∃ j_ : Int, (wrap64 (x8_1 + 1)) = j_ := ⟨_, rfl⟩
                  replace H : (if 0 ≤ (ji19) then (if (ji19) < (t174.length : Int) then (if ((rd_T75 t174 (ji19)).f0) = 0 then (if x179002_1.length < 5864062014805 then (flatironref06_Line.l0 k1 t174 x6_1 (wrap64 ((ji19) + 1)) x179000_1 x179001_1 (x179002_1 ++ [(⟨(rd_T75 t174 x8_1).f0, (rd_T75 t174 (ji19)).f1⟩ : S77)])) else (none)) else (some (([] : List (S73)), false))) else (none)) else (none)) = some (r1, r2) := by first | (rw [hji19] at H; exact H) | (simp only [hji19] at H ⊢; exact H)
                  (try rw [hji19] at c17b0)
                  have hji19w : (IntKind.i64.wrap (x8_1 + 1)) = ji19 := (i64_w _).trans hji19
                  by_cases c20 : 0 ≤ (ji19)
                  · rw [if_pos c20] at H
                    have c20b0 : decide (0 ≤ (ji19)) = true := decide_eq_true c20
                    clear c20
                    by_cases c21 : (ji19) < (t174.length : Int)
                    · rw [if_pos c21] at H
                      have c21b0 : decide ((ji19) < (t174.length : Int)) = true := decide_eq_true c21
                      clear c21
                      by_cases c22 : ((rd_T75 t174 (ji19)).f0) = 0
                      · rw [if_pos c22] at H
                        have c22b0 : (((rd_T75 t174 (ji19)).f0) == 0) = true := beq_iff_eq.mpr c22
                        have c22b1 : (((rd_T75 t174 (ji19)).f0) != 0) = false := bne_eq_false_iff_eq.mpr c22
                        clear c22
                        by_cases c23 : x179002_1.length < 5864062014805
                        · rw [if_pos c23] at H
                          have LMc23 := Aside0.mk c23
                          clear c23
                          obtain ⟨y189, hy189⟩ : ∃ y_ : List (S77), y_ = (x179002_1 ++ [(⟨(rd_T75 t174 x8_1).f0, (rd_T75 t174 (ji19)).f1⟩ : S77)]) := ⟨_, rfl⟩
                          replace H : (flatironref06_Line.l0 k1 t174 x6_1 (wrap64 ((ji19) + 1)) x179000_1 x179001_1 y189) = some (r1, r2) := by first | (rw [hy189]; with_reducible exact H) | (have H2_ := (Option.bind_some _ _).symm.trans H; rw [hy189]; with_reducible exact H2_) | (have H2_ := (Option.bind_some _ _).symm.trans H; with_reducible exact H2_) | with_reducible exact H | (rw [hy189]; exact H) | exact H
                          have Ny189 := Aside0.mk hy189
                          clear hy189
                          have H' := Aside0.mk H
                          clear H
                          obtain ⟨Ao24, co24, eo24⟩ := Kd.R_slice HO_4.out
                          subst eo24
                          have p182 : 0 ≤ (x8_1 : Int) := of_decide_eq_true (by first | (with_reducible assumption) | assumption)
                          have q182 : x8_1 < (t174.length : Int) := of_decide_eq_true (by first | (with_reducible assumption) | assumption)
                          obtain ⟨ad182, e182, hx182_0, hx182_1⟩ := at_T75 (Kd.R_reads' HO_4.out).2.2 x8_1 p182 q182
                          cases e182
                          replace p182 := eq_true p182
                          replace q182 := eq_true q182
                          have p187 : 0 ≤ ((ji19) : Int) := of_decide_eq_true (by first | (with_reducible assumption) | assumption)
                          have q187 : (ji19) < (t174.length : Int) := of_decide_eq_true (by first | (with_reducible assumption) | assumption)
                          obtain ⟨ad187, e187, hx187_0, hx187_1⟩ := at_T75 (Kd.R_reads' HO_4.out).2.2 (ji19) p187 q187
                          obtain rfl : ad182 = ad187 := (by injection e187)
                          replace p187 := eq_true p187
                          replace q187 := eq_true q187
                          try go_wp2
                          have n0_ := Aside0.mk (Kd.R_drew HO_4.out)
                          have n1_ := Aside0.mk (Kd.S_drew HO_6.out)
                          have n2_ := Aside0.mk (Kd.R_drew HO_179001.out)
                          have n3_ := Aside0.mk (Kd.R_drew HO_179002.out)
                          have n4_ := Aside0.mk (blk_drew BK178.out)
                          have n5_ := Aside0.mk (below_drew1 HB.out)
                          clear HO_4
                          clear HO_6
                          clear HO_179001
                          clear HO_179002
                          clear BK178
                          clear HB
                          have HO_4 := n0_
                          have HO_6 := n1_
                          have HO_179001 := n2_
                          have HO_179002 := n3_
                          have BK178 := n4_
                          have HB := n5_
                          clear n0_ n1_ n2_ n3_ n4_ n5_
                          have p188 : 0 ≤ ((ji19) : Int) := of_decide_eq_true (by first | (with_reducible assumption) | assumption)
                          have q188 : (ji19) < (t174.length : Int) := of_decide_eq_true (by first | (with_reducible assumption) | assumption)
                          obtain ⟨ad188, e188, hx188_0, hx188_1⟩ := at_T75 (Kd.R_reads' HO_4.out).2.2 (ji19) p188 q188
                          obtain rfl : ad182 = ad188 := (by injection e188)
                          replace p188 := eq_true p188
                          replace q188 := eq_true q188
                          refine start_ (n := 14) (S := fun w' => w'.cell? ⟨gb178, 0, none⟩ = some (.int .i64 x179000_1) ∧ w'.cell? ⟨gb178, 1, none⟩ = some (u179001) ∧ w'.cell? ⟨gb178, 2, none⟩ = some (u179002) ∧ w'.cell? (ad182.add (((ji19)).toNat * 2)) = some (.int .i64 ((rd_T75 t174 (ji19)).f0)) ∧ w'.cell? ⟨(ad182.add (((ji19)).toNat * 2)).block, (ad182.add (((ji19)).toNat * 2)).off + 1, none⟩ = some (.string ((rd_T75 t174 (ji19)).f1))) (ds := [11, 13]) #[false, false, false, false, false, false, false, false, false, false, false, false, false, false] (by kernel_rfl) rfl rfl ⟨(blk_cell BK178.out 0).trans rfl, (blk_cell BK178.out 1).trans rfl, (blk_cell BK178.out 2).trans rfl, hx188_0, hx188_1⟩ (fun hHeld => ?_); refine with_tabW flatironref06_Line.tab19 flatironref06_Line.bits19 (fun HT_ HW_ => ?_)
                          generalize wr.drew = w25 at HO_4 HO_6 HO_179001 HO_179002 BK178 HB hx188_0 hx188_1 hHeld ⊢
                          refine pure_ (i := 0) (N := some 69) (v := ?_) (a' := ?_) #[true, false, false, false, false, false, false, false, false, false, false, false, false, false] rfl rfl (any_of HT_.out (by kernel_rfl)) (fun _ _ _ h => h) (Or.inl ⟨by rfl, ?_⟩) ?_ ?_
                          rotate_left
                          · intro w'
                            go_simp
                            with_reducible rfl
                          rotate_left
                          · simp only [Act.put, List.setIfInBounds_toArray, List.set_cons_zero, List.set_cons_succ, i64_w, i32_w]
                            rfl
                          refine pure_ (i := 2) (N := some 71) (v := ?_) (a' := ?_) #[true, false, true, false, false, false, false, false, false, false, false, false, false, false] rfl rfl (any_of HT_.out (by kernel_rfl)) (fun _ _ _ h => h) (Or.inl ⟨by rfl, ?_⟩) ?_ ?_
                          rotate_left
                          · intro w'
                            go_simp
                            with_reducible rfl
                          rotate_left
                          · simp only [Act.put, List.setIfInBounds_toArray, List.set_cons_zero, List.set_cons_succ, i64_w, i32_w]
                            rfl
                          refine pure_ (i := 3) (N := some 72) (v := ?_) (a' := ?_) #[true, false, true, true, false, false, false, false, false, false, false, false, false, false] rfl rfl (any_of HT_.out (by kernel_rfl)) (fun _ _ _ h => h) (Or.inl ⟨by rfl, ?_⟩) ?_ ?_
                          rotate_left
                          · intro w'
                            go_simp
                            with_reducible rfl
                          rotate_left
                          · simp only [Act.put, List.setIfInBounds_toArray, List.set_cons_zero, List.set_cons_succ, i64_w, i32_w]
                            rfl
                          refine pure_ (i := 4) (N := some 73) (v := ?_) (a' := ?_) #[true, false, true, true, true, false, false, false, false, false, false, false, false, false] rfl rfl (any_of HT_.out (by kernel_rfl)) (fun _ _ _ h => h) (Or.inl ⟨by rfl, ?_⟩) ?_ ?_
                          rotate_left
                          · intro w'
                            go_simp
                            with_reducible rfl
                          rotate_left
                          · simp only [Act.put, List.setIfInBounds_toArray, List.set_cons_zero, List.set_cons_succ, i64_w, i32_w]
                            rfl
                          refine pure_ (i := 5) (N := some 74) (v := ?_) (a' := ?_) #[true, false, true, true, true, true, false, false, false, false, false, false, false, false] rfl rfl (any_of HT_.out (by kernel_rfl)) (fun _ _ _ h => h) (Or.inl ⟨by rfl, ?_⟩) ?_ ?_
                          rotate_left
                          · intro w'
                            go_simp
                            with_reducible rfl
                          rotate_left
                          · simp only [Act.put, List.setIfInBounds_toArray, List.set_cons_zero, List.set_cons_succ, i64_w, i32_w]
                            rfl
                          refine pure_ (i := 6) (N := some 75) (v := ?_) (a' := ?_) #[true, false, true, true, true, true, true, false, false, false, false, false, false, false] rfl rfl (any_of HT_.out (by kernel_rfl)) (fun _ _ _ h => h) (Or.inl ⟨by rfl, ?_⟩) ?_ ?_
                          rotate_left
                          · intro w'
                            go_simp
                            with_reducible rfl
                          rotate_left
                          · simp only [Act.put, List.setIfInBounds_toArray, List.set_cons_zero, List.set_cons_succ, i64_w, i32_w]
                            rfl
                          refine pure_ (i := 7) (N := some 76) (v := ?_) (a' := ?_) #[true, false, true, true, true, true, true, true, false, false, false, false, false, false] rfl rfl (any_of HT_.out (by kernel_rfl)) (fun _ _ _ h => h) (Or.inl ⟨by rfl, ?_⟩) ?_ ?_
                          rotate_left
                          · intro w'
                            go_simp
                            with_reducible rfl
                          rotate_left
                          · simp only [Act.put, List.setIfInBounds_toArray, List.set_cons_zero, List.set_cons_succ, i64_w, i32_w]
                            rfl
                          refine take_ (i := 1) (N := some 70) (v := ?_) (a' := ?_) #[true, true, true, true, true, true, true, true, false, false, false, false, false, false] rfl rfl (take_ofW HT_.out HW_.out (by kernel_rfl)) (fun _ _ _ h => h) (Or.inl ⟨by rfl, ?_⟩) hHeld ?_ ?_
                          rotate_left
                          · rintro w' ⟨s0, s1, s2, s3, s4⟩
                            go_simp
                            with_reducible rfl
                          rotate_left
                          · simp only [Act.put, List.setIfInBounds_toArray, List.set_cons_zero, List.set_cons_succ, i64_w, i32_w]
                            rfl
                          refine take_ (i := 8) (N := some 77) (v := ?_) (a' := ?_) #[true, true, true, true, true, true, true, true, true, false, false, false, false, false] rfl rfl (take_ofW HT_.out HW_.out (by kernel_rfl)) (fun _ _ _ h => h) (Or.inl ⟨by rfl, ?_⟩) hHeld ?_ ?_
                          rotate_left
                          · rintro w' ⟨s0, s1, s2, s3, s4⟩
                            go_simp
                            with_reducible rfl
                          rotate_left
                          · simp only [Act.put, List.setIfInBounds_toArray, List.set_cons_zero, List.set_cons_succ, i64_w, i32_w]
                            rfl
                          refine pure_ (i := 9) (N := some 78) (v := ?_) (a' := ?_) #[true, true, true, true, true, true, true, true, true, true, false, false, false, false] rfl rfl (any_of HT_.out (by kernel_rfl)) (fun _ _ _ h => h) (Or.inl ⟨by rfl, ?_⟩) ?_ ?_
                          rotate_left
                          · intro w'
                            go_simp
                            with_reducible rfl
                          rotate_left
                          · simp only [Act.put, List.setIfInBounds_toArray, List.set_cons_zero, List.set_cons_succ, i64_w, i32_w]
                            rfl
                          refine one_ (i := 10) (N := some 79) #[true, true, true, true, true, true, true, true, true, true, true, false, false, false] rfl rfl (one_of HT_.out (by kernel_rfl)) (by decide) (fun K hK => ?_)
                          refine value_ (w1 := ?_) (v := ?_) (by rfl) rfl ?_ ?_
                          rotate_left 2
                          · go_simp
                            constructor
                            · rfl
                            · rfl
                          refine hK.out _ _ ⟨(blk_cell (blk_alloc BK178.out _) 0).trans rfl, (blk_cell (blk_alloc BK178.out _) 1).trans rfl, (blk_cell (blk_alloc BK178.out _) 2).trans rfl, (World.cell?_alloc_lt _ _ _ (World.block_lt_of_cell? _ _ (hHeld.2.2.2.1))).trans (hHeld.2.2.2.1), (World.cell?_alloc_lt _ _ _ (World.block_lt_of_cell? _ _ (hHeld.2.2.2.2))).trans (hHeld.2.2.2.2)⟩ (fun hHeld => ?_)
                          clear hK K
                          refine norm_ (a' := ?_) ?_ ?_
                          rotate_left
                          · show Act.put _ (some 79) _ = _
                            simp only [Act.put, List.setIfInBounds_toArray, List.set_cons_zero, List.set_cons_succ, i64_w, i32_w]
                            rfl
                          refine last_ (i := 11) (N := some 80) #[true, true, true, true, true, true, true, true, true, true, true, true, false, false] rfl rfl (one_of HT_.out (by kernel_rfl)) (by decide) (fun K hK => ?_)
                          refine Kd.R_append_step k77 (w0 := w) w.heap.size (by rfl) (.tmp 70) (.tmp 79) 71 77 (.agg #[(.int .i64 0), (.string ⟨#[]⟩)]) 24 rfl Tryd.underlying71 info77 rfl (by decide) (by omega) u179002 x179002_1 (⟨(rd_T75 t174 x8_1).f0, (rd_T75 t174 (ji19)).f1⟩ : S77) [.int .i64 ((rd_T75 t174 x8_1).f0), .string ((rd_T75 t174 (ji19)).f1)] (fun _ => True) (fun _ => False) rfl rfl ?aP (fun _ hk => hk.elim) ?aF ?aO ?aB ?aS ?aL ?_
                          (case aP => exact k77_mkM _ _ _ (⟨(rd_T75 t174 x8_1).f0, (rd_T75 t174 (ji19)).f1⟩ : S77))
                          (case aB => exact (by repeat (first | (with_reducible first | exact HB.out | apply below_alloc | apply pw_below_drewN | apply below_drew1 | refine below_set ?_ GE178.out) | exact HB.out)))
                          (case aF => exact (fun _ _ => trivial))
                          (case aO => exact (by (with_reducible repeat (first | apply Kd.R_alloc | apply Kd.R_drewN | apply Kd.R_drew)); (first | exact HO_179002.out | (first | refine Kd.R_mono HO_179002.out (fun _ hk => ?_) | refine Kd.S_mono HO_179002.out (fun _ hk => ?_) | refine Kd.Q_mono HO_179002.out (fun _ hk => ?_)); simp only [ownBlock_slice] at hk ⊢; exact hk)))
                          (case aS => exact (below_size (by repeat (first | (with_reducible first | exact HB.out | apply below_alloc | apply pw_below_drewN | apply below_drew1 | refine below_set ?_ GE178.out) | exact HB.out))))
                          (case aL => have := LMc23.out; omega)
                          intro v190 w26 ho hb hg hat
                          rw [← Ny189.out] at ho
                          have n0_ := Aside0.mk (Kd.R_over' (by (with_reducible repeat (first | apply Kd.R_alloc | apply Kd.R_drewN | apply Kd.R_drew)); (first | exact HO_4.out | (first | refine Kd.R_mono HO_4.out (fun _ hk => ?_) | refine Kd.S_mono HO_4.out (fun _ hk => ?_) | refine Kd.Q_mono HO_4.out (fun _ hk => ?_)); simp only [ownBlock_slice] at hk ⊢; exact hk)) (Kd.R_typed (by (with_reducible repeat (first | apply Kd.R_alloc | apply Kd.R_drewN | apply Kd.R_drew)); (first | exact HO_179002.out | (first | refine Kd.R_mono HO_179002.out (fun _ hk => ?_) | refine Kd.S_mono HO_179002.out (fun _ hk => ?_) | refine Kd.Q_mono HO_179002.out (fun _ hk => ?_)); simp only [ownBlock_slice] at hk ⊢; exact hk))) (by decide) hg)
                          have n1_ := Aside0.mk (Kd.S_after (ok := (fun k_ => some k_ ≠ (u179001 : Value).ownBlock ∧ k_ ≠ gb178)) (by (with_reducible repeat (first | apply Kd.S_alloc | apply Kd.S_drewN | apply Kd.S_drew)); exact Kd.S_mono HO_6.out (fun _ hk => ⟨⟨hk.1, hk.2.2⟩, hk.2.1⟩)) hg hat)
                          have n2_ := Aside0.mk (Kd.R_over' (by (with_reducible repeat (first | apply Kd.R_alloc | apply Kd.R_drewN | apply Kd.R_drew)); (first | exact HO_179001.out | (first | refine Kd.R_mono HO_179001.out (fun _ hk => ?_) | refine Kd.S_mono HO_179001.out (fun _ hk => ?_) | refine Kd.Q_mono HO_179001.out (fun _ hk => ?_)); simp only [ownBlock_slice] at hk ⊢; exact hk)) (Kd.R_typed (by (with_reducible repeat (first | apply Kd.R_alloc | apply Kd.R_drewN | apply Kd.R_drew)); (first | exact HO_179002.out | (first | refine Kd.R_mono HO_179002.out (fun _ hk => ?_) | refine Kd.S_mono HO_179002.out (fun _ hk => ?_) | refine Kd.Q_mono HO_179002.out (fun _ hk => ?_)); simp only [ownBlock_slice] at hk ⊢; exact hk))) (by decide) hg)
                          have n3_ := Aside0.mk (blk_grown (g := gb178) (o := .cells #[.int .i64 x179000_1, u179001, u179002] 73 (0, 0)) (by (with_reducible repeat (first | refine blk_drewN ?_ _ | refine blk_drew ?_ | refine blk_alloc ?_ _)); exact BK178.out) hg (Kd.R_ne HO_179002.out BK178.out (by decide)))
                          have n4_ := Aside0.mk (hb)
                          have n5_ := Aside0.mk (ho)
                          clear HO_4
                          clear HO_6
                          clear HO_179001
                          clear BK178
                          clear HB
                          clear HO_179002
                          have HO_4 := n0_
                          have HO_6 := n1_
                          have HO_179001 := n2_
                          have BK178 := n3_
                          have HB := n4_
                          have HO191 := n5_
                          clear n0_ n1_ n2_ n3_ n4_ n5_
                          clear ho hb hg hat
                          obtain ⟨Ao27, co27, eo27⟩ := Kd.R_slice HO191.out
                          (first | subst eo27 | (injection eo27 with f1_ f2_ f3_; have f4_ := f1_.symm; have f5_ := f3_.symm; clear f1_ f2_ f3_; subst f4_; subst f5_))
                          refine hK.out _ _ ?_
                          clear hK K
                          refine norm_ (a' := ?_) ?_ ?_
                          rotate_left
                          · show Act.put _ (some 80) _ = _
                            simp only [Act.put, List.setIfInBounds_toArray, List.set_cons_zero, List.set_cons_succ, i64_w, i32_w]
                            rfl
                          refine pure_ (i := 12) (N := some 81) (v := ?_) (a' := ?_) #[true, true, true, true, true, true, true, true, true, true, true, true, true, false] rfl rfl (any_of HT_.out (by kernel_rfl)) (fun _ _ _ h => h) (Or.inl ⟨by rfl, ?_⟩) ?_ ?_
                          rotate_left
                          · intro w'
                            go_simp
                            with_reducible rfl
                          rotate_left
                          · simp only [Act.put, List.setIfInBounds_toArray, List.set_cons_zero, List.set_cons_succ, i64_w, i32_w]
                            rfl
                          refine last_ (i := 13) (N := none) #[true, true, true, true, true, true, true, true, true, true, true, true, true, true] rfl rfl (one_of HT_.out (by kernel_rfl)) (by decide) (fun K hK => ?_)
                          have hs28 : w26.cell? ⟨gb178, 2, none⟩ = some (u179002) := (blk_cell BK178.out 2).trans rfl
                          have hfs28 := blk_frozen BK178.out 2
                          refine skip_ (w1 := ?_) (by rfl) rfl ?_ ?_
                          rotate_left
                          · go_simp
                            rfl
                          refine hK.out _ _ ?_
                          clear hK K
                          refine done_ (done_of HT_.out (by kernel_rfl)) ?_
                          try go_wp2
                          go_roundg k1
                          case measure => have := HK1.out; omega
                          case rel => exact ⟨(x6_1), (wrap64 ((ji19) + 1)), (x179000_1), (x179001_1), (y189), (u179001), (.slice Ao27 y189.length co27), (by first | rfl | (simp; done) | (simp only [← hji19] <;> (first | rfl | simp)) | (simp [*]; done)), H', ⟨by have := HK1.out; omega⟩, ⟨by (with_reducible repeat (first | apply Kd.R_alloc | apply Kd.R_drewN | apply Kd.R_drew)); exact Kd.R_mono (Kd.R_far (p := ⟨gb178, 2, none⟩) (Kd.R_types HO_4.out BK178.out (by decide)) (fun _ hk => hk.2) (.slice Ao27 y189.length co27)) (fun _ hk => trivial)⟩, ⟨by (with_reducible repeat (first | apply Kd.S_alloc | apply Kd.S_drewN | apply Kd.S_drew)); exact Kd.S_mono (Kd.S_far (p := ⟨gb178, 2, none⟩) (Kd.S_mono HO_6.out (fun k_ hk => (⟨hk, hk.1.2⟩ : _ ∧ k_ ≠ gb178))) (fun _ hk => hk.2) (.slice Ao27 y189.length co27)) (fun _ hk => ⟨hk.1.1.1, ⟨hk.1.2, hk.1.1.2⟩⟩)⟩, ⟨by (with_reducible repeat (first | apply Kd.R_alloc | apply Kd.R_drewN | apply Kd.R_drew)); exact Kd.R_mono (Kd.R_far (p := ⟨gb178, 2, none⟩) (Kd.R_types HO_179001.out BK178.out (by decide)) (fun _ hk => hk.2) (.slice Ao27 y189.length co27)) (fun _ hk => trivial)⟩, ⟨by (with_reducible repeat (first | apply Kd.R_alloc | apply Kd.R_drewN | apply Kd.R_drew)); exact Kd.R_mono (Kd.R_far (p := ⟨gb178, 2, none⟩) (Kd.R_types HO191.out BK178.out (by decide)) (fun _ hk => hk.2) (.slice Ao27 y189.length co27)) (fun _ hk => trivial)⟩, ⟨by (with_reducible repeat (first | refine blk_drewN ?_ _ | refine blk_drew ?_ | refine blk_alloc ?_ _)); refine blk_put (cs := #[.int .i64 x179000_1, u179001, u179002]) ?_ 2 _ rfl; (with_reducible repeat (first | refine blk_drewN ?_ _ | refine blk_drew ?_ | refine blk_alloc ?_ _)); exact BK178.out⟩, ⟨by repeat (first | (with_reducible first | exact HB.out | apply below_alloc | apply pw_below_drewN | apply below_drew1 | refine below_set ?_ GE178.out) | exact HB.out)⟩⟩
                        · rw [if_neg c23] at H
                          exact absurd H (by simp)
                      · rw [if_neg c22] at H
                        have c22b0 : (((rd_T75 t174 (ji19)).f0) == 0) = false := beq_eq_false_iff_ne.mpr c22
                        have c22b1 : (((rd_T75 t174 (ji19)).f0) != 0) = true := bne_iff_ne.mpr c22
                        simp only [Option.some.injEq, Prod.mk.injEq] at H
                        obtain ⟨rfl, rfl⟩ := H
                        obtain ⟨Ao29, co29, eo29⟩ := Kd.R_slice HO_4.out
                        subst eo29
                        have p182 : 0 ≤ (x8_1 : Int) := of_decide_eq_true (by first | (with_reducible assumption) | assumption)
                        have q182 : x8_1 < (t174.length : Int) := of_decide_eq_true (by first | (with_reducible assumption) | assumption)
                        obtain ⟨ad182, e182, hx182_0, hx182_1⟩ := at_T75 (Kd.R_reads' HO_4.out).2.2 x8_1 p182 q182
                        cases e182
                        replace p182 := eq_true p182
                        replace q182 := eq_true q182
                        have p187 : 0 ≤ ((ji19) : Int) := of_decide_eq_true (by first | (with_reducible assumption) | assumption)
                        have q187 : (ji19) < (t174.length : Int) := of_decide_eq_true (by first | (with_reducible assumption) | assumption)
                        obtain ⟨ad187, e187, hx187_0, hx187_1⟩ := at_T75 (Kd.R_reads' HO_4.out).2.2 (ji19) p187 q187
                        obtain rfl : ad182 = ad187 := (by injection e187)
                        replace p187 := eq_true p187
                        replace q187 := eq_true q187
                        go_wp2
                        go_ret2
                        exact ⟨_, by first | rfl | (simp [errW_none, errW_some] <;> rfl) | (simp only [← hji19]; first | rfl | (simp [errW_none, errW_some] <;> rfl)) | (simp [*, errW_none, errW_some] <;> rfl), by first | exact Kd.S_nil _ _ _ _ _ | exact Kd.N_nil _ _ _ _ _ | exact Kd.V_nil _ _ _ _ _ | exact Kd.Q_nil _ _ _ _ _ | exact Kd.R_nil _ _ _ _ _, by repeat (first | (with_reducible first | exact HB.out | apply below_alloc | apply pw_below_drewN | apply below_drew1 | refine below_set ?_ GE178.out) | exact HB.out)⟩
                    · rw [if_neg c21] at H
                      exact absurd H (by simp)
                  · rw [if_neg c20] at H
                    exact absurd H (by simp)
              · rw [if_neg c16] at H
                have c16b0 : decide (4 ≤ ((rd_T75 t174 x8_1).f0)) = false := decide_eq_false c16
                clear c16
                by_cases c30 : (x179001_1.length : Int) = 0
                · rw [if_pos c30] at H
                  have c30b0 : ((x179001_1.length : Int) == 0) = true := beq_iff_eq.mpr c30
                  have c30b1 : ((x179001_1.length : Int) != 0) = false := bne_eq_false_iff_eq.mpr c30
                  clear c30
                  simp only [Option.some.injEq, Prod.mk.injEq] at H
                  obtain ⟨rfl, rfl⟩ := H
                  obtain ⟨Ao31, co31, eo31⟩ := Kd.R_slice HO_4.out
                  subst eo31
                  have p182 : 0 ≤ (x8_1 : Int) := of_decide_eq_true (by first | (with_reducible assumption) | assumption)
                  have q182 : x8_1 < (t174.length : Int) := of_decide_eq_true (by first | (with_reducible assumption) | assumption)
                  obtain ⟨ad182, e182, hx182_0, hx182_1⟩ := at_T75 (Kd.R_reads' HO_4.out).2.2 x8_1 p182 q182
                  cases e182
                  replace p182 := eq_true p182
                  replace q182 := eq_true q182
                  have hcz32_0 : wr.cell? ⟨gb178, 0, none⟩ = some (.int .i64 x179000_1) := (blk_cell BK178.out 0).trans rfl
                  have hcz32_1 : wr.cell? ⟨gb178, 1, none⟩ = some (u179001) := (blk_cell BK178.out 1).trans rfl
                  have hcz32_2 : wr.cell? ⟨gb178, 2, none⟩ = some (u179002) := (blk_cell BK178.out 2).trans rfl
                  have hfz32_0 := blk_frozen BK178.out 0
                  have hfz32_1 := blk_frozen BK178.out 1
                  have hfz32_2 := blk_frozen BK178.out 2
                  obtain ⟨Ao33, co33, eo33⟩ := Kd.R_slice HO_179001.out
                  subst eo33
                  go_wp2
                  go_ret2
                  exact ⟨_, by first | rfl | (simp [errW_none, errW_some] <;> rfl) | (simp [*, errW_none, errW_some] <;> rfl), by first | exact Kd.S_nil _ _ _ _ _ | exact Kd.N_nil _ _ _ _ _ | exact Kd.V_nil _ _ _ _ _ | exact Kd.Q_nil _ _ _ _ _ | exact Kd.R_nil _ _ _ _ _, by repeat (first | (with_reducible first | exact HB.out | apply below_alloc | apply pw_below_drewN | apply below_drew1 | refine below_set ?_ GE178.out) | exact HB.out)⟩
                · rw [if_neg c30] at H
                  have c30b0 : ((x179001_1.length : Int) == 0) = false := beq_eq_false_iff_ne.mpr c30
                  have c30b1 : ((x179001_1.length : Int) != 0) = true := bne_iff_ne.mpr c30
                  have c30b2 : ¬ (x179001_1 = []) := fun h_ => c30 (by rw [h_]; rfl)
                  by_cases c34 : x6_1.length < 2513169434916
                  · rw [if_pos c34] at H
                    have LMc34 := Aside0.mk c34
                    clear c34
                    obtain ⟨y192, hy192⟩ : ∃ y_ : List (S73), y_ = (x6_1 ++ [(⟨x179000_1, x179001_1, x179002_1⟩ : S73)]) := ⟨_, rfl⟩
                    replace H : (flatironref06_Line.l0 k1 t174 y192 (wrap64 (x8_1 + 1)) ((rd_T75 t174 x8_1).f0) ([] : List ByteArray) ([] : List (S77))) = some (r1, r2) := by first | (rw [hy192]; with_reducible exact H) | (have H2_ := (Option.bind_some _ _).symm.trans H; rw [hy192]; with_reducible exact H2_) | (have H2_ := (Option.bind_some _ _).symm.trans H; with_reducible exact H2_) | with_reducible exact H | (rw [hy192]; exact H) | exact H
                    have Ny192 := Aside0.mk hy192
                    clear hy192
                    have H' := Aside0.mk H
                    clear H
                    obtain ⟨Ao35, co35, eo35⟩ := Kd.R_slice HO_4.out
                    subst eo35
                    have p182 : 0 ≤ (x8_1 : Int) := of_decide_eq_true (by first | (with_reducible assumption) | assumption)
                    have q182 : x8_1 < (t174.length : Int) := of_decide_eq_true (by first | (with_reducible assumption) | assumption)
                    obtain ⟨ad182, e182, hx182_0, hx182_1⟩ := at_T75 (Kd.R_reads' HO_4.out).2.2 x8_1 p182 q182
                    cases e182
                    replace p182 := eq_true p182
                    replace q182 := eq_true q182
                    have hcz36_0 : wr.cell? ⟨gb178, 0, none⟩ = some (.int .i64 x179000_1) := (blk_cell BK178.out 0).trans rfl
                    have hcz36_1 : wr.cell? ⟨gb178, 1, none⟩ = some (u179001) := (blk_cell BK178.out 1).trans rfl
                    have hcz36_2 : wr.cell? ⟨gb178, 2, none⟩ = some (u179002) := (blk_cell BK178.out 2).trans rfl
                    have hfz36_0 := blk_frozen BK178.out 0
                    have hfz36_1 := blk_frozen BK178.out 1
                    have hfz36_2 := blk_frozen BK178.out 2
                    obtain ⟨Ao37, co37, eo37⟩ := Kd.R_slice HO_179001.out
                    subst eo37
                    obtain ⟨Ao39, co39, eo39⟩ := Kd.R_slice HO_179002.out
                    subst eo39
                    go_wp2_with (first | ((with_reducible refine gate_builtin (b := .append) (xs := #[.tmp 33, .tmp 35]) rfl ?_); at_builtin; refine Kd.S_append k73 (w0 := w) w.heap.size rfl (.tmp 33) (.tmp 35) 27 73 (.agg #[(.int .i64 0), (.slice none 0 0), (.slice none 0 0)]) 56 rfl Tryd.underlying27 info73 rfl (by decide) (by omega) u6 x6_1 (⟨x179000_1, x179001_1, x179002_1⟩ : S73) [.int .i64 x179000_1, .slice Ao37 x179001_1.length co37, .slice Ao39 x179002_1.length co39] (fun k_ => k_ ≠ gb178) (fun k_ => some k_ = (.slice Ao37 x179001_1.length co37 : Value).ownBlock ∨ some k_ = (.slice Ao39 x179002_1.length co39 : Value).ownBlock) rfl rfl ?aP (fun k_ hk_ => hk_.elim (fun h_ => ((Kd.R_mono (ok' := fun k_ => ((fun k_ => k_ ≠ gb178)) k_ ∧ some k_ ≠ (u6 : Value).ownBlock) (Kd.R_types (Kd.R_apart' (HO_179001.out) (Kd.S_typed HO_6.out) (by decide)) BK178.out (by decide)) (fun k_ hk => ⟨hk.2, hk.1.2⟩))).1 k_ h_.symm) (fun h_ => ((Kd.R_mono (ok' := fun k_ => ((fun k_ => k_ ≠ gb178)) k_ ∧ some k_ ≠ (u6 : Value).ownBlock) (Kd.R_types (Kd.R_apart' (HO_179002.out) (Kd.S_typed HO_6.out) (by decide)) BK178.out (by decide)) (fun k_ hk => ⟨hk.2, hk.1.2⟩))).1 k_ h_.symm)) ?aF ?aO ?aB ?aS ?aL ?_; (case aP => exact k73_mkM _ _ _ (⟨x179000_1, x179001_1, x179002_1⟩ : S73) (Kd.R_mono (Kd.R_tight rfl (Kd.R_mono (ok' := fun k_ => ((fun k_ => k_ ≠ gb178)) k_ ∧ some k_ ≠ (u6 : Value).ownBlock) (Kd.R_types (Kd.R_apart' (HO_179001.out) (Kd.S_typed HO_6.out) (by decide)) BK178.out (by decide)) (fun k_ hk => ⟨hk.2, hk.1.2⟩))) (fun _ h_ => Or.inl h_)) (Kd.R_mono (Kd.R_tight rfl (Kd.R_mono (ok' := fun k_ => ((fun k_ => k_ ≠ gb178)) k_ ∧ some k_ ≠ (u6 : Value).ownBlock) (Kd.R_types (Kd.R_apart' (HO_179002.out) (Kd.S_typed HO_6.out) (by decide)) BK178.out (by decide)) (fun k_ hk => ⟨hk.2, hk.1.2⟩))) (fun _ h_ => Or.inr (h_)))); (case aB => exact (by repeat (first | (with_reducible first | exact HB.out | apply below_alloc | apply pw_below_drewN | apply below_drew1 | refine below_set ?_ GE178.out) | exact HB.out))); (case aF => exact (fun k_ hk => Kd.freshB (g := gb178) (o := .cells #[.int .i64 x179000_1, .slice Ao37 x179001_1.length co37, .slice Ao39 x179002_1.length co39] 73 (0, 0)) (by (with_reducible repeat (first | refine blk_drewN ?_ _ | refine blk_drew ?_ | refine blk_alloc ?_ _)); exact BK178.out) k_ hk)); (case aO => exact (by (with_reducible repeat (first | apply Kd.S_alloc | apply Kd.S_drewN | apply Kd.S_drew)); exact Kd.S_mono HO_6.out (fun k_ hk => ⟨hk.2.2, fun e_ => e_.elim (fun h_ => hk.1 h_) (fun h_ => hk.2.1 h_)⟩))); (case aS => exact (below_size (by repeat (first | (with_reducible first | exact HB.out | apply below_alloc | apply pw_below_drewN | apply below_drew1 | refine below_set ?_ GE178.out) | exact HB.out)))); (case aL => have := LMc34.out; omega); intro v193 w38 ho hb hg hat; rw [← Ny192.out] at ho; have n0_ := Aside0.mk (Kd.R_over' (by (with_reducible repeat (first | apply Kd.R_alloc | apply Kd.R_drewN | apply Kd.R_drew)); (first | exact HO_4.out | (first | refine Kd.R_mono HO_4.out (fun _ hk => ?_) | refine Kd.S_mono HO_4.out (fun _ hk => ?_) | refine Kd.Q_mono HO_4.out (fun _ hk => ?_)); simp only [ownBlock_slice] at hk ⊢; exact hk)) (Kd.S_typed (by (with_reducible repeat (first | apply Kd.S_alloc | apply Kd.S_drewN | apply Kd.S_drew)); (first | exact HO_6.out | (first | refine Kd.R_mono HO_6.out (fun _ hk => ?_) | refine Kd.S_mono HO_6.out (fun _ hk => ?_) | refine Kd.Q_mono HO_6.out (fun _ hk => ?_)); simp only [ownBlock_slice] at hk ⊢; exact hk))) (by decide) hg); have n1_ := Aside0.mk (blk_grown (g := gb178) (o := .cells #[.int .i64 x179000_1, .slice Ao37 x179001_1.length co37, .slice Ao39 x179002_1.length co39] 73 (0, 0)) (by (with_reducible repeat (first | refine blk_drewN ?_ _ | refine blk_drew ?_ | refine blk_alloc ?_ _)); exact BK178.out) hg (Kd.S_away HO_6.out (fun _ hk => hk.2.2))); have n2_ := Aside0.mk (hb); have n3_ := Aside0.mk (ho); clear HO_4; clear BK178; clear HB; clear HO_6; clear HO_179001; clear HO_179002; have HO_4 := n0_; have BK178 := n1_; have HB := n2_; have HO194 := n3_; clear n0_ n1_ n2_ n3_; clear ho hb hg hat; have hcz40_0 : w38.cell? ⟨gb178, 0, none⟩ = some (.int .i64 x179000_1) := (blk_cell BK178.out 0).trans rfl; have hcz40_1 : w38.cell? ⟨gb178, 1, none⟩ = some (.slice Ao37 x179001_1.length co37) := (blk_cell BK178.out 1).trans rfl; have hcz40_2 : w38.cell? ⟨gb178, 2, none⟩ = some (.slice Ao39 x179002_1.length co39) := (blk_cell BK178.out 2).trans rfl; have hfz40_0 := blk_frozen BK178.out 0; have hfz40_1 := blk_frozen BK178.out 1; have hfz40_2 := blk_frozen BK178.out 2))
                    go_roundg k1
                    case measure => have := HK1.out; omega
                    case rel => exact ⟨(y192), (wrap64 (x8_1 + 1)), ((rd_T75 t174 x8_1).f0), (([] : List ByteArray)), (([] : List (S77))), (.slice none 0 0), (.slice none 0 0), (by first | rfl | (simp; done) | (simp [*]; done)), H', ⟨by have := HK1.out; omega⟩, ⟨by (with_reducible repeat (first | apply Kd.R_alloc | apply Kd.R_drewN | apply Kd.R_drew)); exact Kd.R_mono (Kd.R_far (p := ⟨gb178, 2, none⟩) (Kd.R_far (p := ⟨gb178, 1, none⟩) (Kd.R_far (p := ⟨gb178, 0, none⟩) (Kd.R_types HO_4.out BK178.out (by decide)) (fun _ hk => hk.2) (.int .i64 ((rd_T75 t174 x8_1).f0))) (fun _ hk => hk.2) (.slice none 0 0)) (fun _ hk => hk.2) (.slice none 0 0)) (fun _ hk => trivial)⟩, ⟨by (with_reducible repeat (first | apply Kd.S_alloc | apply Kd.S_drewN | apply Kd.S_drew)); exact Kd.S_mono (Kd.S_far (p := ⟨gb178, 2, none⟩) (Kd.S_far (p := ⟨gb178, 1, none⟩) (Kd.S_far (p := ⟨gb178, 0, none⟩) (Kd.S_mono HO194.out (fun k_ hk => (⟨hk, hk⟩ : _ ∧ k_ ≠ gb178))) (fun _ hk => hk.2) (.int .i64 ((rd_T75 t174 x8_1).f0))) (fun _ hk => hk.2) (.slice none 0 0)) (fun _ hk => hk.2) (.slice none 0 0)) (fun _ hk => ⟨(by simp [Value.ownBlock]), ⟨(by simp [Value.ownBlock]), hk.1⟩⟩)⟩, ⟨by first | exact Kd.R_nil _ _ _ _ _ | exact Kd.N_nil _ _ _ _ _ | exact Kd.V_nil _ _ _ _ _ | exact Kd.Q_nil _ _ _ _ _ | exact Kd.S_nil _ _ _ _ _⟩, ⟨by first | exact Kd.R_nil _ _ _ _ _ | exact Kd.N_nil _ _ _ _ _ | exact Kd.V_nil _ _ _ _ _ | exact Kd.Q_nil _ _ _ _ _ | exact Kd.S_nil _ _ _ _ _⟩, ⟨by (with_reducible repeat (first | refine blk_drewN ?_ _ | refine blk_drew ?_ | refine blk_alloc ?_ _)); refine blk_put (cs := #[.int .i64 ((rd_T75 t174 x8_1).f0), .slice none 0 0, .slice Ao39 x179002_1.length co39]) ?_ 2 _ rfl; (with_reducible repeat (first | refine blk_drewN ?_ _ | refine blk_drew ?_ | refine blk_alloc ?_ _)); refine blk_put (cs := #[.int .i64 ((rd_T75 t174 x8_1).f0), .slice Ao37 x179001_1.length co37, .slice Ao39 x179002_1.length co39]) ?_ 1 _ rfl; (with_reducible repeat (first | refine blk_drewN ?_ _ | refine blk_drew ?_ | refine blk_alloc ?_ _)); refine blk_put (cs := #[.int .i64 x179000_1, .slice Ao37 x179001_1.length co37, .slice Ao39 x179002_1.length co39]) ?_ 0 _ rfl; (with_reducible repeat (first | refine blk_drewN ?_ _ | refine blk_drew ?_ | refine blk_alloc ?_ _)); exact BK178.out⟩, ⟨by repeat (first | (with_reducible first | exact HB.out | apply below_alloc | apply pw_below_drewN | apply below_drew1 | refine below_set ?_ GE178.out) | exact HB.out)⟩⟩
                  · rw [if_neg c34] at H
                    exact absurd H (by simp)
          · rw [if_neg c8] at H
            exact absurd H (by simp)
        · rw [if_neg c7] at H
          have c7b0 : decide (x8_1 < (t174.length : Int)) = false := decide_eq_false c7
          clear c7
          by_cases c41 : (x179001_1.length : Int) > 0
          · rw [if_pos c41] at H
            have c41b0 : decide (0 < (x179001_1.length : Int)) = true := decide_eq_true c41
            have c41b1 : decide (0 < x179001_1.length) = true := decide_eq_true (by omega)
            clear c41
            by_cases c42 : x6_1.length < 2513169434916
            · rw [if_pos c42] at H
              have LMc42 := Aside0.mk c42
              clear c42
              obtain ⟨y179, hy179⟩ : ∃ y_ : List (S73), y_ = (x6_1 ++ [(⟨x179000_1, x179001_1, x179002_1⟩ : S73)]) := ⟨_, rfl⟩
              replace H : (some (y179, true)) = some (r1, r2) := by first | (rw [hy179]; with_reducible exact H) | (have H2_ := (Option.bind_some _ _).symm.trans H; rw [hy179]; with_reducible exact H2_) | (have H2_ := (Option.bind_some _ _).symm.trans H; with_reducible exact H2_) | with_reducible exact H | (rw [hy179]; exact H) | exact H
              have Ny179 := Aside0.mk hy179
              clear hy179
              simp only [Option.some.injEq, Prod.mk.injEq] at H
              obtain ⟨rfl, rfl⟩ := H
              obtain ⟨Ao43, co43, eo43⟩ := Kd.R_slice HO_4.out
              subst eo43
              have hcz44_0 : wr.cell? ⟨gb178, 0, none⟩ = some (.int .i64 x179000_1) := (blk_cell BK178.out 0).trans rfl
              have hcz44_1 : wr.cell? ⟨gb178, 1, none⟩ = some (u179001) := (blk_cell BK178.out 1).trans rfl
              have hcz44_2 : wr.cell? ⟨gb178, 2, none⟩ = some (u179002) := (blk_cell BK178.out 2).trans rfl
              have hfz44_0 := blk_frozen BK178.out 0
              have hfz44_1 := blk_frozen BK178.out 1
              have hfz44_2 := blk_frozen BK178.out 2
              obtain ⟨Ao45, co45, eo45⟩ := Kd.R_slice HO_179001.out
              subst eo45
              obtain ⟨Ao47, co47, eo47⟩ := Kd.R_slice HO_179002.out
              subst eo47
              go_wp2_with (first | ((with_reducible refine gate_builtin (b := .append) (xs := #[.tmp 88, .tmp 90]) rfl ?_); at_builtin; refine Kd.S_append k73 (w0 := w) w.heap.size rfl (.tmp 88) (.tmp 90) 27 73 (.agg #[(.int .i64 0), (.slice none 0 0), (.slice none 0 0)]) 56 rfl Tryd.underlying27 info73 rfl (by decide) (by omega) u6 x6_1 (⟨x179000_1, x179001_1, x179002_1⟩ : S73) [.int .i64 x179000_1, .slice Ao45 x179001_1.length co45, .slice Ao47 x179002_1.length co47] (fun k_ => k_ ≠ gb178) (fun k_ => some k_ = (.slice Ao45 x179001_1.length co45 : Value).ownBlock ∨ some k_ = (.slice Ao47 x179002_1.length co47 : Value).ownBlock) rfl rfl ?aP (fun k_ hk_ => hk_.elim (fun h_ => ((Kd.R_mono (ok' := fun k_ => ((fun k_ => k_ ≠ gb178)) k_ ∧ some k_ ≠ (u6 : Value).ownBlock) (Kd.R_types (Kd.R_apart' (HO_179001.out) (Kd.S_typed HO_6.out) (by decide)) BK178.out (by decide)) (fun k_ hk => ⟨hk.2, hk.1.2⟩))).1 k_ h_.symm) (fun h_ => ((Kd.R_mono (ok' := fun k_ => ((fun k_ => k_ ≠ gb178)) k_ ∧ some k_ ≠ (u6 : Value).ownBlock) (Kd.R_types (Kd.R_apart' (HO_179002.out) (Kd.S_typed HO_6.out) (by decide)) BK178.out (by decide)) (fun k_ hk => ⟨hk.2, hk.1.2⟩))).1 k_ h_.symm)) ?aF ?aO ?aB ?aS ?aL ?_; (case aP => exact k73_mkM _ _ _ (⟨x179000_1, x179001_1, x179002_1⟩ : S73) (Kd.R_mono (Kd.R_tight rfl (Kd.R_mono (ok' := fun k_ => ((fun k_ => k_ ≠ gb178)) k_ ∧ some k_ ≠ (u6 : Value).ownBlock) (Kd.R_types (Kd.R_apart' (HO_179001.out) (Kd.S_typed HO_6.out) (by decide)) BK178.out (by decide)) (fun k_ hk => ⟨hk.2, hk.1.2⟩))) (fun _ h_ => Or.inl h_)) (Kd.R_mono (Kd.R_tight rfl (Kd.R_mono (ok' := fun k_ => ((fun k_ => k_ ≠ gb178)) k_ ∧ some k_ ≠ (u6 : Value).ownBlock) (Kd.R_types (Kd.R_apart' (HO_179002.out) (Kd.S_typed HO_6.out) (by decide)) BK178.out (by decide)) (fun k_ hk => ⟨hk.2, hk.1.2⟩))) (fun _ h_ => Or.inr (h_)))); (case aB => exact (by repeat (first | (with_reducible first | exact HB.out | apply below_alloc | apply pw_below_drewN | apply below_drew1 | refine below_set ?_ GE178.out) | exact HB.out))); (case aF => exact (fun k_ hk => Kd.freshB (g := gb178) (o := .cells #[.int .i64 x179000_1, .slice Ao45 x179001_1.length co45, .slice Ao47 x179002_1.length co47] 73 (0, 0)) (by (with_reducible repeat (first | refine blk_drewN ?_ _ | refine blk_drew ?_ | refine blk_alloc ?_ _)); exact BK178.out) k_ hk)); (case aO => exact (by (with_reducible repeat (first | apply Kd.S_alloc | apply Kd.S_drewN | apply Kd.S_drew)); exact Kd.S_mono HO_6.out (fun k_ hk => ⟨hk.2.2, fun e_ => e_.elim (fun h_ => hk.1 h_) (fun h_ => hk.2.1 h_)⟩))); (case aS => exact (below_size (by repeat (first | (with_reducible first | exact HB.out | apply below_alloc | apply pw_below_drewN | apply below_drew1 | refine below_set ?_ GE178.out) | exact HB.out)))); (case aL => have := LMc42.out; omega); intro v180 w46 ho hb hg hat; rw [← Ny179.out] at ho; have n0_ := Aside0.mk (Kd.R_over' (by (with_reducible repeat (first | apply Kd.R_alloc | apply Kd.R_drewN | apply Kd.R_drew)); (first | exact HO_4.out | (first | refine Kd.R_mono HO_4.out (fun _ hk => ?_) | refine Kd.S_mono HO_4.out (fun _ hk => ?_) | refine Kd.Q_mono HO_4.out (fun _ hk => ?_)); simp only [ownBlock_slice] at hk ⊢; exact hk)) (Kd.S_typed (by (with_reducible repeat (first | apply Kd.S_alloc | apply Kd.S_drewN | apply Kd.S_drew)); (first | exact HO_6.out | (first | refine Kd.R_mono HO_6.out (fun _ hk => ?_) | refine Kd.S_mono HO_6.out (fun _ hk => ?_) | refine Kd.Q_mono HO_6.out (fun _ hk => ?_)); simp only [ownBlock_slice] at hk ⊢; exact hk))) (by decide) hg); have n1_ := Aside0.mk (blk_grown (g := gb178) (o := .cells #[.int .i64 x179000_1, .slice Ao45 x179001_1.length co45, .slice Ao47 x179002_1.length co47] 73 (0, 0)) (by (with_reducible repeat (first | refine blk_drewN ?_ _ | refine blk_drew ?_ | refine blk_alloc ?_ _)); exact BK178.out) hg (Kd.S_away HO_6.out (fun _ hk => hk.2.2))); have n2_ := Aside0.mk (hb); have n3_ := Aside0.mk (ho); clear HO_4; clear BK178; clear HB; clear HO_6; clear HO_179001; clear HO_179002; have HO_4 := n0_; have BK178 := n1_; have HB := n2_; have HO181 := n3_; clear n0_ n1_ n2_ n3_; clear ho hb hg hat))
              go_ret2
              exact ⟨_, by first | rfl | (simp [errW_none, errW_some] <;> rfl) | (simp [*, errW_none, errW_some] <;> rfl), by (with_reducible repeat (first | apply Kd.S_alloc | apply Kd.S_drewN | apply Kd.S_drew)); exact Kd.S_mono HO181.out (fun _ hk => trivial), by repeat (first | (with_reducible first | exact HB.out | apply below_alloc | apply pw_below_drewN | apply below_drew1 | refine below_set ?_ GE178.out) | exact HB.out)⟩
            · rw [if_neg c42] at H
              exact absurd H (by simp)
          · rw [if_neg c41] at H
            have c41b0 : decide (0 < (x179001_1.length : Int)) = false := decide_eq_false c41
            have c41b1 : decide (0 < x179001_1.length) = false := decide_eq_false (by omega)
            clear c41
            by_cases c48 : (x179002_1.length : Int) = 0
            · rw [if_pos c48] at H
              have c48b0 : ((x179002_1.length : Int) == 0) = true := beq_iff_eq.mpr c48
              have c48b1 : ((x179002_1.length : Int) != 0) = false := bne_eq_false_iff_eq.mpr c48
              clear c48
              simp only [Option.some.injEq, Prod.mk.injEq] at H
              obtain ⟨rfl, rfl⟩ := H
              obtain ⟨Ao49, co49, eo49⟩ := Kd.R_slice HO_4.out
              subst eo49
              have hcz50_0 : wr.cell? ⟨gb178, 0, none⟩ = some (.int .i64 x179000_1) := (blk_cell BK178.out 0).trans rfl
              have hcz50_1 : wr.cell? ⟨gb178, 1, none⟩ = some (u179001) := (blk_cell BK178.out 1).trans rfl
              have hcz50_2 : wr.cell? ⟨gb178, 2, none⟩ = some (u179002) := (blk_cell BK178.out 2).trans rfl
              have hfz50_0 := blk_frozen BK178.out 0
              have hfz50_1 := blk_frozen BK178.out 1
              have hfz50_2 := blk_frozen BK178.out 2
              obtain ⟨Ao51, co51, eo51⟩ := Kd.R_slice HO_179001.out
              subst eo51
              try go_wp2
              have n0_ := Aside0.mk (Kd.R_drew HO_4.out)
              have n1_ := Aside0.mk (Kd.S_drew HO_6.out)
              have n2_ := Aside0.mk (Kd.R_drew HO_179001.out)
              have n3_ := Aside0.mk (Kd.R_drew HO_179002.out)
              have n4_ := Aside0.mk (blk_drew BK178.out)
              have n5_ := Aside0.mk (below_drew1 HB.out)
              clear HO_4
              clear HO_6
              clear HO_179001
              clear HO_179002
              clear BK178
              clear HB
              have HO_4 := n0_
              have HO_6 := n1_
              have HO_179001 := n2_
              have HO_179002 := n3_
              have BK178 := n4_
              have HB := n5_
              clear n0_ n1_ n2_ n3_ n4_ n5_
              obtain ⟨Ao53, co53, eo53⟩ := Kd.R_slice HO_179002.out
              (first | subst eo53 | (injection eo53 with f1_ f2_ f3_; have f4_ := f1_.symm; have f5_ := f3_.symm; clear f1_ f2_ f3_; subst f4_; subst f5_))
              refine start_ (n := 12) (S := fun w' => w'.cell? ⟨gb178, 0, none⟩ = some (.int .i64 x179000_1) ∧ w'.cell? ⟨gb178, 1, none⟩ = some (.slice Ao51 x179001_1.length co51) ∧ w'.cell? ⟨gb178, 2, none⟩ = some (.slice Ao53 x179002_1.length co53)) (ds := []) #[false, false, false, false, false, false, false, false, false, false, false, false] (by kernel_rfl) rfl rfl ⟨(blk_cell BK178.out 0).trans rfl, (blk_cell BK178.out 1).trans rfl, (blk_cell BK178.out 2).trans rfl⟩ (fun hHeld => ?_); refine with_tabW flatironref06_Line.tab23 flatironref06_Line.bits23 (fun HT_ HW_ => ?_)
              generalize wr.drew = w52 at HO_4 HO_6 HO_179001 HO_179002 BK178 HB hHeld ⊢
              refine pure_ (i := 0) (N := some 92) (v := ?_) (a' := ?_) #[true, false, false, false, false, false, false, false, false, false, false, false] rfl rfl (any_of HT_.out (by kernel_rfl)) (fun _ _ _ h => h) (Or.inl ⟨by rfl, ?_⟩) ?_ ?_
              rotate_left
              · intro w'
                go_simp
                with_reducible rfl
              rotate_left
              · simp only [Act.put, List.setIfInBounds_toArray, List.set_cons_zero, List.set_cons_succ, i64_w, i32_w]
                rfl
              refine pure_ (i := 1) (N := some 93) (v := ?_) (a' := ?_) #[true, true, false, false, false, false, false, false, false, false, false, false] rfl rfl (any_of HT_.out (by kernel_rfl)) (fun _ _ _ h => h) (Or.inl ⟨by rfl, ?_⟩) ?_ ?_
              rotate_left
              · intro w'
                go_simp
                with_reducible rfl
              rotate_left
              · simp only [Act.put, List.setIfInBounds_toArray, List.set_cons_zero, List.set_cons_succ, i64_w, i32_w]
                rfl
              refine take_ (i := 2) (N := some 94) (v := ?_) (a' := ?_) #[true, true, true, false, false, false, false, false, false, false, false, false] rfl rfl (take_ofW HT_.out HW_.out (by kernel_rfl)) (fun _ _ _ h => h) (Or.inl ⟨by rfl, ?_⟩) hHeld ?_ ?_
              rotate_left
              · rintro w' ⟨s0, s1, s2⟩
                go_simp
                with_reducible rfl
              rotate_left
              · simp only [Act.put, List.setIfInBounds_toArray, List.set_cons_zero, List.set_cons_succ, i64_w, i32_w]
                rfl
              refine pure_ (i := 3) (N := some 95) (v := ?_) (a' := ?_) #[true, true, true, true, false, false, false, false, false, false, false, false] rfl rfl (any_of HT_.out (by kernel_rfl)) (fun _ _ _ h => h) (Or.inl ⟨by rfl, ?_⟩) ?_ ?_
              rotate_left
              · intro w'
                go_simp
                with_reducible rfl
              rotate_left
              · simp only [Act.put, List.setIfInBounds_toArray, List.set_cons_zero, List.set_cons_succ, i64_w, i32_w]
                rfl
              refine pure_ (i := 4) (N := some 96) (v := ?_) (a' := ?_) #[true, true, true, true, true, false, false, false, false, false, false, false] rfl rfl (any_of HT_.out (by kernel_rfl)) (fun _ _ _ h => h) (Or.inl ⟨by rfl, ?_⟩) ?_ ?_
              rotate_left
              · intro w'
                go_simp
                with_reducible rfl
              rotate_left
              · simp only [Act.put, List.setIfInBounds_toArray, List.set_cons_zero, List.set_cons_succ, i64_w, i32_w]
                rfl
              refine pure_ (i := 5) (N := some 97) (v := ?_) (a' := ?_) #[true, true, true, true, true, true, false, false, false, false, false, false] rfl rfl (any_of HT_.out (by kernel_rfl)) (fun _ _ _ h => h) (Or.inl ⟨by rfl, ?_⟩) ?_ ?_
              rotate_left
              · intro w'
                go_simp
                with_reducible rfl
              rotate_left
              · simp only [Act.put, List.setIfInBounds_toArray, List.set_cons_zero, List.set_cons_succ, i64_w, i32_w]
                rfl
              refine pure_ (i := 6) (N := some 98) (v := ?_) (a' := ?_) #[true, true, true, true, true, true, true, false, false, false, false, false] rfl rfl (any_of HT_.out (by kernel_rfl)) (fun _ _ _ h => h) (Or.inl ⟨by rfl, ?_⟩) ?_ ?_
              rotate_left
              · intro w'
                go_simp
                with_reducible rfl
              rotate_left
              · simp only [Act.put, List.setIfInBounds_toArray, List.set_cons_zero, List.set_cons_succ, i64_w, i32_w]
                rfl
              refine pure_ (i := 10) (N := some 2) (v := ?_) (a' := ?_) #[true, true, true, true, true, true, true, false, false, false, true, false] rfl rfl (any_of HT_.out (by kernel_rfl)) (fun _ _ _ h => h) (Or.inl ⟨by rfl, ?_⟩) ?_ ?_
              rotate_left
              · intro w'
                go_simp
                with_reducible rfl
              rotate_left
              · simp only [Act.put, List.setIfInBounds_toArray, List.set_cons_zero, List.set_cons_succ, i64_w, i32_w]
                rfl
              refine take_ (i := 7) (N := some 99) (v := ?_) (a' := ?_) #[true, true, true, true, true, true, true, true, false, false, true, false] rfl rfl (take_ofW HT_.out HW_.out (by kernel_rfl)) (fun _ _ _ h => h) (Or.inl ⟨by rfl, ?_⟩) hHeld ?_ ?_
              rotate_left
              · rintro w' ⟨s0, s1, s2⟩
                go_simp
                with_reducible rfl
              rotate_left
              · simp only [Act.put, List.setIfInBounds_toArray, List.set_cons_zero, List.set_cons_succ, i64_w, i32_w]
                rfl
              refine pure_ (i := 8) (N := some 100) (v := ?_) (a' := ?_) #[true, true, true, true, true, true, true, true, true, false, true, false] rfl rfl (any_of HT_.out (by kernel_rfl)) (fun _ _ _ h => h) (Or.inl ⟨by rfl, ?_⟩) ?_ ?_
              rotate_left
              · intro w'
                go_simp
                with_reducible rfl
              rotate_left
              · simp only [Act.put, List.setIfInBounds_toArray, List.set_cons_zero, List.set_cons_succ, i64_w, i32_w]
                rfl
              refine pure_ (i := 9) (N := some 101) (v := ?_) (a' := ?_) #[true, true, true, true, true, true, true, true, true, true, true, false] rfl rfl (any_of HT_.out (by kernel_rfl)) (fun _ _ _ h => h) (Or.inl ⟨by rfl, ?_⟩) ?_ ?_
              rotate_left
              · intro w'
                go_simp
                with_reducible rfl
              rotate_left
              · simp only [Act.put, List.setIfInBounds_toArray, List.set_cons_zero, List.set_cons_succ, i64_w, i32_w]
                rfl
              refine pure_ (i := 11) (N := some 3) (v := ?_) (a' := ?_) #[true, true, true, true, true, true, true, true, true, true, true, true] rfl rfl (any_of HT_.out (by kernel_rfl)) (fun _ _ _ h => h) (Or.inl ⟨by rfl, ?_⟩) ?_ ?_
              rotate_left
              · intro w'
                go_simp
                with_reducible rfl
              rotate_left
              · simp only [Act.put, List.setIfInBounds_toArray, List.set_cons_zero, List.set_cons_succ, i64_w, i32_w]
                rfl
              refine done_ (done_of HT_.out (by kernel_rfl)) ?_
              try go_wp2
              go_ret2
              exact ⟨_, by first | rfl | (simp [errW_none, errW_some] <;> rfl) | (simp [*, errW_none, errW_some] <;> rfl), by (with_reducible repeat (first | apply Kd.S_alloc | apply Kd.S_drewN | apply Kd.S_drew)); exact Kd.S_mono HO_6.out (fun _ hk => trivial), by repeat (first | (with_reducible first | exact HB.out | apply below_alloc | apply pw_below_drewN | apply below_drew1 | refine below_set ?_ GE178.out) | exact HB.out)⟩
            · rw [if_neg c48] at H
              have c48b0 : ((x179002_1.length : Int) == 0) = false := beq_eq_false_iff_ne.mpr c48
              have c48b1 : ((x179002_1.length : Int) != 0) = true := bne_iff_ne.mpr c48
              have c48b2 : ¬ (x179002_1 = []) := fun h_ => c48 (by rw [h_]; rfl)
              simp only [Option.some.injEq, Prod.mk.injEq] at H
              obtain ⟨rfl, rfl⟩ := H
              obtain ⟨Ao54, co54, eo54⟩ := Kd.R_slice HO_4.out
              subst eo54
              have hcz55_0 : wr.cell? ⟨gb178, 0, none⟩ = some (.int .i64 x179000_1) := (blk_cell BK178.out 0).trans rfl
              have hcz55_1 : wr.cell? ⟨gb178, 1, none⟩ = some (u179001) := (blk_cell BK178.out 1).trans rfl
              have hcz55_2 : wr.cell? ⟨gb178, 2, none⟩ = some (u179002) := (blk_cell BK178.out 2).trans rfl
              have hfz55_0 := blk_frozen BK178.out 0
              have hfz55_1 := blk_frozen BK178.out 1
              have hfz55_2 := blk_frozen BK178.out 2
              obtain ⟨Ao56, co56, eo56⟩ := Kd.R_slice HO_179001.out
              subst eo56
              try go_wp2
              have n0_ := Aside0.mk (Kd.R_drew HO_4.out)
              have n1_ := Aside0.mk (Kd.S_drew HO_6.out)
              have n2_ := Aside0.mk (Kd.R_drew HO_179001.out)
              have n3_ := Aside0.mk (Kd.R_drew HO_179002.out)
              have n4_ := Aside0.mk (blk_drew BK178.out)
              have n5_ := Aside0.mk (below_drew1 HB.out)
              clear HO_4
              clear HO_6
              clear HO_179001
              clear HO_179002
              clear BK178
              clear HB
              have HO_4 := n0_
              have HO_6 := n1_
              have HO_179001 := n2_
              have HO_179002 := n3_
              have BK178 := n4_
              have HB := n5_
              clear n0_ n1_ n2_ n3_ n4_ n5_
              obtain ⟨Ao58, co58, eo58⟩ := Kd.R_slice HO_179002.out
              (first | subst eo58 | (injection eo58 with f1_ f2_ f3_; have f4_ := f1_.symm; have f5_ := f3_.symm; clear f1_ f2_ f3_; subst f4_; subst f5_))
              refine start_ (n := 12) (S := fun w' => w'.cell? ⟨gb178, 0, none⟩ = some (.int .i64 x179000_1) ∧ w'.cell? ⟨gb178, 1, none⟩ = some (.slice Ao56 x179001_1.length co56) ∧ w'.cell? ⟨gb178, 2, none⟩ = some (.slice Ao58 x179002_1.length co58)) (ds := []) #[false, false, false, false, false, false, false, false, false, false, false, false] (by kernel_rfl) rfl rfl ⟨(blk_cell BK178.out 0).trans rfl, (blk_cell BK178.out 1).trans rfl, (blk_cell BK178.out 2).trans rfl⟩ (fun hHeld => ?_); refine with_tabW flatironref06_Line.tab23 flatironref06_Line.bits23 (fun HT_ HW_ => ?_)
              generalize wr.drew = w57 at HO_4 HO_6 HO_179001 HO_179002 BK178 HB hHeld ⊢
              refine pure_ (i := 0) (N := some 92) (v := ?_) (a' := ?_) #[true, false, false, false, false, false, false, false, false, false, false, false] rfl rfl (any_of HT_.out (by kernel_rfl)) (fun _ _ _ h => h) (Or.inl ⟨by rfl, ?_⟩) ?_ ?_
              rotate_left
              · intro w'
                go_simp
                with_reducible rfl
              rotate_left
              · simp only [Act.put, List.setIfInBounds_toArray, List.set_cons_zero, List.set_cons_succ, i64_w, i32_w]
                rfl
              refine pure_ (i := 1) (N := some 93) (v := ?_) (a' := ?_) #[true, true, false, false, false, false, false, false, false, false, false, false] rfl rfl (any_of HT_.out (by kernel_rfl)) (fun _ _ _ h => h) (Or.inl ⟨by rfl, ?_⟩) ?_ ?_
              rotate_left
              · intro w'
                go_simp
                with_reducible rfl
              rotate_left
              · simp only [Act.put, List.setIfInBounds_toArray, List.set_cons_zero, List.set_cons_succ, i64_w, i32_w]
                rfl
              refine take_ (i := 2) (N := some 94) (v := ?_) (a' := ?_) #[true, true, true, false, false, false, false, false, false, false, false, false] rfl rfl (take_ofW HT_.out HW_.out (by kernel_rfl)) (fun _ _ _ h => h) (Or.inl ⟨by rfl, ?_⟩) hHeld ?_ ?_
              rotate_left
              · rintro w' ⟨s0, s1, s2⟩
                go_simp
                with_reducible rfl
              rotate_left
              · simp only [Act.put, List.setIfInBounds_toArray, List.set_cons_zero, List.set_cons_succ, i64_w, i32_w]
                rfl
              refine pure_ (i := 3) (N := some 95) (v := ?_) (a' := ?_) #[true, true, true, true, false, false, false, false, false, false, false, false] rfl rfl (any_of HT_.out (by kernel_rfl)) (fun _ _ _ h => h) (Or.inl ⟨by rfl, ?_⟩) ?_ ?_
              rotate_left
              · intro w'
                go_simp
                with_reducible rfl
              rotate_left
              · simp only [Act.put, List.setIfInBounds_toArray, List.set_cons_zero, List.set_cons_succ, i64_w, i32_w]
                rfl
              refine pure_ (i := 4) (N := some 96) (v := ?_) (a' := ?_) #[true, true, true, true, true, false, false, false, false, false, false, false] rfl rfl (any_of HT_.out (by kernel_rfl)) (fun _ _ _ h => h) (Or.inl ⟨by rfl, ?_⟩) ?_ ?_
              rotate_left
              · intro w'
                go_simp
                with_reducible rfl
              rotate_left
              · simp only [Act.put, List.setIfInBounds_toArray, List.set_cons_zero, List.set_cons_succ, i64_w, i32_w]
                rfl
              refine pure_ (i := 5) (N := some 97) (v := ?_) (a' := ?_) #[true, true, true, true, true, true, false, false, false, false, false, false] rfl rfl (any_of HT_.out (by kernel_rfl)) (fun _ _ _ h => h) (Or.inl ⟨by rfl, ?_⟩) ?_ ?_
              rotate_left
              · intro w'
                go_simp
                with_reducible rfl
              rotate_left
              · simp only [Act.put, List.setIfInBounds_toArray, List.set_cons_zero, List.set_cons_succ, i64_w, i32_w]
                rfl
              refine pure_ (i := 6) (N := some 98) (v := undef) (a' := ?_) #[true, true, true, true, true, true, true, false, false, false, false, false] rfl rfl (any_of HT_.out (by kernel_rfl)) (fun _ _ _ h => h) (Or.inr ⟨by rfl, rfl⟩) ?_ ?_
              rotate_left
              · simp only [Act.put, List.setIfInBounds_toArray, List.set_cons_zero, List.set_cons_succ, i64_w, i32_w]
                rfl
              refine pure_ (i := 7) (N := some 99) (v := undef) (a' := ?_) #[true, true, true, true, true, true, true, true, false, false, false, false] rfl rfl (any_of HT_.out (by kernel_rfl)) (fun _ _ _ h => h) (Or.inr ⟨by rfl, rfl⟩) ?_ ?_
              rotate_left
              · simp only [Act.put, List.setIfInBounds_toArray, List.set_cons_zero, List.set_cons_succ, i64_w, i32_w]
                rfl
              refine pure_ (i := 8) (N := some 100) (v := undef) (a' := ?_) #[true, true, true, true, true, true, true, true, true, false, false, false] rfl rfl (any_of HT_.out (by kernel_rfl)) (fun _ _ _ h => h) (Or.inr ⟨by rfl, rfl⟩) ?_ ?_
              rotate_left
              · simp only [Act.put, List.setIfInBounds_toArray, List.set_cons_zero, List.set_cons_succ, i64_w, i32_w]
                rfl
              refine pure_ (i := 9) (N := some 101) (v := ?_) (a' := ?_) #[true, true, true, true, true, true, true, true, true, true, false, false] rfl rfl (any_of HT_.out (by kernel_rfl)) (fun _ _ _ h => h) (Or.inl ⟨by rfl, ?_⟩) ?_ ?_
              rotate_left
              · intro w'
                go_simp
                with_reducible rfl
              rotate_left
              · simp only [Act.put, List.setIfInBounds_toArray, List.set_cons_zero, List.set_cons_succ, i64_w, i32_w]
                rfl
              refine pure_ (i := 10) (N := some 2) (v := ?_) (a' := ?_) #[true, true, true, true, true, true, true, true, true, true, true, false] rfl rfl (any_of HT_.out (by kernel_rfl)) (fun _ _ _ h => h) (Or.inl ⟨by rfl, ?_⟩) ?_ ?_
              rotate_left
              · intro w'
                go_simp
                with_reducible rfl
              rotate_left
              · simp only [Act.put, List.setIfInBounds_toArray, List.set_cons_zero, List.set_cons_succ, i64_w, i32_w]
                rfl
              refine pure_ (i := 11) (N := some 3) (v := ?_) (a' := ?_) #[true, true, true, true, true, true, true, true, true, true, true, true] rfl rfl (any_of HT_.out (by kernel_rfl)) (fun _ _ _ h => h) (Or.inl ⟨by rfl, ?_⟩) ?_ ?_
              rotate_left
              · intro w'
                go_simp
                with_reducible rfl
              rotate_left
              · simp only [Act.put, List.setIfInBounds_toArray, List.set_cons_zero, List.set_cons_succ, i64_w, i32_w]
                rfl
              refine done_ (done_of HT_.out (by kernel_rfl)) ?_
              try go_wp2
              go_ret2
              exact ⟨_, by first | rfl | (simp [errW_none, errW_some] <;> rfl) | (simp [*, errW_none, errW_some] <;> rfl), by (with_reducible repeat (first | apply Kd.S_alloc | apply Kd.S_drewN | apply Kd.S_drew)); exact Kd.S_mono HO_6.out (fun _ hk => trivial), by repeat (first | (with_reducible first | exact HB.out | apply below_alloc | apply pw_below_drewN | apply below_drew1 | refine below_set ?_ GE178.out) | exact HB.out)⟩
  · replace c3 := Bool.eq_false_iff.mpr c3
    subst c3
    have H1 : (some (([] : List (S73)), false)) = some (r1, r2) := by rw [if_neg (show ¬ (false = true) by decide)] at H; exact H
    clear H
    have H := H1
    clear H1
    simp only [Option.some.injEq, Prod.mk.injEq] at H
    obtain ⟨rfl, rfl⟩ := H
    go_enter Tryd.func8, Tryd.ntmps8
    go_wp2_with (first | ((with_reducible refine gate_callee (f := 22) rfl ?_); refine goesL_ (some 12) rfl rfl Tryd.func22 (by kernel_rfl) rfl #[.string a0] rfl (by (try simp only [List.map_toArray, List.map_cons, List.map_nil]); first | done | rfl | (simp only [List.length_drop, List.length_take]; rfl)) ?_; (with_reducible refine (flatironref05_Tokens.calls k a0 t174 false _ A2.out).mono ?_); rintro e w59 ⟨v176, rfl, ho0, hb⟩; refine ⟨_, rfl, ?_⟩; have n0_ := Aside0.mk (Kd.R_lower ho0 (below_size (by repeat (first | (with_reducible first | exact HB.out | apply below_alloc | apply pw_below_drewN | apply below_drew1) | exact HB.out)))); have n1_ := Aside0.mk (below_step (by repeat (first | (with_reducible first | exact HB.out | apply below_alloc | apply pw_below_drewN | apply below_drew1) | exact HB.out)) hb); clear HB; have HO177 := n0_; have HB := n1_; clear n0_ n1_; (try clear hb); (try clear hb2); (try clear hk); (try clear hi); (try clear ho0)))
    go_ret2
    exact ⟨_, by first | rfl | (simp [errW_none, errW_some] <;> rfl) | (simp [*, errW_none, errW_some] <;> rfl), by first | exact Kd.S_nil _ _ _ _ _ | exact Kd.N_nil _ _ _ _ _ | exact Kd.V_nil _ _ _ _ _ | exact Kd.Q_nil _ _ _ _ _ | exact Kd.R_nil _ _ _ _ _, by repeat (first | (with_reducible first | exact HB.out | apply below_alloc | apply pw_below_drewN | apply below_drew1) | exact HB.out)⟩

end Go.Proofs.YtogbdjboblfokaaDoor.XW05
/- Laid for this claim by the session's own program xprint.py, over the print of the kit: functions of the program as plain Lean functions, each with a proof that a call comes to what its function says, or the row of a law out of these; no condition of its own. -/
namespace Go.Proofs.YtogbdjboblfokaaDoor.XW05
open Go.Proofs.YtogbdjboblfokaaDoor.X Go.Proofs.YtogbdjboblfokaaDoor.XT06 Go.RowKit Go.Proofs.YtogbdjboblfokaaDoorW.PrintWords Go.Proofs.YtogbdjboblfokaaDoorW.PrintLast Go.Proofs.YtogbdjboblfokaaDoorW.PrintMore
attribute [local go_sem] cell4_1 cell4_1d max2_int min2_int max_two min_two max_three min_three max_four min_four   -- for this text's walks alone
set_option linter.unusedVariables false
set_option linter.unusedSimpArgs false

attribute [local go_sem high] eqA77
/-! ### flatironref06_Show: function 14 -/
/-! ### slices_Equal_string_string: function 26 -/
def slices_Equal_string_string.l0 : Nat → List ByteArray → List ByteArray → Int → Int → Option (Bool)
  | 0, _, _, _, _ => none
  | k + 1, x0, x1, x12, x13 => if x13 < x12 then (if 0 ≤ x13 then (if x13 < (x0.length : Int) then (if x13 < (x1.length : Int) then (if (rdOf ByteArray.empty x0 x13).toList = (rdOf ByteArray.empty x1 x13).toList then (slices_Equal_string_string.l0 k x0 x1 x12 (wrap64 (x13 + 1))) else (some false)) else (none)) else (none)) else (none)) else (some true)
def slices_Equal_string_string.f (k : Nat) (l0 : List ByteArray) (l1 : List ByteArray) : Option (Bool) := if (l0.length : Int) = (l1.length : Int) then (slices_Equal_string_string.l0 k l0 l1 (l0.length : Int) 0) else (some false)
theorem slices_Equal_string_string.mono_l : ∀ k, (∀ y0 y1 y2 y3, LeO (slices_Equal_string_string.l0 k y0 y1 y2 y3) (slices_Equal_string_string.l0 (k + 1) y0 y1 y2 y3))
  | 0 => fun _ _ _ _ r h => by simp [slices_Equal_string_string.l0] at h
  | k + 1 => by
    have ih0 := slices_Equal_string_string.mono_l k
    · intro y0 y1 y2 y3
      unfold slices_Equal_string_string.l0
      repeat' first
      | (with_reducible exact ih0 _ _ _ _)
      | (with_reducible exact LeO.refl _)
      | (with_reducible exact LeO.none _)
      | (with_reducible refine LeO.ite ?_ ?_)
      | (with_reducible refine LeO.bind ?_ (fun _ => ?_))
      | exact ih0 _ _ _ _
      | exact LeO.none _
      | refine LeO.ite ?_ ?_
      | refine LeO.bind ?_ (fun _ => ?_)
theorem slices_Equal_string_string.mono : ∀ a0 a1 k, LeO (slices_Equal_string_string.f k a0 a1) (slices_Equal_string_string.f (k + 1) a0 a1) := by
  intro a0 a1 k
  have ih0 := slices_Equal_string_string.mono_l k
  unfold slices_Equal_string_string.f
  repeat' first
      | (with_reducible exact ih0 _ _ _ _)
      | (with_reducible exact LeO.refl _)
      | (with_reducible exact LeO.none _)
      | (with_reducible refine LeO.ite ?_ ?_)
      | (with_reducible refine LeO.bind ?_ (fun _ => ?_))
      | exact ih0 _ _ _ _
      | exact LeO.none _
      | refine LeO.ite ?_ ?_
      | refine LeO.bind ?_ (fun _ => ?_)
set_option maxHeartbeats 8000000 in
set_option maxRecDepth 100000 in
theorem slices_Equal_string_string.calls (k : Nat) (A0 : Option Addr) (c0 : Nat) (l0 : List ByteArray) (A1 : Option Addr) (c1 : Nat) (l1 : List ByteArray) (r : Bool) (w : World) (hr0 : Kd.C Kd.string w A0 l0.length l0) (hc0 : l0.length ≤ c0) (hr1 : Kd.C Kd.string w A1 l1.length l1) (hc1 : l1.length ≤ c1) (h : slices_Equal_string_string.f k l0 l1 = some r) :
    Calls Tryd.prog 26 #[.slice A0 l0.length c0, .slice A1 l1.length c1] w fun e w' => e = .returned (.bool r) ∧ Drawn0 w w' := by
  have HR0 := Aside0.mk hr0
  have HC0 := Aside0.mk hc0
  clear hr0 hc0
  have HR1 := Aside0.mk hr1
  have HC1 := Aside0.mk hc1
  clear hr1 hc1
  have H : (if (l0.length : Int) = (l1.length : Int) then (slices_Equal_string_string.l0 k l0 l1 (l0.length : Int) 0) else (some false)) = some r := h
  clear h
  by_cases c3 : (l0.length : Int) = (l1.length : Int)
  · rw [if_pos c3] at H
    have c3b0 : ((l0.length : Int) == (l1.length : Int)) = true := beq_iff_eq.mpr c3
    have c3b1 : ((l0.length : Int) != (l1.length : Int)) = false := bne_eq_false_iff_eq.mpr c3
    have c3b2 : (l0.length == l1.length) = true := by first | simpa using c3 | (simp at c3 ⊢; omega)
    clear c3
    have H' := Aside0.mk H
    clear H
    go_enter Tryd.func26, Tryd.ntmps26
    go_wp2
    repeat (go_quiet (fail); try go_wp2)
    go_loopg [13] k (fun kq v13 w' => ∃ (x13_1 : Int), v13 = .int .i64 x13_1 ∧ Aside0 (slices_Equal_string_string.l0 kq l0 l1 (l0.length : Int) x13_1 = some r) ∧ Aside0 (kq ≤ k) ∧ Drawn0 w w')
    case atStart => exact ⟨(0), (by first | rfl | (simp; done) | (simp [*]; done)), H', ⟨Nat.le_refl _⟩, by repeat (first | exact Drawn0.refl _ | apply Drawn0.step)⟩
    case round =>
      clear H'
      try clear c1
      try clear c2
      try clear p2
      try clear c3
      try clear c3b0
      try clear c3b1
      try clear c3b2
      obtain ⟨x13_1, rfl, HA, HK1, ⟨m1, rfl⟩⟩ := hrel
      cases gk with
      | zero => exact absurd HA.out (by simp [slices_Equal_string_string.l0])
      | succ k1 =>
        have H := HA.out
        clear HA
        simp only [slices_Equal_string_string.l0] at H
        by_cases c4 : x13_1 < (l0.length : Int)
        · rw [if_pos c4] at H
          have c4b0 : decide (x13_1 < (l0.length : Int)) = true := decide_eq_true c4
          clear c4
          by_cases c5 : 0 ≤ x13_1
          · rw [if_pos c5] at H
            have c5b0 : decide (0 ≤ x13_1) = true := decide_eq_true c5
            clear c5
            by_cases c6 : x13_1 < (l0.length : Int)
            · rw [if_pos c6] at H
              have c6b0 : decide (x13_1 < (l0.length : Int)) = true := decide_eq_true c6
              clear c6
              by_cases c7 : x13_1 < (l1.length : Int)
              · rw [if_pos c7] at H
                have c7b0 : decide (x13_1 < (l1.length : Int)) = true := decide_eq_true c7
                clear c7
                by_cases c8 : (rdOf ByteArray.empty l0 x13_1).toList = (rdOf ByteArray.empty l1 x13_1).toList
                · rw [if_pos c8] at H
                  have c8b0 : ((rdOf ByteArray.empty l0 x13_1).toList == (rdOf ByteArray.empty l1 x13_1).toList) = true := beq_iff_eq.mpr c8
                  have c8b1 : ((rdOf ByteArray.empty l0 x13_1).toList != (rdOf ByteArray.empty l1 x13_1).toList) = false := bne_eq_false_iff_eq.mpr c8
                  clear c8
                  have H' := Aside0.mk H
                  clear H
                  have p226 : 0 ≤ (x13_1 : Int) := of_decide_eq_true (by first | (with_reducible assumption) | assumption)
                  have q226 : x13_1 < (l0.length : Int) := of_decide_eq_true (by first | (with_reducible assumption) | assumption)
                  obtain ⟨ad226, e226, hx226_0⟩ := Kd.at_string HR0.out x13_1 p226 q226
                  cases e226
                  replace p226 := eq_true p226
                  replace q226 := eq_true q226
                  have p227 : 0 ≤ (x13_1 : Int) := of_decide_eq_true (by first | (with_reducible assumption) | assumption)
                  have q227 : x13_1 < (l1.length : Int) := of_decide_eq_true (by first | (with_reducible assumption) | assumption)
                  obtain ⟨ad227, e227, hx227_0⟩ := Kd.at_string HR1.out x13_1 p227 q227
                  cases e227
                  replace p227 := eq_true p227
                  replace q227 := eq_true q227
                  go_wp2
                  repeat (go_quiet (fail); try go_wp2)
                  go_roundg k1
                  case measure => have := HK1.out; omega
                  case rel => exact ⟨(wrap64 (x13_1 + 1)), (by first | rfl | (simp; done) | (simp [*]; done)), H', ⟨by have := HK1.out; omega⟩, by repeat (first | exact Drawn0.refl _ | apply Drawn0.step)⟩
                · rw [if_neg c8] at H
                  have c8b0 : ((rdOf ByteArray.empty l0 x13_1).toList == (rdOf ByteArray.empty l1 x13_1).toList) = false := beq_eq_false_iff_ne.mpr c8
                  have c8b1 : ((rdOf ByteArray.empty l0 x13_1).toList != (rdOf ByteArray.empty l1 x13_1).toList) = true := bne_iff_ne.mpr c8
                  obtain rfl := Option.some.inj H
                  have p226 : 0 ≤ (x13_1 : Int) := of_decide_eq_true (by first | (with_reducible assumption) | assumption)
                  have q226 : x13_1 < (l0.length : Int) := of_decide_eq_true (by first | (with_reducible assumption) | assumption)
                  obtain ⟨ad226, e226, hx226_0⟩ := Kd.at_string HR0.out x13_1 p226 q226
                  cases e226
                  replace p226 := eq_true p226
                  replace q226 := eq_true q226
                  have p227 : 0 ≤ (x13_1 : Int) := of_decide_eq_true (by first | (with_reducible assumption) | assumption)
                  have q227 : x13_1 < (l1.length : Int) := of_decide_eq_true (by first | (with_reducible assumption) | assumption)
                  obtain ⟨ad227, e227, hx227_0⟩ := Kd.at_string HR1.out x13_1 p227 q227
                  cases e227
                  replace p227 := eq_true p227
                  replace q227 := eq_true q227
                  go_wp2
                  repeat (go_quiet (fail); try go_wp2)
                  go_ret
                  exact ⟨by first | rfl | (simp; done) | (simp [*]; done), by repeat (first | exact Drawn0.refl _ | apply Drawn0.step)⟩
              · rw [if_neg c7] at H
                exact absurd H (by simp)
            · rw [if_neg c6] at H
              exact absurd H (by simp)
          · rw [if_neg c5] at H
            exact absurd H (by simp)
        · rw [if_neg c4] at H
          have c4b0 : decide (x13_1 < (l0.length : Int)) = false := decide_eq_false c4
          clear c4
          obtain rfl := Option.some.inj H
          go_wp2
          repeat (go_quiet (fail); try go_wp2)
          go_ret
          exact ⟨by first | rfl | (simp; done) | (simp [*]; done), by repeat (first | exact Drawn0.refl _ | apply Drawn0.step)⟩
  · rw [if_neg c3] at H
    have c3b0 : ((l0.length : Int) == (l1.length : Int)) = false := beq_eq_false_iff_ne.mpr c3
    have c3b1 : ((l0.length : Int) != (l1.length : Int)) = true := bne_iff_ne.mpr c3
    have c3b2 : (l0.length == l1.length) = false := by first | simpa using c3 | (simp at c3 ⊢; omega)
    obtain rfl := Option.some.inj H
    go_enter Tryd.func26, Tryd.ntmps26
    go_wp2
    repeat (go_quiet (fail); try go_wp2)
    go_ret
    exact ⟨by first | rfl | (simp; done) | (simp [*]; done), by repeat (first | exact Drawn0.refl _ | apply Drawn0.step)⟩

/-! ### flatironref06_To: function 27 -/
def flatironref06_To.l0 : Nat → List (S77) → List (S77) → Int → Int → Option (Bool)
  | 0, _, _, _, _ => none
  | k + 1, x0, x1, x12, x13 => if x13 < x12 then (if 0 ≤ x13 then (if x13 < (x0.length : Int) then (if x13 < (x1.length : Int) then (if (!(((rd_T77 x0 x13).f0) == ((rd_T77 x1 x13).f0)) || (!((((rd_T77 x0 x13).f1).toList) == (((rd_T77 x1 x13).f1).toList)))) = true then (some false) else (flatironref06_To.l0 k x0 x1 x12 (wrap64 (x13 + 1)))) else (none)) else (none)) else (none)) else (some true)
def flatironref06_To.f (k : Nat) (l0 : List (S77)) (l1 : List (S77)) : Option (Bool) := if (l0.length : Int) = (l1.length : Int) then (flatironref06_To.l0 k l0 l1 (l0.length : Int) 0) else (some false)
theorem flatironref06_To.mono_l : ∀ k, (∀ y0 y1 y2 y3, LeO (flatironref06_To.l0 k y0 y1 y2 y3) (flatironref06_To.l0 (k + 1) y0 y1 y2 y3))
  | 0 => fun _ _ _ _ r h => by simp [flatironref06_To.l0] at h
  | k + 1 => by
    have ih0 := flatironref06_To.mono_l k
    · intro y0 y1 y2 y3
      unfold flatironref06_To.l0
      repeat' first
      | (with_reducible exact ih0 _ _ _ _)
      | (with_reducible exact LeO.refl _)
      | (with_reducible exact LeO.none _)
      | (with_reducible refine LeO.ite ?_ ?_)
      | (with_reducible refine LeO.bind ?_ (fun _ => ?_))
      | exact ih0 _ _ _ _
      | exact LeO.none _
      | refine LeO.ite ?_ ?_
      | refine LeO.bind ?_ (fun _ => ?_)
theorem flatironref06_To.mono : ∀ a0 a1 k, LeO (flatironref06_To.f k a0 a1) (flatironref06_To.f (k + 1) a0 a1) := by
  intro a0 a1 k
  have ih0 := flatironref06_To.mono_l k
  unfold flatironref06_To.f
  repeat' first
      | (with_reducible exact ih0 _ _ _ _)
      | (with_reducible exact LeO.refl _)
      | (with_reducible exact LeO.none _)
      | (with_reducible refine LeO.ite ?_ ?_)
      | (with_reducible refine LeO.bind ?_ (fun _ => ?_))
      | exact ih0 _ _ _ _
      | exact LeO.none _
      | refine LeO.ite ?_ ?_
      | refine LeO.bind ?_ (fun _ => ?_)
set_option maxHeartbeats 8000000 in
set_option maxRecDepth 100000 in
theorem flatironref06_To.calls (k : Nat) (A0 : Option Addr) (c0 : Nat) (l0 : List (S77)) (A1 : Option Addr) (c1 : Nat) (l1 : List (S77)) (r : Bool) (w : World) (hr0 : Kd.C k77 w A0 l0.length l0) (hc0 : l0.length ≤ c0) (hr1 : Kd.C k77 w A1 l1.length l1) (hc1 : l1.length ≤ c1) (h : flatironref06_To.f k l0 l1 = some r) :
    Calls Tryd.prog 27 #[.slice A0 l0.length c0, .slice A1 l1.length c1] w fun e w' => e = .returned (.bool r) ∧ Drawn0 w w' := by
  have hu77 := Tryd.underlying77
  have HR0 := Aside0.mk hr0
  have HC0 := Aside0.mk hc0
  clear hr0 hc0
  have HR1 := Aside0.mk hr1
  have HC1 := Aside0.mk hc1
  clear hr1 hc1
  have H : (if (l0.length : Int) = (l1.length : Int) then (flatironref06_To.l0 k l0 l1 (l0.length : Int) 0) else (some false)) = some r := h
  clear h
  by_cases c3 : (l0.length : Int) = (l1.length : Int)
  · rw [if_pos c3] at H
    have c3b0 : ((l0.length : Int) == (l1.length : Int)) = true := beq_iff_eq.mpr c3
    have c3b1 : ((l0.length : Int) != (l1.length : Int)) = false := bne_eq_false_iff_eq.mpr c3
    have c3b2 : (l0.length == l1.length) = true := by first | simpa using c3 | (simp at c3 ⊢; omega)
    clear c3
    have H' := Aside0.mk H
    clear H
    go_enter Tryd.func27, Tryd.ntmps27
    go_wp2
    repeat (go_quiet (fail); try go_wp2)
    go_loopg [13] k (fun kq v13 w' => ∃ (x13_1 : Int), v13 = .int .i64 x13_1 ∧ Aside0 (flatironref06_To.l0 kq l0 l1 (l0.length : Int) x13_1 = some r) ∧ Aside0 (kq ≤ k) ∧ Drawn0 w w')
    case atStart => exact ⟨(0), (by first | rfl | (simp; done) | (simp [*]; done)), H', ⟨Nat.le_refl _⟩, by repeat (first | exact Drawn0.refl _ | apply Drawn0.step)⟩
    case round =>
      clear H'
      try clear c1
      try clear c2
      try clear p2
      try clear c3
      try clear c3b0
      try clear c3b1
      try clear c3b2
      obtain ⟨x13_1, rfl, HA, HK1, ⟨m1, rfl⟩⟩ := hrel
      cases gk with
      | zero => exact absurd HA.out (by simp [flatironref06_To.l0])
      | succ k1 =>
        have H := HA.out
        clear HA
        simp only [flatironref06_To.l0] at H
        by_cases c4 : x13_1 < (l0.length : Int)
        · rw [if_pos c4] at H
          have c4b0 : decide (x13_1 < (l0.length : Int)) = true := decide_eq_true c4
          clear c4
          by_cases c5 : 0 ≤ x13_1
          · rw [if_pos c5] at H
            have c5b0 : decide (0 ≤ x13_1) = true := decide_eq_true c5
            clear c5
            by_cases c6 : x13_1 < (l0.length : Int)
            · rw [if_pos c6] at H
              have c6b0 : decide (x13_1 < (l0.length : Int)) = true := decide_eq_true c6
              clear c6
              by_cases c7 : x13_1 < (l1.length : Int)
              · rw [if_pos c7] at H
                have c7b0 : decide (x13_1 < (l1.length : Int)) = true := decide_eq_true c7
                clear c7
                by_cases c8 : (!(((rd_T77 l0 x13_1).f0) == ((rd_T77 l1 x13_1).f0)) || (!((((rd_T77 l0 x13_1).f1).toList) == (((rd_T77 l1 x13_1).f1).toList)))) = true
                · rw [if_pos c8] at H
                  have c8b0 : (!(((rd_T77 l0 x13_1).f0) == ((rd_T77 l1 x13_1).f0)) || (!((((rd_T77 l0 x13_1).f1).toList) == (((rd_T77 l1 x13_1).f1).toList)))) = true := c8
                  clear c8
                  obtain rfl := Option.some.inj H
                  have p228 : 0 ≤ (x13_1 : Int) := of_decide_eq_true (by first | (with_reducible assumption) | assumption)
                  have q228 : x13_1 < (l0.length : Int) := of_decide_eq_true (by first | (with_reducible assumption) | assumption)
                  obtain ⟨ad228, e228, hx228_0, hx228_1⟩ := at_T77 HR0.out x13_1 p228 q228
                  cases e228
                  replace p228 := eq_true p228
                  replace q228 := eq_true q228
                  have p229 : 0 ≤ (x13_1 : Int) := of_decide_eq_true (by first | (with_reducible assumption) | assumption)
                  have q229 : x13_1 < (l1.length : Int) := of_decide_eq_true (by first | (with_reducible assumption) | assumption)
                  obtain ⟨ad229, e229, hx229_0, hx229_1⟩ := at_T77 HR1.out x13_1 p229 q229
                  cases e229
                  replace p229 := eq_true p229
                  replace q229 := eq_true q229
                  go_wp2
                  repeat (go_quiet (fail); try go_wp2)
                  go_ret
                  exact ⟨by first | rfl | (simp; done) | (simp [*]; done), by repeat (first | exact Drawn0.refl _ | apply Drawn0.step)⟩
                · rw [if_neg c8] at H
                  have c8b0 : (!(((rd_T77 l0 x13_1).f0) == ((rd_T77 l1 x13_1).f0)) || (!((((rd_T77 l0 x13_1).f1).toList) == (((rd_T77 l1 x13_1).f1).toList)))) = false := by simpa using c8
                  clear c8
                  have H' := Aside0.mk H
                  clear H
                  have p228 : 0 ≤ (x13_1 : Int) := of_decide_eq_true (by first | (with_reducible assumption) | assumption)
                  have q228 : x13_1 < (l0.length : Int) := of_decide_eq_true (by first | (with_reducible assumption) | assumption)
                  obtain ⟨ad228, e228, hx228_0, hx228_1⟩ := at_T77 HR0.out x13_1 p228 q228
                  cases e228
                  replace p228 := eq_true p228
                  replace q228 := eq_true q228
                  have p229 : 0 ≤ (x13_1 : Int) := of_decide_eq_true (by first | (with_reducible assumption) | assumption)
                  have q229 : x13_1 < (l1.length : Int) := of_decide_eq_true (by first | (with_reducible assumption) | assumption)
                  obtain ⟨ad229, e229, hx229_0, hx229_1⟩ := at_T77 HR1.out x13_1 p229 q229
                  cases e229
                  replace p229 := eq_true p229
                  replace q229 := eq_true q229
                  go_wp2
                  repeat (go_quiet (fail); try go_wp2)
                  go_roundg k1
                  case measure => have := HK1.out; omega
                  case rel => exact ⟨(wrap64 (x13_1 + 1)), (by first | rfl | (simp; done) | (simp [*]; done)), H', ⟨by have := HK1.out; omega⟩, by repeat (first | exact Drawn0.refl _ | apply Drawn0.step)⟩
              · rw [if_neg c7] at H
                exact absurd H (by simp)
            · rw [if_neg c6] at H
              exact absurd H (by simp)
          · rw [if_neg c5] at H
            exact absurd H (by simp)
        · rw [if_neg c4] at H
          have c4b0 : decide (x13_1 < (l0.length : Int)) = false := decide_eq_false c4
          clear c4
          obtain rfl := Option.some.inj H
          go_wp2
          repeat (go_quiet (fail); try go_wp2)
          go_ret
          exact ⟨by first | rfl | (simp; done) | (simp [*]; done), by repeat (first | exact Drawn0.refl _ | apply Drawn0.step)⟩
  · rw [if_neg c3] at H
    have c3b0 : ((l0.length : Int) == (l1.length : Int)) = false := beq_eq_false_iff_ne.mpr c3
    have c3b1 : ((l0.length : Int) != (l1.length : Int)) = true := bne_iff_ne.mpr c3
    have c3b2 : (l0.length == l1.length) = false := by first | simpa using c3 | (simp at c3 ⊢; omega)
    obtain rfl := Option.some.inj H
    go_enter Tryd.func27, Tryd.ntmps27
    go_wp2
    repeat (go_quiet (fail); try go_wp2)
    go_ret
    exact ⟨by first | rfl | (simp; done) | (simp [*]; done), by repeat (first | exact Drawn0.refl _ | apply Drawn0.step)⟩

end Go.Proofs.YtogbdjboblfokaaDoor.XW05
/- Laid for this claim by the session's own program xprint.py, over the print of the kit: functions of the program as plain Lean functions, each with a proof that a call comes to what its function says, or the row of a law out of these; no condition of its own. -/
namespace Go.Proofs.YtogbdjboblfokaaDoor.XW05
open Go.Proofs.YtogbdjboblfokaaDoor.X Go.Proofs.YtogbdjboblfokaaDoor.XT06 Go.RowKit Go.Proofs.YtogbdjboblfokaaDoorW.PrintWords Go.Proofs.YtogbdjboblfokaaDoorW.PrintLast Go.Proofs.YtogbdjboblfokaaDoorW.PrintMore
attribute [local go_sem] cell4_1 cell4_1d max2_int min2_int max_two min_two max_three min_three max_four min_four   -- for this text's walks alone
set_option linter.unusedVariables false
set_option linter.unusedSimpArgs false

end Go.Proofs.YtogbdjboblfokaaDoor.XW05
/- lex.mark and lex.Tokens say the plain tokens; plain Lean. -/
namespace Go.Proofs.YtogbdjboblfokaaDoor.X
open Go.RowKit Go.Proofs.YtogbdjboblfokaaDoorW.PrintWords Go.Proofs.YtogbdjboblfokaaDoorW.PrintLast Go.Proofs.YtogbdjboblfokaaDoorW.PrintMore Go.Proofs.YtogbdjboblfokaaDoor.XW05
open Go.Proofs.YtogbdjboblfokaaDoor.XT06
set_option linter.unusedSimpArgs false
set_option linter.unusedVariables false

def s94 (x : List UInt8 × Nat) : S118 := ⟨B x.1, (x.2 : Int)⟩
def s83 (x : Nat × List UInt8) : S66 := ⟨(x.1 : Int), B x.2⟩
def firstM (T : List (List UInt8 × Nat)) (l : List UInt8) : Nat × Nat :=
  match T with
  | [] => (0, 0)
  | x :: T => if x.1.isPrefixOf l = true then (x.2, x.1.length) else firstM T l
theorem mark_loop (l : List UInt8) (T : List (List UInt8 × Nat)) (hT : T.length < 100) : ∀ i, i ≤ T.length → Ev (fun k => lex_mark.l0 k (B l) (T.map s94) (T.length : Int) (i : Int)) (((firstM (T.drop i) l).1 : Int), ((firstM (T.drop i) l).2 : Int)) := by
  refine upto_ind ?_ ?_
  · refine Ev.step (fun k => by rw [lex_mark.l0]) ?_
    refine Ev.neg (by omega) ?_
    rw [List.drop_length]
    exact Ev.ret _
  · intro i hi ih
    have r : rd_T118 (T.map s94) (i : Int) = s94 T[i] := by
      unfold rd_T118
      rw [show ((i : Int)).toNat = i from rfl, List.getD_eq_getElem?_getD, List.getElem?_map, List.getElem?_eq_getElem hi]
      rfl
    rw [← wrap_succ i (by omega)] at ih
    refine Ev.step (fun k => by rw [lex_mark.l0]) ?_
    rw [r]
    refine Ev.pos (by omega) ?_
    refine Ev.pos (by omega) ?_
    refine Ev.pos (by simp; omega) ?_
    have hp : strings_HasPrefix.f (B l) (s94 T[i]).f0 = some (T[i].1.isPrefixOf l) := by
      unfold strings_HasPrefix.f s94
      rw [B_data, B_data]
      rfl
    refine Ev.bind (Ev.of hp) ?_
    rw [List.drop_eq_getElem_cons hi, firstM]
    refine Ev.ite (fun h => ?_) (fun h => ?_)
    · rw [if_pos h]
      refine Ev.eq (Ev.ret _) ?_
      show ((T[i].2 : Int), (((B T[i].1).size : Nat) : Int)) = _
      rw [B_size]
    · rw [if_neg h]
      exact ih
def marksT : List (List UInt8 × Nat) := [([38, 38], 2), ([124, 124], 3), ([62, 62], 5), ([62], 4), ([60], 6), ([59], 1)]
theorem firstM_eq (l : List UInt8) : firstM marksT l = (match markS l with | some (k, n, _) => (k, n) | none => (0, 0)) := by
  cases l with
  | nil => simp [firstM, marksT, markS]
  | cons b m =>
    cases m with
    | nil =>
      simp only [firstM, marksT, markS, List.isPrefixOf, Bool.and_false, Bool.and_true, Bool.false_eq_true, if_false, beq_iff_eq]
      simp only [eq_comm (a := (62 : UInt8)), eq_comm (a := (60 : UInt8)), eq_comm (a := (59 : UInt8))]
      repeat' split
      all_goals first | rfl | (simp_all; done) | (simp_all; omega)
    | cons c r =>
      simp only [firstM, marksT, markS, List.isPrefixOf, Bool.and_true, Bool.and_eq_true, beq_iff_eq]
      simp only [eq_comm (a := (62 : UInt8)), eq_comm (a := (60 : UInt8)), eq_comm (a := (59 : UInt8)), eq_comm (a := (38 : UInt8)), eq_comm (a := (124 : UInt8))]
      repeat' split
      all_goals first | rfl | (simp_all; done) | (simp_all; omega)
theorem mark_ev (l : List UInt8) : Ev (fun k => lex_mark.f k (B l)) (((firstM marksT l).1 : Int), ((firstM marksT l).2 : Int)) := by
  refine Ev.congr (fun k => by rw [lex_mark.f]) ?_
  have hm : lex_marks.f = some (marksT.map s94) := by unfold lex_marks.f; rfl
  refine Ev.bind (Ev.of hm) ?_
  have := mark_loop l marksT (by decide) 0 (by decide)
  exact this
/-- What lex.Tokens answers. -/
def resT (o : Option (List (Nat × List UInt8))) : List S66 × Int := match o with | some res => (res.map s83, 0) | none => ([], 6)
theorem word_eq (l : List UInt8) (hl : l.length < 4294967281) : lex_word.f (B l) = some (resQ ((wS [] l).map (fun p => (p.1, l.length - p.2.length)))) := by
  unfold lex_word.f
  rw [if_pos (by rw [B_size]; exact hl), B_data, wA_eq l _ 0 [] (Nat.le_refl _) (Nat.zero_le _), List.drop_zero]
theorem Tokens_loop : ∀ d (l : List UInt8) (out : List (Nat × List UInt8)), l.length ≤ d → out.length + l.length < 4294967281 → Ev (fun k => lex_Tokens.l0 k (B l) (out.map s83)) (resT (tokS out l)) := by
  intro d
  induction d with
  | zero =>
    intro l out hd hs
    cases l with
    | nil =>
      refine Ev.step (fun k => by rw [lex_Tokens.l0]) ?_
      refine Ev.pos (by rw [B_toList]) ?_
      rw [tokS_nil]
      exact Ev.ret _
    | cons b r => simp at hd
  | succ d ih =>
    intro l out hd hs
    cases l with
    | nil =>
      refine Ev.step (fun k => by rw [lex_Tokens.l0]) ?_
      refine Ev.pos (by rw [B_toList]) ?_
      rw [tokS_nil]
      exact Ev.ret _
    | cons b r =>
      have hsz : (B (b :: r)).size = r.length + 1 := by rw [B_size]; simp
      have hbt : bt (B (b :: r)) 0 = (b.toNat : Int) := bt_B (b :: r) 0 (by simp)
      have hdr : ∀ n : Nat, (B (b :: r)).extract n (B (b :: r)).size = B ((b :: r).drop n) := by
        intro n
        rw [B_size, B_extract, List.take_of_length_le (Nat.le_refl _)]
      simp only [List.length_cons] at hd hs
      have hm := mark_ev (b :: r)
      refine Ev.step (fun k => by rw [lex_Tokens.l0]) ?_
      refine Ev.neg (by rw [B_toList]; simp) ?_
      refine Ev.pos (by rw [hsz]; omega) ?_
      rw [hbt]
      have hix : strings_IndexByte.f (⟨#[32, 9, 10]⟩ : ByteArray) (b.toNat : Int) = some (Lib.indexByte [32, 9, 10] b) := by
        unfold strings_IndexByte.f
        rw [u8_back]
      refine Ev.bind (Ev.of hix) ?_
      refine Ev.iff (show (Lib.indexByte [32, 9, 10] b ≥ 0) = (blk b = true) from propext (by rw [← decide_eq_true_iff (p := Lib.indexByte [32, 9, 10] b ≥ 0), idx_mem]; rfl)) ?_ ?_
      · intro hb
        rw [tokS_blk _ _ _ hb]
        refine Ev.pos (by rw [hsz]; omega) ?_
        rw [hdr 1]
        exact ih r out (by omega) (by omega)
      · intro hb
        refine Ev.bind hm ?_
        rw [firstM_eq]
        cases hmk : markS (b :: r) with
        | some x =>
          obtain ⟨k, n, r'⟩ := x
          obtain ⟨⟨p, hp, hpl⟩, h0, _, _⟩ := markS_suffix hmk
          have hlen := congrArg List.length hp
          simp only [List.length_append, List.length_cons] at hlen
          rw [tokS_mark _ _ _ hb k n r' hmk]
          refine Ev.pos (show ((n : Int)) > 0 by omega) ?_
          refine Ev.pos (by rw [List.length_map]; omega) ?_
          refine Ev.pos (show (0 : Int) ≤ (n : Int) by omega) ?_
          refine Ev.pos (show (n : Int) ≤ ((B (b :: r)).size : Int) by rw [hsz]; omega) ?_
          have := ih r' (out ++ [(k, [])]) (by omega) (by simp; omega)
          rw [List.map_append] at this
          rw [show ((n : Int)).toNat = n from rfl, hdr n, show (b :: r).drop n = r' by rw [hp, ← hpl]; simp]
          exact this
        | none =>
          refine Ev.neg (show ¬ (((0 : Nat) : Int)) > 0 by decide) ?_
          have hwe := word_eq (b :: r) (by simp; omega)
          cases hw : wS [] (b :: r) with
          | none =>
            rw [tokS_bad _ _ _ hb hmk hw]
            rw [hw] at hwe
            have hwe' : lex_word.f (B (b :: r)) = some (B [], -1) := hwe
            refine Ev.bind (Ev.of hwe') ?_
            exact Ev.pos (show (-1 : Int) ≤ 0 by decide) (Ev.ret _)
          | some x =>
            obtain ⟨t, r'⟩ := x
            obtain ⟨⟨p, hp⟩, _⟩ := wS_suffix _ _ _ _ _ (Nat.le_refl _) hw
            have hlen := congrArg List.length hp
            simp only [List.length_append, List.length_cons] at hlen
            have hds := drop_of_suffix hp
            rw [tokS_word _ _ _ hb hmk t r' hw]
            obtain ⟨n, hn⟩ : ∃ n, (b :: r).length - r'.length = n := ⟨_, rfl⟩
            have hn' := hn
            simp only [List.length_cons] at hn'
            rw [hn] at hds
            have hwe' : lex_word.f (B (b :: r)) = some (B t, (n : Int)) := by rw [hwe, hw, ← hn]; rfl
            refine Ev.bind (Ev.of hwe') ?_
            refine Ev.iff (show ((n : Int) ≤ 0) = (¬ r'.length < (b :: r).length) by simp only [List.length_cons]; exact propext ⟨fun h => by omega, fun h => by omega⟩) ?_ ?_
            · intro h
              rw [if_neg h]
              exact Ev.ret _
            · intro h
              have h' : r'.length < (b :: r).length := Classical.not_not.mp h
              rw [if_pos h']
              simp only [List.length_cons] at h'
              refine Ev.pos (by rw [List.length_map]; omega) ?_
              refine Ev.pos (by omega) ?_
              refine Ev.pos (by rw [hsz]; omega) ?_
              have := ih r' (out ++ [(0, t)]) (by omega) (by simp; omega)
              rw [List.map_append] at this
              rw [show ((n : Int)).toNat = n from rfl, hdr n, hds]
              exact this
theorem Tokens_ev (l : List UInt8) (hl : l.length < 4294967281) : Ev (fun k => lex_Tokens.f k (B l)) (resT (tokS [] l)) := by
  refine Ev.congr (fun k => by rw [lex_Tokens.f]) ?_
  exact Tokens_loop _ l [] (Nat.le_refl _) (by simpa using hl)
end Go.Proofs.YtogbdjboblfokaaDoor.X
/- parse.reader: next, take, as contracts over the tokens' row. -/
namespace Go.Proofs.YtogbdjboblfokaaDoor.X
open Go.RowKit Go.Proofs.YtogbdjboblfokaaDoorW.PrintWords Go.Proofs.YtogbdjboblfokaaDoorW.PrintLast Go.Proofs.YtogbdjboblfokaaDoorW.PrintMore Go.Proofs.YtogbdjboblfokaaDoor.XW05 Go.Proofs.YtogbdjboblfokaaDoor.XT06
set_option linter.unusedSimpArgs false
set_option linter.unusedVariables false

/-- The reader at br: the tokens from i on, of N in the row at b. -/
def RdI (br b i N : Nat) (W : World) : Prop := i ≤ N ∧ ∃ A c, W.heap[br]? = some (.cells #[.slice A (N - i) c] 62 (0, 0)) ∧ (i < N → A = some ⟨b, i * 2, none⟩ ∧ N - i ≤ c)
theorem nblk_setCell (w : World) (a : Addr) (v : Value) : (w.setCell a v).heap.size = w.heap.size := by simp [World.setCell]
theorem World.grownBy_set (w : World) (g j : Nat) (v : Value) : w.grownBy (w.setCell ⟨g, j, none⟩ v) (some g) :=
  ⟨rfl, rfl, rfl, Nat.le_of_eq (nblk_setCell w _ v).symm, fun k _ hk => Below.heap_setCell w _ v k (fun e => hk (by rw [e]))⟩
def nextK : List Tok → Int
  | [] => -1
  | (k, _) :: _ => (k : Int)
theorem tok_cells {e base b N C : Nat} {ok : Nat → Prop} {W : World} {toks : List Tok} (h : Kd.R k66 e W base ok (.slice (some ⟨b, 0, none⟩) N C) (toks.map s83)) (i : Nat) (hi : i < toks.length) :
    W.cell? ⟨b, i * 2, none⟩ = some (.int .i64 (toks[i].1 : Int)) ∧ W.cell? ⟨b, i * 2 + 1, none⟩ = some (.string (B toks[i].2)) := by
  obtain ⟨g1, g2, g3⟩ := Kd.R_reads' h
  obtain ⟨ad, e1, h1, h2⟩ := at_T66 g3 (i : Int) (by omega) (by rw [List.length_map]; omega)
  injection e1 with e1
  subst e1
  have r : rd_T66 (toks.map s83) (i : Int) = s83 toks[i] := by
    unfold rd_T66
    rw [show ((i : Int)).toNat = i from rfl, List.getD_eq_getElem?_getD, List.getElem?_map, List.getElem?_eq_getElem hi]
    rfl
  rw [r] at h1 h2
  have ea : (⟨b, 0, none⟩ : Addr).add (((i : Int)).toNat * 2) = ⟨b, i * 2, none⟩ := by
    rw [Addr.add_lit, show ((i : Int)).toNat = i from rfl, Nat.zero_add]
  rw [ea] at h1 h2
  exact ⟨h1, h2⟩
set_option maxRecDepth 100000 in
set_option maxHeartbeats 1000000 in
theorem next_calls {e base : Nat} {ok : Nat → Prop} (br b i N C : Nat) (toks : List Tok) (w : World) (hN : toks.length = N) (h : RdI br b i N w) (hT : Kd.R k66 e w base ok (.slice (some ⟨b, 0, none⟩) N C) (toks.map s83)) :
    Calls Tryd.prog 43 #[.pointer (some ⟨br, 0, none⟩)] w fun e w' => e = .returned (.int .i64 (nextK (toks.drop i))) ∧ w' = w := by
  obtain ⟨hi, A, c, hb, hA⟩ := h
  have c0 := blk_cell hb 0
  by_cases hlt : i < N
  · obtain ⟨rfl, hc⟩ := hA hlt
    obtain ⟨h1, h2⟩ := tok_cells hT i (by omega)
    have hz : (((N - i : Nat) : Int) == 0) = false := by simp; omega
    have hz1 : (0 : Int) < ((N - i : Nat) : Int) := by omega
    obtain ⟨n, hn⟩ : ∃ n, N - i = n := ⟨_, rfl⟩
    rw [hn] at hz hz1 c0
    rw [drop_get toks i (by omega)]
    obtain ⟨k, x, hx⟩ : ∃ k x, toks[i] = (k, x) := ⟨_, _, rfl⟩
    rw [hx] at h1 h2 ⊢
    simp only at h1 h2
    clear hT hb hA hx
    go_enter Tryd.func43, Tryd.ntmps43
    go_wp2
    go_ret
    exact ⟨rfl, rfl⟩
  · have : i = N := by omega
    subst this
    have hd : toks.drop i = [] := List.drop_eq_nil_of_le (by omega)
    rw [hd]
    rw [Nat.sub_self] at c0
    clear hT hb hA
    go_enter Tryd.func43, Tryd.ntmps43
    go_wp2
    go_ret
    exact ⟨rfl, rfl⟩
set_option maxRecDepth 100000 in
set_option maxHeartbeats 1000000 in
theorem take_calls {base : Nat} {ok : Nat → Prop} (br b i N C : Nat) (toks : List Tok) (w : World) (hN : toks.length = N) (h : RdI br b i N w) (hi : i < toks.length) (hT : Kd.R k66 66 w base ok (.slice (some ⟨b, 0, none⟩) N C) (toks.map s83)) :
    Calls Tryd.prog 21 #[.pointer (some ⟨br, 0, none⟩)] w fun e w' => e = .returned (.agg #[.int .i64 (toks[i].1 : Int), .string (B toks[i].2)]) ∧ RdI br b (i + 1) N w' ∧ w.grownBy w' (some br) := by
  obtain ⟨hi', A, c, hb, hA⟩ := h
  have c0 := blk_cell hb 0
  obtain ⟨rfl, hc⟩ := hA (by omega)
  obtain ⟨h1, h2⟩ := tok_cells hT i hi
  have hz1 : (0 : Int) < ((N - i : Nat) : Int) := by omega
  have hz2 : (1 : Int) ≤ ((N - i : Nat) : Int) := by omega
  obtain ⟨n, hn⟩ : ∃ n, N - i = n := ⟨_, rfl⟩
  have hz3 : (n : Int) ≤ (c : Int) := by omega
  rw [hn] at hz1 hz2 c0
  obtain ⟨k, x, hx⟩ : ∃ k x, toks[i] = (k, x) := ⟨_, _, rfl⟩
  rw [hx] at h1 h2 ⊢
  simp only at h1 h2 ⊢
  have hbl := blk_lt hb
  have b1 := blk_alloc hb (.cells #[.int .i64 0, .string ⟨#[]⟩] 66)
  have b1a := blk_new w (.cells #[.int .i64 0, .string ⟨#[]⟩] 66 (0, 0))
  have h1a := (World.cell?_alloc_lt w (.cells #[.int .i64 0, .string ⟨#[]⟩] 66) _ (World.block_lt_of_cell? _ _ h1)).trans h1
  have h2a := (World.cell?_alloc_lt w (.cells #[.int .i64 0, .string ⟨#[]⟩] 66) _ (World.block_lt_of_cell? _ _ h2)).trans h2
  have b2 := blk_alloc b1 (.cells #[.int .i64 (k : Int), .string (B x)] 66)
  have b2a := blk_alloc b1a (.cells #[.int .i64 (k : Int), .string (B x)] 66)
  have b2b := blk_new (w.alloc (.cells #[.int .i64 0, .string ⟨#[]⟩] 66)) (.cells #[.int .i64 (k : Int), .string (B x)] 66 (0, 0))
  have c1 := blk_cell b1 0
  have c2 := blk_cell b2 0
  have c2a := blk_cell b2a 0
  have c2b := blk_cell b2a 1
  have f2 := blk_frozen b2 0
  have fin : ∀ (A' : Option Addr) (c' : Nat), (i + 1 < N → A' = some ⟨b, (i + 1) * 2, none⟩ ∧ N - (i + 1) ≤ c') → ∀ X, X = ((w.setCell ⟨br, 0, none⟩ (.slice A' (n - 1) c')).alloc (.cells #[.int .i64 (k : Int), .string (B x)] 66)).alloc (.cells #[.int .i64 (k : Int), .string (B x)] 66) →
      RdI br b (i + 1) N X ∧ w.grownBy X (some br) ∧ X.heap[w.heap.size]? = some (.cells #[.int .i64 (k : Int), .string (B x)] 66 (0, 0)) := by
    rintro A' c' h' X rfl
    have hbs := blk_put hb 0 (.slice A' (n - 1) c') (cs' := #[.slice A' (n - 1) c']) rfl
    have hgs : w.grownBy (w.setCell ⟨br, 0, none⟩ (.slice A' (n - 1) c')) (some br) := World.grownBy_set w br 0 _
    refine ⟨⟨by omega, A', c', ?_, h'⟩, ((hgs.trans (World.grownBy_alloc _ _ _)).trans (World.grownBy_alloc _ _ _)), ?_⟩
    · rw [show N - (i + 1) = n - 1 by omega]
      exact blk_alloc (blk_alloc hbs _) _
    · have := blk_new (w.setCell ⟨br, 0, none⟩ (.slice A' (n - 1) c')) (.cells #[.int .i64 (k : Int), .string (B x)] 66 (0, 0))
      rw [nblk_setCell] at this
      exact blk_alloc this _
  have FIN := Aside0.mk fin
  clear fin hT hN b1 b1a b2 b2a b2b hA
  by_cases hc1 : c = 1
  · subst hc1
    go_enter Tryd.func21, Tryd.ntmps21
    go_wp2
    obtain ⟨r1, r2, r3⟩ := FIN.out (some ⟨b, i * 2, none⟩) 0 (by omega) _ rfl
    refine bodyPost_ret (results_single rfl (.cell w.heap.size 66 #[.int .i64 (k : Int), .string (B x)] (0, 0) _ rfl r3 Tryd.underlying66 rfl (by kernel_rfl) .nil)) rfl ?_
    exact ⟨rfl, r1, r2⟩
  · have hc2 : (c == 1) = false := by simpa using hc1
    go_enter Tryd.func21, Tryd.ntmps21
    go_wp2
    obtain ⟨r1, r2, r3⟩ := FIN.out (some ⟨b, i * 2 + 2, none⟩) (c - 1) (fun h => ⟨by rw [show (i + 1) * 2 = i * 2 + 2 by omega], by omega⟩) _ rfl
    refine bodyPost_ret (results_single rfl (.cell w.heap.size 66 #[.int .i64 (k : Int), .string (B x)] (0, 0) _ rfl r3 Tryd.underlying66 rfl (by kernel_rfl) .nil)) rfl ?_
    exact ⟨rfl, r1, r2⟩
end Go.Proofs.YtogbdjboblfokaaDoor.X
/- parse.reader.command as a contract over the tokens' row. -/
namespace Go.Proofs.YtogbdjboblfokaaDoor.X
open Go.RowKit Go.Proofs.YtogbdjboblfokaaDoorW.PrintWords Go.Proofs.YtogbdjboblfokaaDoorW.PrintLast Go.Proofs.YtogbdjboblfokaaDoorW.PrintMore Go.Proofs.YtogbdjboblfokaaDoor.XW05 Go.Proofs.YtogbdjboblfokaaDoor.XT06
set_option linter.unusedSimpArgs false
set_option linter.unusedVariables false

theorem R_grown_ty {α : Type} {d : Kd α} {e base t : Nat} {ok : Nat → Prop} {w w1 : World} {v : Value} {xs : List α} {row : Option Nat} (h : d.R e w base ok v xs) (hg : w.grownBy w1 row)
    (ht : ∀ k, row = some k → ∃ cells, w.heap[k]? = some (.cells cells t (0, 0))) (hne : ∀ q, q ∈ e :: d.E → q ≠ t) : d.R e w1 base ok v xs := by
  refine Kd.R_mono (Kd.R_grown (Kd.R_bound h) hg (fun k hk e_ => ?_)) (fun k hk => hk.1)
  obtain ⟨_, _, _, q, hq, cells, hc⟩ := hk
  obtain ⟨cells', hc'⟩ := ht k e_.symm
  rw [hc] at hc'
  injection hc' with hc'
  injection hc' with _ hc' _
  exact hne q hq hc'
theorem blk_grown_ty {g t t' : Nat} {cs : Array Value} {w w1 : World} {row : Option Nat} (h : w.heap[g]? = some (.cells cs t' (0, 0))) (hg : w.grownBy w1 row)
    (ht : ∀ k, row = some k → ∃ cells, w.heap[k]? = some (.cells cells t (0, 0))) (hne : t' ≠ t) : w1.heap[g]? = some (.cells cs t' (0, 0)) := by
  refine blk_grown h hg (fun e => ?_)
  obtain ⟨cells, hc⟩ := ht g e.symm
  rw [h] at hc
  injection hc with hc
  injection hc with _ hc _
  exact hne hc
theorem R_row_ty {α : Type} {d : Kd α} {e base : Nat} {ok : Nat → Prop} {w : World} {v : Value} {xs : List α} (h : d.R e w base ok v xs) : ∀ k, v.ownBlock = some k → ∃ cells, w.heap[k]? = some (.cells cells e (0, 0)) := by
  obtain ⟨inner, hown, _⟩ := h.2
  exact fun k hk => own_typed hown k hk
theorem R_is {α : Type} {d : Kd α} {e base : Nat} {ok : Nat → Prop} {w : World} {v : Value} {xs : List α} (h : d.R e w base ok v xs) : ∃ A n c, v = .slice A n c := by
  obtain ⟨A, c, e⟩ := Kd.R_slice h
  exact ⟨A, _, c, e⟩
def toT (t : Int × List UInt8) : S42 := ⟨t.1, B t.2⟩

/-- What holds between the rounds of command. -/
structure CI (w : World) (base : Nat) (ok : Nat → Prop) (br b N C : Nat) (toks : List Tok) (on : Int) (vw vt : Value) (j : Nat) (ws : List (List UInt8)) (ts : List (Int × List UInt8)) (W : World) : Prop where
  rd : RdI br b j N W
  tok : Kd.R k66 66 W base ok (.slice (some ⟨b, 0, none⟩) N C) (toks.map s83)
  c4 : W.heap[w.heap.size]? = some (.cells #[.int .i64 0, .slice none 0 0, .slice none 0 0] 40 (0, 0))
  c6 : W.heap[w.heap.size + 1]? = some (.cells #[.int .i64 on, vw, vt] 40 (0, 0))
  rw : Kd.R Kd.string 9 W w.heap.size (fun _ => True) vw (ws.map B)
  rt : Kd.R k42 42 W w.heap.size (fun _ => True) vt (ts.map toT)
  gr : w.grownBy W (some br)
section
variable {w W W1 : World} {base br b N C j : Nat} {ok : Nat → Prop} {toks : List Tok} {on : Int} {vw vt : Value} {ws : List (List UInt8)} {ts : List (Int × List UInt8)}
theorem RdI.ty {br b i N : Nat} {W : World} (h : RdI br b i N W) : ∀ k, some br = some k → ∃ cells, W.heap[k]? = some (.cells cells 62 (0, 0)) := by
  obtain ⟨_, A, c, hb, _⟩ := h
  intro k hk
  injection hk with hk
  subst hk
  exact ⟨_, hb⟩
theorem RdI.grown {br b i N t : Nat} {W W1 : World} {row : Option Nat} (h : RdI br b i N W) (hg : W.grownBy W1 row) (ht : ∀ k, row = some k → ∃ cells, W.heap[k]? = some (.cells cells t (0, 0))) (hne : 62 ≠ t) : RdI br b i N W1 := by
  obtain ⟨hi, A, c, hb, hA⟩ := h
  exact ⟨hi, A, c, blk_grown_ty hb hg ht hne, hA⟩
theorem CI.new (h : CI w base ok br b N C toks on vw vt j ws ts W) (hg : W.grownBy W1 none) : CI w base ok br b N C toks on vw vt j ws ts W1 := by
  have nn : ∀ (t : Nat) (k : Nat), (none : Option Nat) = some k → ∃ cells, W.heap[k]? = some (.cells cells t (0, 0)) := fun _ _ e => by cases e
  exact ⟨h.rd.grown hg (nn 0) (by decide), R_grown_ty h.tok hg (nn 0) (by decide), blk_grown_ty h.c4 hg (nn 0) (by decide), blk_grown_ty h.c6 hg (nn 0) (by decide), R_grown_ty h.rw hg (nn 0) (by decide), R_grown_ty h.rt hg (nn 0) (by decide), h.gr.trans ⟨hg.os, hg.tape, hg.output, hg.size, fun i hi _ => hg.block i hi (by simp)⟩⟩
theorem CI.take (h : CI w base ok br b N C toks on vw vt j ws ts W) {j1 : Nat} (hr : RdI br b j1 N W1) (hg : W.grownBy W1 (some br)) : CI w base ok br b N C toks on vw vt j1 ws ts W1 :=
  ⟨hr, R_grown_ty h.tok hg h.rd.ty (by decide), blk_grown_ty h.c4 hg h.rd.ty (by decide), blk_grown_ty h.c6 hg h.rd.ty (by decide), R_grown_ty h.rw hg h.rd.ty (by decide), R_grown_ty h.rt hg h.rd.ty (by decide), h.gr.trans hg⟩
theorem CI.word (h : CI w base ok br b N C toks on vw vt j ws ts W) {v1 : Value} {ws1 : List (List UInt8)} (hg : W.grownBy W1 vw.ownBlock) (ho : Kd.R Kd.string 9 W1 w.heap.size (fun _ => True) v1 (ws1.map B)) :
    CI w base ok br b N C toks on v1 vt j ws1 ts (W1.setCell ⟨w.heap.size + 1, 1, none⟩ v1) := by
  have ht := R_row_ty h.rw
  have c6 := blk_grown_ty h.c6 hg ht (by decide)
  have hs := World.grownBy_set W1 (w.heap.size + 1) 1 v1
  have hst : ∀ k, some (w.heap.size + 1) = some k → ∃ cells, W1.heap[k]? = some (.cells cells 40 (0, 0)) := by
    intro k hk; injection hk with hk; subst hk; exact ⟨_, c6⟩
  have c4 := blk_grown_ty h.c4 hg ht (by decide)
  refine ⟨(h.rd.grown hg ht (by decide)).grown hs hst (by decide), R_grown_ty (R_grown_ty h.tok hg ht (by decide)) hs hst (by decide), ?_, blk_put c6 1 v1 rfl, R_grown_ty ho hs hst (by decide), R_grown_ty (R_grown_ty h.rt hg ht (by decide)) hs hst (by decide), ?_⟩
  · exact blk_far c4 (by simp) v1
  · refine (h.gr.andThen hg (fun k hk => ?_)).andThen hs (fun k hk => ?_)
    · exact .inl (Kd.R_base h.rw k hk)
    · injection hk with hk; exact .inl (by omega)
theorem CI.way (h : CI w base ok br b N C toks on vw vt j ws ts W) {v1 : Value} {ts1 : List (Int × List UInt8)} (hg : W.grownBy W1 vt.ownBlock) (ho : Kd.R k42 42 W1 w.heap.size (fun _ => True) v1 (ts1.map toT)) :
    CI w base ok br b N C toks on vw v1 j ws ts1 (W1.setCell ⟨w.heap.size + 1, 2, none⟩ v1) := by
  have ht := R_row_ty h.rt
  have c6 := blk_grown_ty h.c6 hg ht (by decide)
  have hs := World.grownBy_set W1 (w.heap.size + 1) 2 v1
  have hst : ∀ k, some (w.heap.size + 1) = some k → ∃ cells, W1.heap[k]? = some (.cells cells 40 (0, 0)) := by
    intro k hk; injection hk with hk; subst hk; exact ⟨_, c6⟩
  have c4 := blk_grown_ty h.c4 hg ht (by decide)
  refine ⟨(h.rd.grown hg ht (by decide)).grown hs hst (by decide), R_grown_ty (R_grown_ty h.tok hg ht (by decide)) hs hst (by decide), ?_, blk_put c6 2 v1 rfl, R_grown_ty (R_grown_ty h.rw hg ht (by decide)) hs hst (by decide), R_grown_ty ho hs hst (by decide), ?_⟩
  · exact blk_far c4 (by simp) v1
  · refine (h.gr.andThen hg (fun k hk => ?_)).andThen hs (fun k hk => ?_)
    · exact .inl (Kd.R_base h.rt k hk)
    · injection hk with hk; exact .inl (by omega)
end

theorem CI.fin {w W : World} {base br b N C j : Nat} {ok : Nat → Prop} {toks : List Tok} {on : Int} {vw vt : Value} {ws : List (List UInt8)} {ts : List (Int × List UInt8)} (h : CI w base ok br b N C toks on vw vt j ws ts W) (x y z : Value) {X : World}
    (hX : X = ((W.setCell ⟨w.heap.size, 0, none⟩ x).setCell ⟨w.heap.size, 1, none⟩ y).setCell ⟨w.heap.size, 2, none⟩ z) :
    RdI br b j N X ∧ Kd.R Kd.string 9 X w.heap.size (fun _ => True) vw (ws.map B) ∧ Kd.R k42 42 X w.heap.size (fun _ => True) vt (ts.map toT) ∧ w.grownBy X (some br) ∧ X.heap[w.heap.size]? = some (.cells #[x, y, z] 40 (0, 0)) := by
  subst hX
  have b1 := blk_put h.c4 0 x (cs' := #[x, .slice none 0 0, .slice none 0 0]) rfl
  have b2 := blk_put b1 1 y (cs' := #[x, y, .slice none 0 0]) rfl
  have b3 := blk_put b2 2 z (cs' := #[x, y, z]) rfl
  have g1 := World.grownBy_set W w.heap.size 0 x
  have g2 := World.grownBy_set (W.setCell ⟨w.heap.size, 0, none⟩ x) w.heap.size 1 y
  have g3 := World.grownBy_set ((W.setCell ⟨w.heap.size, 0, none⟩ x).setCell ⟨w.heap.size, 1, none⟩ y) w.heap.size 2 z
  have g := (g1.trans g2).trans g3
  have ht : ∀ k, some w.heap.size = some k → ∃ cells, W.heap[k]? = some (.cells cells 40 (0, 0)) := by
    intro k hk; injection hk with hk; subst hk; exact ⟨_, h.c4⟩
  exact ⟨h.rd.grown g ht (by decide), R_grown_ty h.rw g ht (by decide), R_grown_ty h.rt g ht (by decide), h.gr.andThen g (fun k hk => by injection hk with hk; exact .inl (by omega)), b3⟩
/-- What command's answer says. -/
def CmdEnd (br b N : Nat) (toks : List Tok) (w w' : World) (on' : Int) (vw vt : Value) (okb : Bool) : Option (Cmd × List Tok) → Prop
  | none => okb = false
  | some (c, r) => okb = true ∧ on' = c.on ∧ ∃ j, r = toks.drop j ∧ RdI br b j N w' ∧ Kd.R Kd.string 9 w' w.heap.size (fun _ => True) vw (c.words.map B) ∧ Kd.R k42 42 w' w.heap.size (fun _ => True) vt (c.tos.map toT)
theorem field1 (k : Int) (x : ByteArray) (W : World) : Sem.run Tryd.prog (Instr.field 66 (Value.agg #[Value.int IntKind.i64 k, Value.string x]) 1) W = .ok (.string x) W := by kernel_rfl
theorem grown_drew0 (W : World) : W.grownBy W.drew none := ⟨rfl, rfl, rfl, Nat.le_refl _, fun _ _ _ => rfl⟩
set_option maxRecDepth 100000 in
set_option maxHeartbeats 8000000 in
theorem command_calls {base : Nat} {ok : Nat → Prop} (br b i N C : Nat) (on : Int) (toks : List Tok) (w : World) (hN : toks.length = N) (hNl : N < 1000000000) (h6 : ∀ x ∈ toks, x.1 ≤ 6) (h : RdI br b i N w)
    (hT : Kd.R k66 66 w base ok (.slice (some ⟨b, 0, none⟩) N C) (toks.map s83)) :
    Calls Tryd.prog 20 #[.pointer (some ⟨br, 0, none⟩), .int .i64 on] w fun e w' => ∃ (on' : Int) (Aw : Option Addr) (nw cw : Nat) (At : Option Addr) (nt ct : Nat) (okb : Bool), e = .returned (.tuple #[.agg #[.int .i64 on', .slice Aw nw cw, .slice At nt ct], .bool okb]) ∧ w.grownBy w' (some br) ∧
      CmdEnd br b N toks w w' on' (.slice Aw nw cw) (.slice At nt ct) okb (cmdS on [] [] (toks.drop i)) := by
  have infoS : (Tryd.prog.info? 9).map (fun i => (i.zero, i.size, i.bytes)) = some (some (.string ⟨#[]⟩), 1, 16) := by kernel_rfl
  have infoT : (Tryd.prog.info? 42).map (fun i => (i.zero, i.size, i.bytes)) = some (some (.agg #[.int .i64 0, .string ⟨#[]⟩]), 2, 24) := by kernel_rfl
  obtain ⟨CM, hCM⟩ : ∃ x, cmdS on [] [] (toks.drop i) = x := ⟨_, rfl⟩
  rw [hCM]
  have HJ0 := Aside0.mk (show CI w base ok br b N C toks on (.slice none 0 0) (.slice none 0 0) i [] [] ((w.alloc (.cells #[.int .i64 0, .slice none 0 0, .slice none 0 0] 40)).alloc (.cells #[.int .i64 on, .slice none 0 0, .slice none 0 0] 40)) from by
    have nn : ∀ (t : Nat) (k : Nat), (none : Option Nat) = some k → ∃ cells, w.heap[k]? = some (.cells cells t (0, 0)) := fun _ _ e => by cases e
    have hg : w.grownBy ((w.alloc (.cells #[.int .i64 0, .slice none 0 0, .slice none 0 0] 40)).alloc (.cells #[.int .i64 on, .slice none 0 0, .slice none 0 0] 40)) none := (World.grownBy_alloc _ _ _).trans (World.grownBy_alloc _ _ _)
    refine ⟨h.grown hg (nn 0) (by decide), R_grown_ty hT hg (nn 0) (by decide), blk_alloc (blk_new w _) _, ?_, Kd.R_nil _ _ _ _ _, Kd.R_nil _ _ _ _ _, (World.grownBy_alloc _ _ _).trans (World.grownBy_alloc _ _ _)⟩
    have := blk_new (w.alloc (.cells #[.int .i64 0, .slice none 0 0, .slice none 0 0] 40)) (.cells #[.int .i64 on, .slice none 0 0, .slice none 0 0] 40 (0, 0))
    rw [show (w.alloc (.cells #[.int .i64 0, .slice none 0 0, .slice none 0 0] 40)).heap.size = w.heap.size + 1 by simp] at this
    exact this)
  have HCM := Aside0.mk hCM
  clear hCM h hT
  go_enter Tryd.func20, Tryd.ntmps20
  go_wp2
  go_loopg [7] (N + 1) (fun g v7 wr => ∃ (j : Nat) (ws : List (List UInt8)) (ts : List (Int × List UInt8)) (vw vt : Value), j ≤ N ∧ N - j < g ∧ ws.length ≤ j ∧ ts.length ≤ j
    ∧ Aside0 (CI w base ok br b N C toks on vw vt j ws ts wr) ∧ Aside0 (cmdS on ws ts (toks.drop j) = CM))
  case atStart => exact ⟨i, [], [], _, _, HJ0.out.rd.1, by have := HJ0.out.rd.1; omega, by simp, by simp, HJ0, HCM⟩
  case round =>
    obtain ⟨j, ws, ts, vw, vt, hj, hg, hws, hts, HJ, HR⟩ := hrel
    obtain ⟨Aw, cw, ew⟩ := Kd.R_slice HJ.out.rw
    rw [List.length_map] at ew
    obtain ⟨At, ct, et⟩ := Kd.R_slice HJ.out.rt
    rw [List.length_map] at et
    subst ew et
    have HJd := Aside0.mk (HJ.out.new (grown_drew0 _))
    have c1d : wr.drew.cell? ⟨w.heap.size + 1, 1, none⟩ = some (.slice Aw ws.length cw) := blk_cell HJd.out.c6 1
    have c2d : wr.drew.cell? ⟨w.heap.size + 1, 2, none⟩ = some (.slice At ts.length ct) := blk_cell HJd.out.c6 2
    by_cases hlt : j < N
    · have hdr := drop_get toks j (by omega)
      obtain ⟨k, x, hx⟩ : ∃ k x, toks[j]'(by omega) = (k, x) := ⟨_, _, rfl⟩
      have hk6 : k ≤ 6 := by have := h6 _ (List.getElem_mem (show j < toks.length by omega)); rw [hx] at this; exact this
      have hn : nextK (toks.drop j) = (k : Int) := by rw [hdr, hx]; rfl
      have htk : ∀ W, RdI br b j N W → Kd.R k66 66 W base ok (.slice (some ⟨b, 0, none⟩) N C) (toks.map s83) → Calls Tryd.prog 21 #[.pointer (some ⟨br, 0, none⟩)] W fun e w' => e = .returned (.agg #[.int .i64 (k : Int), .string (B x)]) ∧ RdI br b (j + 1) N w' ∧ W.grownBy w' (some br) := by
        intro W h1 h2
        have := take_calls br b j N C toks W hN h1 (by omega) h2
        rw [hx] at this
        exact this
      rw [hx] at hdr
      have hnx : ∀ W, RdI br b j N W → Kd.R k66 66 W base ok (.slice (some ⟨b, 0, none⟩) N C) (toks.map s83) → Calls Tryd.prog 43 #[.pointer (some ⟨br, 0, none⟩)] W fun e w' => e = .returned (.int .i64 (k : Int)) ∧ w' = W := by
        intro W h1 h2
        have := next_calls br b j N C toks W hN h1 h2
        rw [hn] at this
        exact this
      have HDR := Aside0.mk hdr
      have HTK := Aside0.mk htk
      have HNX := Aside0.mk hnx
      clear hn hdr htk hnx hx
      by_cases h0 : k = 0
      · subst h0
        have hz : ((((0 : Nat) : Int)) == 0) = true := rfl
        go_wp2_with (go_at_call 43; refine (HNX.out _ HJ.out.rd HJ.out.tok).mono ?_; rintro e1 w1 ⟨rfl, rfl⟩)
        have hfield := field1 (0 : Int) (B x)
        go_region_law (first | (refine Kd.R_append_step Kd.string (w0 := w2) w.heap.size (by rfl) (.tmp 21) (.tmp 25) 37 9 (.string ⟨#[]⟩) 16 rfl Tryd.underlying37 infoS rfl (by decide) (by omega) (.slice Aw ws.length cw) (ws.map B) (B x) [.string (B x)] (fun _ => True) (fun _ => False) rfl rfl rfl (fun _ hk => hk.elim) (fun _ _ => trivial) J2.out.rw (Below.refl _ _) J2.out.gr.size (by rw [List.length_map]; omega) ?_; intro v1 w3 ho hb hg3 hat; obtain ⟨A1, n1, q1, e1⟩ := R_is ho; subst e1; rw [show ws.map B ++ [B x] = (ws ++ [x]).map B by simp] at ho; have J3 := Aside0.mk (J2.out.word hg3 ho); have k6 := blk_grown_ty J2.out.c6 hg3 (R_row_ty J2.out.rw) (by decide); have s1 := blk_cell k6 1; have s2 := blk_frozen k6 1; clear ho hb hg3 hat k6) | ((go_simp; go_wp2_with (go_at_call 21; refine (HTK.out _ HJd.out.rd HJd.out.tok).mono ?_; rintro e2 w2 ⟨rfl, hr2, hg2⟩; have J2 := Aside0.mk (HJd.out.take hr2 hg2); have cc1 := blk_cell J2.out.c6 1; have cc1a := blk_cell (blk_alloc J2.out.c6 (.cells #[.string (B x)] 9)) 1; clear hr2 hg2))))
        all_goals
          go_wp2
          go_roundg (gk - 1)
          case measure => omega
          case rel => exact ⟨j + 1, ws ++ [x], ts, _, _, by omega, by omega, by simp; omega, by omega, J3, ⟨by rw [← HR.out, HDR.out, cmdS_word]⟩⟩
      · by_cases h4 : 4 ≤ k
        · obtain ⟨kk, hkk⟩ : ∃ kk : Nat, (k : Int) = (kk : Int) := ⟨k, rfl⟩
          by_cases hy : ∃ (h : j + 1 < toks.length) (y : List UInt8), toks[j + 1] = (0, y)
          · obtain ⟨hj1, y, hy⟩ := hy
            have htk2 : ∀ W, RdI br b (j + 1) N W → Kd.R k66 66 W base ok (.slice (some ⟨b, 0, none⟩) N C) (toks.map s83) → Calls Tryd.prog 21 #[.pointer (some ⟨br, 0, none⟩)] W fun e w' => e = .returned (.agg #[.int .i64 (0 : Int), .string (B y)]) ∧ RdI br b (j + 2) N w' ∧ W.grownBy w' (some br) := by
              intro W h1 h2
              have := take_calls br b (j + 1) N C toks W hN h1 hj1 h2
              rw [hy] at this
              exact this
            have hdr2 := drop_get toks (j + 1) hj1
            rw [hy] at hdr2
            have hnx2 : ∀ W, RdI br b (j + 1) N W → Kd.R k66 66 W base ok (.slice (some ⟨b, 0, none⟩) N C) (toks.map s83) → Calls Tryd.prog 43 #[.pointer (some ⟨br, 0, none⟩)] W fun e w' => e = .returned (.int .i64 0) ∧ w' = W := by
              intro W h1 h2
              have := next_calls br b (j + 1) N C toks W hN h1 h2
              rw [hdr2] at this
              exact this
            have HTK2 := Aside0.mk htk2
            have HNX2 := Aside0.mk hnx2
            have HRR := Aside0.mk (show cmdS on ws (ts ++ [((k : Int), y)]) (toks.drop (j + 2)) = CM by rw [← HR.out, HDR.out, hdr2, cmdS_to _ _ _ k h4])
            have hfield := field1 (0 : Int) (B y)
            have hkk2 : k = 4 ∨ k = 5 ∨ k = 6 := by omega
            have HL := Aside0.mk hj1
            clear htk2 hnx2 hdr2 hy h0 h4 hkk kk hk6 hj1
            rcases hkk2 with rfl | rfl | rfl
            · go_wp2_with (first | (go_at_call 43; first | (refine (HNX2.out _ J2.out.rd J2.out.tok).mono ?_; rintro e4 w4 ⟨rfl, rfl⟩) | (refine (HNX.out _ HJ.out.rd HJ.out.tok).mono ?_; rintro e1 w1 ⟨rfl, rfl⟩)) | (go_at_call 21; refine (HTK.out _ HJ.out.rd HJ.out.tok).mono ?_; rintro e2 w2 ⟨rfl, hr2, hg2⟩; have J2 := Aside0.mk (HJ.out.take hr2 hg2); have J2d := Aside0.mk (J2.out.new (grown_drew0 _)); have c3d : w2.drew.cell? ⟨w.heap.size + 1, 2, none⟩ = some (.slice At ts.length ct) := blk_cell J2d.out.c6 2; have d0 := blk_cell J2.out.c4 0; have d1 := blk_cell J2.out.c4 1; have d2 := blk_cell J2.out.c4 2; have q0 := blk_frozen J2.out.c4 0; have q1 := blk_frozen J2.out.c4 1; have q2 := blk_frozen J2.out.c4 2; clear hr2 hg2))
              go_region_law (first | (refine Kd.R_append_step k42 (w0 := w3) w.heap.size (by rfl) (.tmp 39) (.tmp 45) 38 42 (.agg #[.int .i64 0, .string ⟨#[]⟩]) 24 rfl Tryd.underlying38 infoT rfl (by decide) (by omega) (.slice At ts.length ct) (ts.map toT) (⟨(4 : Int), B y⟩ : S42) [.int .i64 (4 : Int), .string (B y)] (fun _ => True) (fun _ => False) rfl rfl (k42_mkM _ _ _ _) (fun _ hk => hk.elim) (fun _ _ => trivial) J3.out.rt (Below.refl _ _) J3.out.gr.size (by rw [List.length_map]; omega) ?_; intro v1 w4 ho hb hg3 hat; obtain ⟨A1, n1, q1, e1⟩ := R_is ho; subst e1; rw [show ts.map toT ++ [(⟨(4 : Int), B y⟩ : S42)] = (ts ++ [((4 : Int), y)]).map toT by simp [toT]] at ho; have J4 := Aside0.mk (J3.out.way hg3 ho); have k6 := blk_grown_ty J3.out.c6 hg3 (R_row_ty J3.out.rt) (by decide); have s1 := blk_cell k6 2; have s2 := blk_frozen k6 2; clear ho hb hg3 hat k6) | ((go_simp; go_wp2_with (go_at_call 21; refine (HTK2.out _ J2d.out.rd J2d.out.tok).mono ?_; rintro e3 w3 ⟨rfl, hr3, hg3⟩; have J3 := Aside0.mk (J2d.out.take hr3 hg3); have cc1 := blk_cell J3.out.c6 2; have cc1a := blk_cell (blk_alloc J3.out.c6 (.cells #[.int .i64 (4 : Int), .string (B y)] 42)) 2; clear hr3 hg3))))
              all_goals
                go_wp2
                go_roundg (gk - 1)
                case measure => have := HL.out; omega
                case rel => exact ⟨j + 2, ws, ts ++ [((4 : Int), y)], _, _, by have := HL.out; omega, by have := HL.out; omega, by omega, by simp; omega, J4, HRR⟩
            · go_wp2_with (first | (go_at_call 43; first | (refine (HNX2.out _ J2.out.rd J2.out.tok).mono ?_; rintro e4 w4 ⟨rfl, rfl⟩) | (refine (HNX.out _ HJ.out.rd HJ.out.tok).mono ?_; rintro e1 w1 ⟨rfl, rfl⟩)) | (go_at_call 21; refine (HTK.out _ HJ.out.rd HJ.out.tok).mono ?_; rintro e2 w2 ⟨rfl, hr2, hg2⟩; have J2 := Aside0.mk (HJ.out.take hr2 hg2); have J2d := Aside0.mk (J2.out.new (grown_drew0 _)); have c3d : w2.drew.cell? ⟨w.heap.size + 1, 2, none⟩ = some (.slice At ts.length ct) := blk_cell J2d.out.c6 2; have d0 := blk_cell J2.out.c4 0; have d1 := blk_cell J2.out.c4 1; have d2 := blk_cell J2.out.c4 2; have q0 := blk_frozen J2.out.c4 0; have q1 := blk_frozen J2.out.c4 1; have q2 := blk_frozen J2.out.c4 2; clear hr2 hg2))
              go_region_law (first | (refine Kd.R_append_step k42 (w0 := w3) w.heap.size (by rfl) (.tmp 39) (.tmp 45) 38 42 (.agg #[.int .i64 0, .string ⟨#[]⟩]) 24 rfl Tryd.underlying38 infoT rfl (by decide) (by omega) (.slice At ts.length ct) (ts.map toT) (⟨(5 : Int), B y⟩ : S42) [.int .i64 (5 : Int), .string (B y)] (fun _ => True) (fun _ => False) rfl rfl (k42_mkM _ _ _ _) (fun _ hk => hk.elim) (fun _ _ => trivial) J3.out.rt (Below.refl _ _) J3.out.gr.size (by rw [List.length_map]; omega) ?_; intro v1 w4 ho hb hg3 hat; obtain ⟨A1, n1, q1, e1⟩ := R_is ho; subst e1; rw [show ts.map toT ++ [(⟨(5 : Int), B y⟩ : S42)] = (ts ++ [((5 : Int), y)]).map toT by simp [toT]] at ho; have J4 := Aside0.mk (J3.out.way hg3 ho); have k6 := blk_grown_ty J3.out.c6 hg3 (R_row_ty J3.out.rt) (by decide); have s1 := blk_cell k6 2; have s2 := blk_frozen k6 2; clear ho hb hg3 hat k6) | ((go_simp; go_wp2_with (go_at_call 21; refine (HTK2.out _ J2d.out.rd J2d.out.tok).mono ?_; rintro e3 w3 ⟨rfl, hr3, hg3⟩; have J3 := Aside0.mk (J2d.out.take hr3 hg3); have cc1 := blk_cell J3.out.c6 2; have cc1a := blk_cell (blk_alloc J3.out.c6 (.cells #[.int .i64 (5 : Int), .string (B y)] 42)) 2; clear hr3 hg3))))
              all_goals
                go_wp2
                go_roundg (gk - 1)
                case measure => have := HL.out; omega
                case rel => exact ⟨j + 2, ws, ts ++ [((5 : Int), y)], _, _, by have := HL.out; omega, by have := HL.out; omega, by omega, by simp; omega, J4, HRR⟩
            · go_wp2_with (first | (go_at_call 43; first | (refine (HNX2.out _ J2.out.rd J2.out.tok).mono ?_; rintro e4 w4 ⟨rfl, rfl⟩) | (refine (HNX.out _ HJ.out.rd HJ.out.tok).mono ?_; rintro e1 w1 ⟨rfl, rfl⟩)) | (go_at_call 21; refine (HTK.out _ HJ.out.rd HJ.out.tok).mono ?_; rintro e2 w2 ⟨rfl, hr2, hg2⟩; have J2 := Aside0.mk (HJ.out.take hr2 hg2); have J2d := Aside0.mk (J2.out.new (grown_drew0 _)); have c3d : w2.drew.cell? ⟨w.heap.size + 1, 2, none⟩ = some (.slice At ts.length ct) := blk_cell J2d.out.c6 2; have d0 := blk_cell J2.out.c4 0; have d1 := blk_cell J2.out.c4 1; have d2 := blk_cell J2.out.c4 2; have q0 := blk_frozen J2.out.c4 0; have q1 := blk_frozen J2.out.c4 1; have q2 := blk_frozen J2.out.c4 2; clear hr2 hg2))
              go_region_law (first | (refine Kd.R_append_step k42 (w0 := w3) w.heap.size (by rfl) (.tmp 39) (.tmp 45) 38 42 (.agg #[.int .i64 0, .string ⟨#[]⟩]) 24 rfl Tryd.underlying38 infoT rfl (by decide) (by omega) (.slice At ts.length ct) (ts.map toT) (⟨(6 : Int), B y⟩ : S42) [.int .i64 (6 : Int), .string (B y)] (fun _ => True) (fun _ => False) rfl rfl (k42_mkM _ _ _ _) (fun _ hk => hk.elim) (fun _ _ => trivial) J3.out.rt (Below.refl _ _) J3.out.gr.size (by rw [List.length_map]; omega) ?_; intro v1 w4 ho hb hg3 hat; obtain ⟨A1, n1, q1, e1⟩ := R_is ho; subst e1; rw [show ts.map toT ++ [(⟨(6 : Int), B y⟩ : S42)] = (ts ++ [((6 : Int), y)]).map toT by simp [toT]] at ho; have J4 := Aside0.mk (J3.out.way hg3 ho); have k6 := blk_grown_ty J3.out.c6 hg3 (R_row_ty J3.out.rt) (by decide); have s1 := blk_cell k6 2; have s2 := blk_frozen k6 2; clear ho hb hg3 hat k6) | ((go_simp; go_wp2_with (go_at_call 21; refine (HTK2.out _ J2d.out.rd J2d.out.tok).mono ?_; rintro e3 w3 ⟨rfl, hr3, hg3⟩; have J3 := Aside0.mk (J2d.out.take hr3 hg3); have cc1 := blk_cell J3.out.c6 2; have cc1a := blk_cell (blk_alloc J3.out.c6 (.cells #[.int .i64 (6 : Int), .string (B y)] 42)) 2; clear hr3 hg3))))
              all_goals
                go_wp2
                go_roundg (gk - 1)
                case measure => have := HL.out; omega
                case rel => exact ⟨j + 2, ws, ts ++ [((6 : Int), y)], _, _, by have := HL.out; omega, by have := HL.out; omega, by omega, by simp; omega, J4, HRR⟩
          · have hnk : ∃ kx : Int, nextK (toks.drop (j + 1)) = kx ∧ (kx == 0) = false := by
              refine ⟨_, rfl, ?_⟩
              by_cases hj1 : j + 1 < toks.length
              · rw [drop_get toks (j + 1) hj1]
                obtain ⟨ky, y, hyy⟩ : ∃ ky y, toks[j + 1] = (ky, y) := ⟨_, _, rfl⟩
                rw [hyy]
                have : ¬ ky = 0 := by rintro rfl; exact hy ⟨hj1, y, hyy⟩
                simp [nextK, this]
              · rw [List.drop_eq_nil_of_le (by omega)]
                rfl
            obtain ⟨kx, hkx, hkx0⟩ := hnk
            have hcm : CM = none := by
              rw [← HR.out, HDR.out]
              refine cmdS_to0 _ _ _ k h4 x _ (fun y r' e => ?_)
              have hj1 : j + 1 < toks.length := by
                have := congrArg List.length e
                simp at this
                omega
              rw [drop_get toks (j + 1) hj1] at e
              injection e with e _
              exact hy ⟨hj1, y, e⟩
            have HCMN := Aside0.mk hcm
            have hnx2 : ∀ W, RdI br b (j + 1) N W → Kd.R k66 66 W base ok (.slice (some ⟨b, 0, none⟩) N C) (toks.map s83) → Calls Tryd.prog 43 #[.pointer (some ⟨br, 0, none⟩)] W fun e w' => e = .returned (.int .i64 kx) ∧ w' = W := by
              intro W h1 h2
              have := next_calls br b (j + 1) N C toks W hN h1 h2
              rw [hkx] at this
              exact this
            have HNX2 := Aside0.mk hnx2
            have hkk2 : k = 4 ∨ k = 5 ∨ k = 6 := by omega
            clear hnx2 hkx hcm hy h0 h4 hkk kk hk6
            rcases hkk2 with rfl | rfl | rfl
            all_goals
              go_wp2_with (first | (go_at_call 43; first | (refine (HNX2.out _ J2.out.rd J2.out.tok).mono ?_; rintro e4 w4 ⟨rfl, rfl⟩) | (refine (HNX.out _ HJ.out.rd HJ.out.tok).mono ?_; rintro e1 w1 ⟨rfl, rfl⟩)) | (go_at_call 21; refine (HTK.out _ HJ.out.rd HJ.out.tok).mono ?_; rintro e2 w2 ⟨rfl, hr2, hg2⟩; have J2 := Aside0.mk (HJ.out.take hr2 hg2); have J2d := Aside0.mk (J2.out.new (grown_drew0 _)); have c3d : w2.drew.cell? ⟨w.heap.size + 1, 2, none⟩ = some (.slice At ts.length ct) := blk_cell J2d.out.c6 2; have d0 := blk_cell J2.out.c4 0; have d1 := blk_cell J2.out.c4 1; have d2 := blk_cell J2.out.c4 2; have q0 := blk_frozen J2.out.c4 0; have q1 := blk_frozen J2.out.c4 1; have q2 := blk_frozen J2.out.c4 2; clear hr2 hg2))
              have FIN := Aside0.mk (J2.out.fin (.int .i64 0) (.slice none 0 0) (.slice none 0 0) rfl)
              refine bodyPost_ret (results_ct rfl _ _ w.heap.size 40 #[.int .i64 0, .slice none 0 0, .slice none 0 0] (0, 0) _ rfl FIN.out.2.2.2.2 Tryd.underlying40 rfl (by kernel_rfl)) rfl ?_
              rw [HCMN.out]
              exact ⟨_, _, _, _, _, _, _, _, rfl, FIN.out.2.2.2.1, rfl⟩
        · have HDE := Aside0.mk (show cmdS on ws ts (toks.drop j) = if ws = [] then none else some (⟨on, ws, ts⟩, toks.drop j) by rw [HDR.out, cmdS_end _ _ _ k h0 h4])
          have hkk2 : k = 1 ∨ k = 2 ∨ k = 3 := by omega
          clear h0 h4 hk6
          rcases hkk2 with rfl | rfl | rfl
          all_goals
            have c0d : wr.drew.cell? ⟨w.heap.size + 1, 0, none⟩ = some (.int .i64 on) := blk_cell HJd.out.c6 0
            have d0 : wr.drew.cell? ⟨w.heap.size, 0, none⟩ = some (.int .i64 0) := blk_cell HJd.out.c4 0
            have d1 : wr.drew.cell? ⟨w.heap.size, 1, none⟩ = some (.slice none 0 0) := blk_cell HJd.out.c4 1
            have d2 : wr.drew.cell? ⟨w.heap.size, 2, none⟩ = some (.slice none 0 0) := blk_cell HJd.out.c4 2
            have e0 : wr.cell? ⟨w.heap.size, 0, none⟩ = some (.int .i64 0) := blk_cell HJ.out.c4 0
            have e1 : wr.cell? ⟨w.heap.size, 1, none⟩ = some (.slice none 0 0) := blk_cell HJ.out.c4 1
            have e2 : wr.cell? ⟨w.heap.size, 2, none⟩ = some (.slice none 0 0) := blk_cell HJ.out.c4 2
            have z0 := blk_frozen HJ.out.c4 0
            have z1 := blk_frozen HJ.out.c4 1
            have z2 := blk_frozen HJ.out.c4 2
            have y0 : wr.cell? ⟨w.heap.size + 1, 0, none⟩ = some (.int .i64 on) := blk_cell HJ.out.c6 0
            have y1 : wr.cell? ⟨w.heap.size + 1, 1, none⟩ = some (.slice Aw ws.length cw) := blk_cell HJ.out.c6 1
            have y2 : wr.cell? ⟨w.heap.size + 1, 2, none⟩ = some (.slice At ts.length ct) := blk_cell HJ.out.c6 2
            have q0 := blk_frozen HJd.out.c4 0
            have q1 := blk_frozen HJd.out.c4 1
            have q2 := blk_frozen HJd.out.c4 2
            have FIN := Aside0.mk (HJd.out.fin (.int .i64 on) (.slice Aw ws.length cw) (.slice At ts.length ct) rfl)
            by_cases hw0 : ws = []
            · have hcm : CM = none := by rw [← HR.out, HDE.out, if_pos hw0]
              have HCMN := Aside0.mk hcm
              have HW0 := Aside0.mk hw0
              clear hcm hw0
              go_wp2_with (go_at_call 43; refine (HNX.out _ HJ.out.rd HJ.out.tok).mono ?_; rintro e1 w1 ⟨rfl, rfl⟩)
              go_region
              all_goals
                go_wp2
                refine bodyPost_ret (results_ct rfl _ _ w.heap.size 40 #[.int .i64 on, .slice Aw ws.length cw, .slice At ts.length ct] (0, 0) _ rfl FIN.out.2.2.2.2 Tryd.underlying40 rfl (by kernel_rfl)) rfl ?_
                rw [HCMN.out]
                exact ⟨_, _, _, _, _, _, _, _, rfl, FIN.out.2.2.2.1, (show decide (0 < ws.length) = false by rw [HW0.out]; rfl)⟩
            · have hcm : CM = some (⟨on, ws, ts⟩, toks.drop j) := by rw [← HR.out, HDE.out, if_neg hw0]
              have HCMN := Aside0.mk hcm
              have HW0 := Aside0.mk hw0
              clear hcm hw0
              go_wp2_with (go_at_call 43; refine (HNX.out _ HJ.out.rd HJ.out.tok).mono ?_; rintro e1 w1 ⟨rfl, rfl⟩)
              go_region
              all_goals
                go_wp2
                refine bodyPost_ret (results_ct rfl _ _ w.heap.size 40 #[.int .i64 on, .slice Aw ws.length cw, .slice At ts.length ct] (0, 0) _ rfl FIN.out.2.2.2.2 Tryd.underlying40 rfl (by kernel_rfl)) rfl ?_
                rw [HCMN.out]
                exact ⟨_, _, _, _, _, _, _, _, rfl, FIN.out.2.2.2.1, decide_eq_true (List.length_pos_iff.2 HW0.out), rfl, j, rfl, FIN.out.1, FIN.out.2.1, FIN.out.2.2.1⟩
    · have hd : toks.drop j = [] := List.drop_eq_nil_of_le (by omega)
      have hnx : ∀ W, RdI br b j N W → Kd.R k66 66 W base ok (.slice (some ⟨b, 0, none⟩) N C) (toks.map s83) → Calls Tryd.prog 43 #[.pointer (some ⟨br, 0, none⟩)] W fun e w' => e = .returned (.int .i64 (-1)) ∧ w' = W := by
        intro W h1 h2
        have := next_calls br b j N C toks W hN h1 h2
        rw [hd] at this
        exact this
      have HNX := Aside0.mk hnx
      have HDE := Aside0.mk (show cmdS on ws ts (toks.drop j) = if ws = [] then none else some (⟨on, ws, ts⟩, toks.drop j) by rw [hd, cmdS_nil])
      clear hnx hd
      have c0d : wr.drew.cell? ⟨w.heap.size + 1, 0, none⟩ = some (.int .i64 on) := blk_cell HJd.out.c6 0
      have d0 : wr.drew.cell? ⟨w.heap.size, 0, none⟩ = some (.int .i64 0) := blk_cell HJd.out.c4 0
      have d1 : wr.drew.cell? ⟨w.heap.size, 1, none⟩ = some (.slice none 0 0) := blk_cell HJd.out.c4 1
      have d2 : wr.drew.cell? ⟨w.heap.size, 2, none⟩ = some (.slice none 0 0) := blk_cell HJd.out.c4 2
      have e0 : wr.cell? ⟨w.heap.size, 0, none⟩ = some (.int .i64 0) := blk_cell HJ.out.c4 0
      have e1 : wr.cell? ⟨w.heap.size, 1, none⟩ = some (.slice none 0 0) := blk_cell HJ.out.c4 1
      have e2 : wr.cell? ⟨w.heap.size, 2, none⟩ = some (.slice none 0 0) := blk_cell HJ.out.c4 2
      have z0 := blk_frozen HJ.out.c4 0
      have z1 := blk_frozen HJ.out.c4 1
      have z2 := blk_frozen HJ.out.c4 2
      have y0 : wr.cell? ⟨w.heap.size + 1, 0, none⟩ = some (.int .i64 on) := blk_cell HJ.out.c6 0
      have y1 : wr.cell? ⟨w.heap.size + 1, 1, none⟩ = some (.slice Aw ws.length cw) := blk_cell HJ.out.c6 1
      have y2 : wr.cell? ⟨w.heap.size + 1, 2, none⟩ = some (.slice At ts.length ct) := blk_cell HJ.out.c6 2
      have q0 := blk_frozen HJd.out.c4 0
      have q1 := blk_frozen HJd.out.c4 1
      have q2 := blk_frozen HJd.out.c4 2
      have FIN := Aside0.mk (HJd.out.fin (.int .i64 on) (.slice Aw ws.length cw) (.slice At ts.length ct) rfl)
      by_cases hw0 : ws = []
      · have hcm : CM = none := by rw [← HR.out, HDE.out, if_pos hw0]
        have HCMN := Aside0.mk hcm
        have HW0 := Aside0.mk hw0
        clear hcm hw0
        go_wp2_with (go_at_call 43; refine (HNX.out _ HJ.out.rd HJ.out.tok).mono ?_; rintro e1 w1 ⟨rfl, rfl⟩)
        go_region
        all_goals
          go_wp2
          refine bodyPost_ret (results_ct rfl _ _ w.heap.size 40 #[.int .i64 on, .slice Aw ws.length cw, .slice At ts.length ct] (0, 0) _ rfl FIN.out.2.2.2.2 Tryd.underlying40 rfl (by kernel_rfl)) rfl ?_
          rw [HCMN.out]
          exact ⟨_, _, _, _, _, _, _, _, rfl, FIN.out.2.2.2.1, (show decide (0 < ws.length) = false by rw [HW0.out]; rfl)⟩
      · have hcm : CM = some (⟨on, ws, ts⟩, toks.drop j) := by rw [← HR.out, HDE.out, if_neg hw0]
        have HCMN := Aside0.mk hcm
        have HW0 := Aside0.mk hw0
        clear hcm hw0
        go_wp2_with (go_at_call 43; refine (HNX.out _ HJ.out.rd HJ.out.tok).mono ?_; rintro e1 w1 ⟨rfl, rfl⟩)
        go_region
        all_goals
          go_wp2
          refine bodyPost_ret (results_ct rfl _ _ w.heap.size 40 #[.int .i64 on, .slice Aw ws.length cw, .slice At ts.length ct] (0, 0) _ rfl FIN.out.2.2.2.2 Tryd.underlying40 rfl (by kernel_rfl)) rfl ?_
          rw [HCMN.out]
          exact ⟨_, _, _, _, _, _, _, _, rfl, FIN.out.2.2.2.1, decide_eq_true (List.length_pos_iff.2 HW0.out), rfl, j, rfl, FIN.out.1, FIN.out.2.1, FIN.out.2.2.1⟩
end Go.Proofs.YtogbdjboblfokaaDoor.X
/- lex.Quote and lex.Show say the plain ones; plain Lean. -/
namespace Go.Proofs.YtogbdjboblfokaaDoor.X
open Go.RowKit Go.Proofs.YtogbdjboblfokaaDoorW.PrintWords Go.Proofs.YtogbdjboblfokaaDoorW.PrintLast Go.Proofs.YtogbdjboblfokaaDoorW.PrintMore Go.Proofs.YtogbdjboblfokaaDoor.XW05
open Go.Proofs.YtogbdjboblfokaaDoor.XT06
set_option linter.unusedSimpArgs false
set_option linter.unusedVariables false

theorem any_eq (cs : List UInt8) : ∀ l : List UInt8, decide (0 ≤ Lib.indexAny l cs) = l.any (fun b => cs.contains b) := by
  intro l
  induction l with
  | nil => rfl
  | cons b l ih =>
    have hg := Lib.indexAny_ge cs l
    rw [Lib.indexAny, List.any_cons]
    by_cases hb : cs.contains b = true
    · rw [if_pos hb, hb]; rfl
    · rw [if_neg hb, ← ih, show cs.contains b = false by simpa using hb, Bool.false_or]
      by_cases hm : Lib.indexAny l cs = -1
      · rw [if_pos (beq_iff_eq.2 hm), hm]
      · rw [if_neg (fun h => hm (beq_iff_eq.1 h))]
        rw [decide_eq_true (by omega : 0 ≤ Lib.indexAny l cs + 1), decide_eq_true (by omega : 0 ≤ Lib.indexAny l cs)]
theorem plain_eq (t : List UInt8) (ht : t.length < 4294967281) : lex_plain.f (B t) = some (plainU t) := by
  unfold lex_plain.f
  cases t with
  | nil => rw [if_pos (by rw [B_toList])]; rfl
  | cons b m =>
    rw [if_neg (by rw [B_toList]; simp)]
    unfold strings_ContainsAny.f strings_IndexAny.f
    rw [if_pos ⟨by rw [B_size]; exact ht, by decide, by decide⟩, B_data]
    simp only [Option.map_some, Option.bind_some]
    rw [any_eq]
    congr 1
    unfold plainU
    rw [decide_eq_true (by simp), Bool.true_and, List.all_eq_not_any_not]
    simp only [Bool.not_not]
    rfl
theorem index39 (b : UInt8) (l : List UInt8) : Lib.index (b :: l) [39] = if b = 39 then 0 else if Lib.index l [39] = -1 then -1 else Lib.index l [39] + 1 := by
  rw [Lib.index]
  have e : (([39] : List UInt8).isPrefixOf (b :: l) = true) = (b = 39) := by
    simp only [List.isPrefixOf, Bool.and_true, beq_iff_eq]
    exact propext eq_comm
  by_cases hb : b = 39
  · rw [if_pos (e.symm ▸ hb), if_pos hb]
  · rw [if_neg (fun h => hb (e ▸ h)), if_neg hb]
    by_cases hm : Lib.index l [39] = -1
    · rw [if_pos (beq_iff_eq.2 hm), if_pos hm]
    · rw [if_neg (fun h => hm (beq_iff_eq.1 h)), if_neg hm]
theorem flat_index (l : List UInt8) : (Lib.index l [39] = -1 ∧ flat l = l) ∨ ∃ i : Nat, Lib.index l [39] = (i : Int) ∧ i < l.length ∧ flat l = l.take i ++ [39, 92, 39, 39] ++ flat (l.drop (i + 1)) := by
  induction l with
  | nil => exact .inl ⟨rfl, rfl⟩
  | cons b m ih =>
    rw [index39]
    by_cases hb : b = 39
    · refine .inr ⟨0, by rw [if_pos hb]; rfl, by simp, ?_⟩
      rw [flat_cons, if_pos hb]
      rfl
    · rw [if_neg hb]
      rcases ih with ⟨h1, h2⟩ | ⟨i, h1, h2, h3⟩
      · rw [if_pos h1]
        refine .inl ⟨rfl, ?_⟩
        rw [flat_cons, if_neg hb, h2]
        rfl
      · rw [if_neg (by omega), h1]
        refine .inr ⟨i + 1, by omega, by simp; omega, ?_⟩
        rw [flat_cons, if_neg hb, h3]
        simp
theorem replaceK_flat : ∀ (k : Nat) (l : List UInt8), Lib.count l [39] = k → Lib.replaceK [39] [39, 92, 39, 39] k l = flat l := by
  intro k
  induction k with
  | zero =>
    intro l h
    rcases flat_index l with ⟨h1, h2⟩ | ⟨i, h1, h2, h3⟩
    · rw [h2]; rfl
    · rw [Lib.count_hit (by simp) h1] at h; omega
  | succ k ih =>
    intro l h
    rcases flat_index l with ⟨h1, h2⟩ | ⟨i, h1, h2, h3⟩
    · rw [Lib.count_miss h1] at h; omega
    · rw [Lib.count_hit (by simp) h1] at h
      rw [Lib.replaceK_hit _ _ _ _ i h1, h3]
      rw [ih _ (by simp only [List.length_cons, List.length_nil] at h ⊢; omega)]
      rfl
theorem flat_len (t : List UInt8) : (flat t).length ≤ 4 * t.length := by
  induction t with
  | nil => simp [flat_nil]
  | cons b t ih =>
    rw [flat_cons]
    split <;> simp <;> omega
theorem replaceAll_eq (t : List UInt8) (ht : t.length < 4000000) : strings_ReplaceAll.f (B t) (⟨#[39]⟩ : ByteArray) (⟨#[39, 92, 39, 39]⟩ : ByteArray) = some (B (flat t)) := by
  unfold strings_ReplaceAll.f strings_Replace.f
  have h1 : Lib.countB (B t) (⟨#[39]⟩ : ByteArray) ≤ t.length + 1 := by unfold Lib.countB; rw [B_data]; exact Lib.count_le _ _
  rw [if_pos ⟨by rw [B_size]; omega, by decide, by rw [B_size, show (⟨#[39, 92, 39, 39]⟩ : ByteArray).size = 4 from rfl]; omega⟩, B_data]
  rw [Option.bind_some]
  have e : Lib.replace t [39] [39, 92, 39, 39] (-1) = flat t := by
    unfold Lib.replace
    rw [if_neg (by decide)]
    unfold Lib.replaceNum
    rw [if_pos (.inl (by decide))]
    exact replaceK_flat _ t rfl
  show some (⟨(Lib.replace t [39] [39, 92, 39, 39] (-1)).toArray⟩ : ByteArray) = _
  rw [e]
  rfl
theorem Quote_eq (t : List UInt8) (ht : t.length < 4000000) : lex_Quote.f (B t) = some (B (quoteU t)) := by
  unfold lex_Quote.f quoteU
  rw [plain_eq t (by omega), Option.bind_some]
  have hf := flat_len t
  by_cases h : plainU t = true
  · rw [if_pos h, if_pos h]
  · rw [if_neg h, if_neg h, replaceAll_eq t ht, Option.bind_some]
    have e1 : (⟨#[39]⟩ : ByteArray) = B [39] := rfl
    rw [e1, B_append, B_append, B_size, B_size, if_pos (by omega), if_pos (by simp; omega)]
    rfl
end Go.Proofs.YtogbdjboblfokaaDoor.X
/- lex.Show says the plain line; how long tokens and lines are; plain Lean. -/
namespace Go.Proofs.YtogbdjboblfokaaDoor.X
open Go.RowKit Go.Proofs.YtogbdjboblfokaaDoorW.PrintWords Go.Proofs.YtogbdjboblfokaaDoorW.PrintLast Go.Proofs.YtogbdjboblfokaaDoorW.PrintMore Go.Proofs.YtogbdjboblfokaaDoor.XW05
open Go.Proofs.YtogbdjboblfokaaDoor.XT06
set_option linter.unusedSimpArgs false
set_option linter.unusedVariables false

theorem join_eq : ∀ A : List (List UInt8), Lib.join A [32] = joinU A := by
  intro A
  induction A with
  | nil => rfl
  | cons x A ih =>
    cases A with
    | nil => simp [Lib.join, joinU]
    | cons y A => simp [Lib.join, joinU] at ih ⊢; rw [ih]
theorem Join_eq (A : List (List UInt8)) (h1 : A.length ≤ 140737488355328) (h2 : (joinU A).length ≤ 140737488355328) : strings_Join.f (A.map B) (⟨#[32]⟩ : ByteArray) = some (B (joinU A)) := by
  have e : (A.map B).map (fun x => x.data.toList) = A := by
    rw [List.map_map]
    conv => rhs; rw [← List.map_id A]
    apply List.map_congr_left
    intro x _
    simp [B_data]
  have e2 : Lib.join ((A.map B).map (fun x => x.data.toList)) (⟨#[32]⟩ : ByteArray).data.toList = joinU A := by rw [e]; exact join_eq A
  unfold strings_Join.f
  rw [if_pos ⟨by rw [List.length_map]; exact h1, by rw [e2]; exact h2⟩]
  unfold joined
  rw [e2]
  rfl
def pickM (T : List (List UInt8 × Nat)) (k : Nat) (s : List UInt8) : List UInt8 :=
  match T with
  | [] => s
  | m :: T => pickM T k (if m.2 = k then m.1 else s)
theorem pickM_eq (x : Nat × List UInt8) (h : okTok x) : pickM marksT x.1 (quoteU x.2) = show1 x := by
  obtain ⟨k, t⟩ := x
  rcases h with h0 | ⟨h1, h6, ht⟩
  · simp only at h0
    subst h0
    simp [pickM, marksT, show1]
  · simp only at h1 h6
    have hk : k = 1 ∨ k = 2 ∨ k = 3 ∨ k = 4 ∨ k = 5 ∨ k = 6 := by omega
    rcases hk with rfl | rfl | rfl | rfl | rfl | rfl <;> simp [pickM, marksT, show1, markT]
theorem show_inner {v : ByteArray} (x3 : List ByteArray) (X9 : List S66) (x10 x11 : Int) (kd : Nat) (tx : ByteArray) (h3 : x3.length < 8796093022208) : ∀ i, i ≤ marksT.length → ∀ s, Ev (fun k => lex_Show.l0 k (x3 ++ [B (pickM (marksT.drop i) kd s)]) X9 x10 (wrap64 (x11 + 1))) v →
    Ev (fun k => lex_Show.l1 k x3 (B s) X9 x10 x11 (marksT.map s94) (marksT.length : Int) (i : Int) (kd : Int) tx) v := by
  refine upto_ind ?_ ?_
  · intro s h
    refine Ev.step (fun k => by rw [lex_Show.l1]) ?_
    refine Ev.neg (by omega) ?_
    refine Ev.pos (by omega) ?_
    rw [List.drop_length] at h
    exact h
  · intro i hi ih s h
    have hi6 : i < 6 := hi
    have r : rd_T118 (marksT.map s94) (i : Int) = s94 marksT[i] := by
      unfold rd_T118
      rw [show ((i : Int)).toNat = i from rfl, List.getD_eq_getElem?_getD, List.getElem?_map, List.getElem?_eq_getElem hi]
      rfl
    rw [← wrap_succ i (by omega)] at ih
    rw [List.drop_eq_getElem_cons hi, pickM] at h
    refine Ev.step (fun k => by rw [lex_Show.l1]) ?_
    rw [r]
    refine Ev.pos (by omega) ?_
    refine Ev.pos (by omega) ?_
    refine Ev.pos (by simp; omega) ?_
    refine Ev.iff (show ((s94 marksT[i]).f1 = (kd : Int)) = (marksT[i].2 = kd) from propext (by show ((marksT[i].2 : Int) = (kd : Int)) ↔ _; omega)) ?_ ?_
    · intro hk
      exact ih _ (Eq.mp (congrArg (fun z => Ev (fun k => lex_Show.l0 k (x3 ++ [B (pickM (marksT.drop (i + 1)) kd z)]) X9 x10 (wrap64 (x11 + 1))) v) (if_pos hk)) h)
    · intro hk
      exact ih _ (Eq.mp (congrArg (fun z => Ev (fun k => lex_Show.l0 k (x3 ++ [B (pickM (marksT.drop (i + 1)) kd z)]) X9 x10 (wrap64 (x11 + 1))) v) (if_neg hk)) h)
theorem show_outer (l : List (Nat × List UInt8)) (hl : l.length < 4000000) (hok : ∀ x ∈ l, okTok x) (hlen : ∀ x ∈ l, x.2.length < 4000000) (hj : (joinU (l.map show1)).length ≤ 140737488355328) :
    ∀ i, i ≤ l.length → Ev (fun k => lex_Show.l0 k (((l.take i).map show1).map B) (l.map s83) (l.length : Int) (i : Int)) (B (joinU (l.map show1))) := by
  refine upto_ind ?_ ?_
  · refine Ev.step (fun k => by rw [lex_Show.l0]) ?_
    refine Ev.neg (by omega) ?_
    rw [List.take_length]
    exact Ev.bind (Ev.of (Join_eq _ (by simp; omega) hj)) (Ev.ret _)
  · intro i hi ih
    have r : rd_T66 (l.map s83) (i : Int) = s83 l[i] := by
      unfold rd_T66
      rw [show ((i : Int)).toNat = i from rfl, List.getD_eq_getElem?_getD, List.getElem?_map, List.getElem?_eq_getElem hi]
      rfl
    rw [← wrap_succ i (by omega)] at ih
    refine Ev.step (fun k => by rw [lex_Show.l0]) ?_
    rw [r]
    refine Ev.pos (by omega) ?_
    refine Ev.pos (by omega) ?_
    refine Ev.pos (by simp; omega) ?_
    refine Ev.bind (Ev.of (Quote_eq l[i].2 (hlen _ (List.getElem_mem hi)))) ?_
    have hm : lex_marks.f = some (marksT.map s94) := by unfold lex_marks.f; rfl
    refine Ev.bind (Ev.of hm) ?_
    have := show_inner (v := B (joinU (l.map show1))) (((l.take i).map show1).map B) (l.map s83) (l.length : Int) (i : Int) l[i].1 (B l[i].2) (by simp; omega) 0 (by decide) (quoteU l[i].2) (by
      rw [List.drop_zero, pickM_eq _ (hok _ (List.getElem_mem hi))]
      rw [List.take_succ_eq_append_getElem hi, List.map_append, List.map_append] at ih
      exact ih)
    exact this
theorem Show_ev (l : List (Nat × List UInt8)) (hl : l.length < 4000000) (hok : ∀ x ∈ l, okTok x) (hlen : ∀ x ∈ l, x.2.length < 4000000) (hj : (joinU (l.map show1)).length ≤ 140737488355328) :
    Ev (fun k => lex_Show.f k (l.map s83)) (B (joinU (l.map show1))) := by
  refine Ev.congr (fun k => by rw [lex_Show.f]) ?_
  have := show_outer l hl hok hlen hj 0 (by omega)
  rw [List.length_map]
  exact this
theorem qS_both (e : UInt8) : ∀ d (l acc t r : List UInt8), l.length ≤ d → qS e acc l = some (t, r) → t.length + r.length ≤ acc.length + l.length := by
  intro d
  induction d with
  | zero =>
    intro l acc t r hd h
    cases l with
    | nil => rw [qS_nil] at h; exact absurd h (by simp)
    | cons b m => simp at hd
  | succ d ih =>
    intro l acc t r hd h
    cases l with
    | nil => rw [qS_nil] at h; exact absurd h (by simp)
    | cons b m =>
      simp only [List.length_cons] at hd ⊢
      cases m with
      | nil =>
        rw [qS_single] at h
        split at h
        · injection h with h; injection h with h1 h2; subst h1 h2; simp
        · exact absurd h (by simp)
      | cons c m' =>
        simp only [List.length_cons] at hd ⊢
        rw [qS_two] at h
        split at h
        · injection h with h; injection h with h1 h2; subst h1 h2; simp only [List.length_cons]; omega
        · split at h
          · have := ih m' _ t r (by omega) h
            simp only [List.length_append, List.length_cons, List.length_nil] at this; omega
          · have := ih (c :: m') _ t r (by simp; omega) h
            simp only [List.length_append, List.length_cons, List.length_nil] at this; omega
theorem wS_len : ∀ d (l acc t r : List UInt8), l.length ≤ d → wS acc l = some (t, r) → t.length ≤ acc.length + l.length := by
  intro d
  induction d with
  | zero =>
    intro l acc t r hd h
    cases l with
    | nil => rw [wS_nil] at h; injection h with h; injection h with h1 h2; subst h1; omega
    | cons b m => simp at hd
  | succ d ih =>
    intro l acc t r hd h
    cases l with
    | nil => rw [wS_nil] at h; injection h with h; injection h with h1 h2; subst h1; omega
    | cons b m =>
      simp only [List.length_cons] at hd ⊢
      by_cases hs : stopB b = true
      · rw [wS_stop _ _ _ hs] at h; injection h with h; injection h with h1 h2; subst h1; omega
      · by_cases hq : b = 39 ∨ b = 34
        · cases hqs : qS b [] m with
          | none => rw [wS_q0 _ _ _ hs hq hqs] at h; exact absurd h (by simp)
          | some x =>
            obtain ⟨t1, r1⟩ := x
            rw [wS_q _ _ _ _ _ hs hq hqs] at h
            have hl := qS_less hqs
            obtain ⟨p1, hp1, _⟩ := qS_suffix _ _ _ _ _ _ (Nat.le_refl _) hqs
            have := ih r1 _ t r (by omega) h
            have h4 : t1.length + r1.length ≤ m.length := by simpa using qS_both b _ m [] t1 r1 (Nat.le_refl _) hqs
            simp only [List.length_append] at this
            omega
        · by_cases hb : b = 92
          · subst hb
            cases m with
            | nil => rw [wS_b0] at h; exact absurd h (by simp)
            | cons c m' =>
              rw [wS_b] at h
              simp only [List.length_cons] at hd ⊢
              have := ih m' _ t r (by omega) h
              simp only [List.length_append, List.length_cons, List.length_nil] at this; omega
          · rw [wS_one _ _ _ hs (fun h => hq (.inl h)) (fun h => hq (.inr h)) hb] at h
            have := ih m _ t r (by omega) h
            simp only [List.length_append, List.length_cons, List.length_nil] at this; omega
theorem tokS_len (N : Nat) : ∀ d (l : List UInt8) (out res : List (Nat × List UInt8)), l.length ≤ d → l.length ≤ N → (∀ x ∈ out, x.2.length ≤ N) → tokS out l = some res → res.length ≤ out.length + l.length ∧ ∀ x ∈ res, x.2.length ≤ N := by
  intro d
  induction d with
  | zero =>
    intro l out res hd hN ho h
    cases l with
    | nil => rw [tokS_nil] at h; injection h with h; subst h; exact ⟨by omega, ho⟩
    | cons b r => simp at hd
  | succ d ih =>
    intro l out res hd hN ho h
    cases l with
    | nil => rw [tokS_nil] at h; injection h with h; subst h; exact ⟨by omega, ho⟩
    | cons b r =>
      simp only [List.length_cons] at hd hN ⊢
      by_cases hb : blk b = true
      · rw [tokS_blk _ _ _ hb] at h
        have := ih r out res (by omega) (by omega) ho h
        exact ⟨by omega, this.2⟩
      · cases hm : markS (b :: r) with
        | some x =>
          obtain ⟨k, n, r'⟩ := x
          rw [tokS_mark _ _ _ hb k n r' hm] at h
          obtain ⟨⟨p, hp, hl⟩, h0, h1, h6⟩ := markS_suffix hm
          have hlen := congrArg List.length hp
          simp only [List.length_append, List.length_cons] at hlen
          have := ih r' _ res (by omega) (by omega) (by
            intro x hx
            rcases List.mem_append.1 hx with hx | hx
            · exact ho x hx
            · rw [List.mem_singleton.1 hx]; exact Nat.zero_le _) h
          refine ⟨?_, this.2⟩
          have := this.1
          simp only [List.length_append, List.length_cons, List.length_nil] at this
          omega
        | none =>
          cases hw : wS [] (b :: r) with
          | none => rw [tokS_bad _ _ _ hb hm hw] at h; exact absurd h (by simp)
          | some x =>
            obtain ⟨t, r'⟩ := x
            have hwl := wS_len _ _ _ _ _ (Nat.le_refl _) hw
            simp only [List.length_cons, List.length_nil] at hwl
            rw [tokS_word _ _ _ hb hm t r' hw] at h
            split at h
            · rename_i hlt
              simp only [List.length_cons] at hlt
              have := ih r' _ res (by omega) (by omega) (by
                intro x hx
                rcases List.mem_append.1 hx with hx | hx
                · exact ho x hx
                · rw [List.mem_singleton.1 hx]; show t.length ≤ N; omega) h
              refine ⟨?_, this.2⟩
              have := this.1
              simp only [List.length_append, List.length_cons, List.length_nil] at this
              omega
            · exact absurd h (by simp)
theorem show1_len (x : Nat × List UInt8) : (show1 x).length ≤ 4 * x.2.length + 2 := by
  unfold show1
  split
  · unfold quoteU
    split
    · omega
    · have := flat_len x.2
      simp; omega
  · unfold markT
    repeat' split
    all_goals simp
theorem joinU_len (M : Nat) : ∀ A : List (List UInt8), (∀ x ∈ A, x.length ≤ M) → (joinU A).length ≤ A.length * (M + 1) := by
  intro A
  induction A with
  | nil => intro _; simp [joinU]
  | cons x A ih =>
    intro h
    have hx := h x (by simp)
    cases A with
    | nil => simp [joinU]; omega
    | cons y A =>
      have := ih (fun z hz => h z (by simp [hz]))
      rw [joinU, List.length_append, List.length_cons, List.length_cons, Nat.succ_mul]
      omega
end Go.Proofs.YtogbdjboblfokaaDoor.X
/- parse.Line as a plain function, with its contract; condition: a text of fewer than 500000000 bytes. -/
namespace Go.Proofs.YtogbdjboblfokaaDoor.X
open Go.RowKit Go.Proofs.YtogbdjboblfokaaDoorW.PrintWords Go.Proofs.YtogbdjboblfokaaDoorW.PrintLast Go.Proofs.YtogbdjboblfokaaDoorW.PrintMore Go.Proofs.YtogbdjboblfokaaDoor.XW05 Go.Proofs.YtogbdjboblfokaaDoor.XT06
set_option linter.unusedSimpArgs false
set_option linter.unusedVariables false

def toS (c : Cmd) : S40 := ⟨c.on, c.words.map B, c.tos.map toT⟩
def resL (o : Option (List Cmd)) : List S40 × Int := match o with | some res => (res.map toS, 0) | none => ([], 6)
def parseU (l : List UInt8) : Option (List Cmd) := match tokS [] l with | none => none | some toks => lineS [] 1 toks
def parse_Line.f (a0 : ByteArray) : Option (List S40 × Int) := if a0.size < 500000000 then some (resL (parseU a0.data.toList)) else none
theorem M_apart {α : Type} {d : Kd α} {base e' : Nat} {ok : Nat → Prop} {w : World} {v : Value} {x : α} {cs : List Value} (h : d.M w base ok x cs) (hty : ∀ k, v.ownBlock = some k → ∃ cells, w.heap[k]? = some (.cells cells e' (0, 0))) (ht : ∀ q ∈ d.E, q ≠ e') : d.M w base (fun k => ok k ∧ some k ≠ v.ownBlock) x cs := by
  refine d.M_mono (fun k hk => ⟨hk.1, fun e => ?_⟩) (d.M_bound h)
  obtain ⟨_, _, _, q, hq, cells, hc⟩ := hk
  obtain ⟨cells', hc'⟩ := hty k e.symm
  rw [hc] at hc'
  injection hc' with hc'
  injection hc' with _ hc' _
  exact ht q hq hc'

theorem S_grown_ty {α : Type} {d : Kd α} {e base t : Nat} {ok : Nat → Prop} {w w1 : World} {v : Value} {xs : List α} {row : Option Nat} (h : Kd.S d e w base ok v xs) (hg : w.grownBy w1 row)
    (ht : ∀ k, row = some k → ∃ cells, w.heap[k]? = some (.cells cells t (0, 0))) (hne : ∀ q, q ∈ e :: d.E → q ≠ t) : Kd.S d e w1 base ok v xs := by
  obtain ⟨f, hf⟩ := h
  exact ⟨f, R_grown_ty hf hg ht hne⟩
/-- What holds between the rounds of Line. -/
structure LI (w : World) (br b N C : Nat) (toks : List Tok) (vo : Value) (j : Nat) (outs : List Cmd) (W : World) : Prop where
  rd : RdI br b j N W
  tok : 0 < N → Kd.R k66 66 W w.heap.size (fun _ => True) (.slice (some ⟨b, 0, none⟩) N C) (toks.map s83)
  out : Kd.S k40 40 W w.heap.size (fun _ => True) vo (outs.map toS)
  bel : Below w.heap.size w W
  hbr : w.heap.size ≤ br
section
variable {w W W1 : World} {br b N C j : Nat} {toks : List Tok} {vo : Value} {outs : List Cmd}
theorem LI.new (h : LI w br b N C toks vo j outs W) (hg : W.grownBy W1 none) : LI w br b N C toks vo j outs W1 := by
  have nn : ∀ (t : Nat) (k : Nat), (none : Option Nat) = some k → ∃ cells, W.heap[k]? = some (.cells cells t (0, 0)) := fun _ _ e => by cases e
  exact ⟨h.rd.grown hg (nn 0) (by decide), fun h0 => R_grown_ty (h.tok h0) hg (nn 0) (by decide), S_grown_ty h.out hg (nn 0) (by decide), h.bel.grown hg h.bel.size (fun k hk => by cases hk), h.hbr⟩
theorem LI.take (h : LI w br b N C toks vo j outs W) {j1 : Nat} (hr : RdI br b j1 N W1) (hg : W.grownBy W1 (some br)) : LI w br b N C toks vo j1 outs W1 :=
  ⟨hr, fun h0 => R_grown_ty (h.tok h0) hg h.rd.ty (by decide), S_grown_ty h.out hg h.rd.ty (by decide), h.bel.grown hg h.bel.size (fun k hk => by injection hk with hk; subst hk; exact h.hbr), h.hbr⟩
theorem LI.app (h : LI w br b N C toks vo j outs W) {v1 : Value} {outs1 : List Cmd} (hg : W.grownBy W1 vo.ownBlock) (ho : Kd.S k40 40 W1 w.heap.size (fun _ => True) v1 (outs1.map toS)) : LI w br b N C toks v1 j outs1 W1 :=
  ⟨h.rd.grown hg (Kd.S_typed h.out) (by decide), fun h0 => R_grown_ty (h.tok h0) hg (Kd.S_typed h.out) (by decide), ho, h.bel.grown hg h.bel.size (Kd.S_base h.out), h.hbr⟩
end
theorem RdI.cell {br b j N : Nat} {W : World} (h : RdI br b j N W) : ∃ A c, W.cell? ⟨br, 0, none⟩ = some (.slice A (N - j) c) := by
  obtain ⟨_, A, c, hb, _⟩ := h
  exact ⟨A, c, blk_cell hb 0⟩
theorem field0 (k : Int) (x : ByteArray) (W : World) : Sem.run Tryd.prog (Instr.field 66 (Value.agg #[Value.int IntKind.i64 k, Value.string x]) 0) W = .ok (.int .i64 k) W := by kernel_rfl
set_option maxRecDepth 100000 in
set_option maxHeartbeats 8000000 in
theorem parse_Line.calls (a0 : ByteArray) (r1 : List S40) (r2 : Int) (w : World) (h : parse_Line.f a0 = some (r1, r2)) :
    Calls Tryd.prog 7 #[.string a0] w fun e w' => ∃ v0_ : Value, e = .returned (.tuple #[v0_, .int .i64 r2]) ∧ Kd.S k40 40 w' w.heap.size (fun _ => True) v0_ r1 ∧ Below w.heap.size w w' := by
  unfold parse_Line.f at h
  by_cases hsz : a0.size < 500000000
  case neg => rw [if_neg hsz] at h; exact absurd h (by simp)
  rw [if_pos hsz] at h
  have h := Option.some.inj h
  obtain ⟨l, rfl, hl⟩ := ex_B a0
  rw [B_data] at h
  have hl' : l.length < 500000000 := by rw [B_size] at hsz; exact hsz
  have infoC : (Tryd.prog.info? 40).map (fun i => (i.zero, i.size, i.bytes)) = some (some (.agg #[.int .i64 0, .slice none 0 0, .slice none 0 0]), 3, 56) := by kernel_rfl
  obtain ⟨kt, hkt⟩ := (Tokens_ev l (by omega)).get
  have hlen : ∀ toks, tokS [] l = some toks → toks.length ≤ l.length ∧ ∀ x ∈ toks, x.1 ≤ 6 := by
    intro toks ht
    obtain ⟨h1, _⟩ := tokS_len l.length _ l [] toks (Nat.le_refl _) (Nat.le_refl _) (by simp) ht
    refine ⟨by simpa using h1, fun x hx => ?_⟩
    rcases tokS_ok _ l [] toks (Nat.le_refl _) (by simp) ht x hx with h | h
    · omega
    · exact h.2.1
  unfold parseU at h
  cases ht : tokS [] l with
  | none =>
    rw [ht] at h hkt
    obtain ⟨rfl, rfl⟩ := Prod.mk.inj h
    go_enter Tryd.func7, Tryd.ntmps7
    go_wp2_with (go_at_call 19; refine (lex_Tokens.calls kt (B l) [] 6 _ hkt).mono ?_; rintro e1 w1 ⟨v1, rfl, ho1, hb1⟩)
    go_ret2
    exact ⟨_, rfl, Kd.S_nil _ _ _ _ _, hb1⟩
  | some toks =>
    rw [ht] at h hkt
    obtain ⟨hN, h6⟩ := hlen toks ht
    simp only [resT] at hkt
    obtain ⟨LM, hLM⟩ : ∃ x, lineS [] 1 toks = x := ⟨_, rfl⟩
    simp only [hLM] at h
    have HRES := Aside0.mk h
    clear h ht hlen
    have hnn : toks.length < 1000000000 := by omega
    have HNN := Aside0.mk hnn
    have HH6 := Aside0.mk h6
    have HLM := Aside0.mk hLM
    clear hN hnn h6 hLM hl' hsz hl
    go_enter Tryd.func7, Tryd.ntmps7
    go_wp2_with (go_at_call 19; refine (lex_Tokens.calls kt (B l) (toks.map s83) 0 _ hkt).mono ?_; rintro e1 w1 ⟨v1, rfl, ho1, hb1⟩; obtain ⟨Av, cv, ev⟩ := Kd.R_slice ho1; subst ev; rw [List.length_map] at ho1 ⊢)
    have hst : ∃ b C, LI w w1.heap.size b toks.length C toks (.slice none 0 0) 0 [] (w1.alloc (.cells #[.slice Av toks.length cv] 62)) := by
      have hbn := blk_new w1 (.cells #[.slice Av toks.length cv] 62 (0, 0))
      have hbl : Below w.heap.size w (w1.alloc (.cells #[.slice Av toks.length cv] 62)) := below_alloc hb1 _
      by_cases hz : 0 < toks.length
      · obtain ⟨g, cap, eg, _⟩ := Kd.R_form ho1 (by rw [List.length_map]; exact hz)
        injection eg with e1 e2 e3
        subst e1 e3
        have hcap := (Kd.R_reads' ho1).2.1
        exact ⟨g, cv, ⟨Nat.zero_le _, _, cv, hbn, fun _ => ⟨by rw [Nat.zero_mul], hcap⟩⟩, fun _ => Kd.R_alloc ho1 _, Kd.S_nil _ _ _ _ _, hbl, hb1.size⟩
      · exact ⟨0, 0, ⟨Nat.zero_le _, Av, cv, hbn, fun h => absurd h hz⟩, fun h => absurd h hz, Kd.S_nil _ _ _ _ _, hbl, hb1.size⟩
    obtain ⟨b, C, hst⟩ := hst
    have HST := Aside0.mk hst
    obtain ⟨br, hbr⟩ : ∃ br, w1.heap.size = br := ⟨_, rfl⟩
    rw [hbr] at HST ⊢
    clear hst ho1 hb1 hbr hkt
    go_loopg [7, 8] (toks.length + 1) (fun g v7 v8 wr => ∃ (j : Nat) (on : Int) (outs : List Cmd), v7 = .int .i64 on ∧ j ≤ toks.length ∧ toks.length - j < g ∧ Aside0 (outs.length ≤ j) ∧ Aside0 (LI w br b toks.length C toks v8 j outs wr) ∧ Aside0 (lineS outs on (toks.drop j) = LM))
    case atStart => exact ⟨0, 1, [], rfl, Nat.zero_le _, by omega, ⟨by simp⟩, HST, HLM⟩
    case round =>
      obtain ⟨j, on, outs, rfl, hj, hg, HOL, HJ, HR⟩ := hrel
      obtain ⟨Ao, co, eo⟩ := Kd.S_slice HJ.out.out
      rw [List.length_map] at eo
      subst eo
      obtain ⟨A, c0, hc0⟩ := HJ.out.rd.cell
      by_cases hlt : j < toks.length
      · have HPOS := Aside0.mk (show 0 < toks.length by omega)
        have hn0 : toks.drop j ≠ [] := fun e => by have := congrArg List.length e; simp at this; omega
        obtain ⟨n, hn⟩ : ∃ n, toks.length - j = n := ⟨_, rfl⟩
        rw [hn] at hc0
        have hn1 : (0 : Int) < (n : Int) := by omega
        have hn2 : 0 < n := by omega
        cases hcm : cmdS on [] [] (toks.drop j) with
        | none =>
          have HCM := Aside0.mk hcm
          have HRN := Aside0.mk (show resL none = (r1, r2) by rw [← HRES.out, ← HR.out, lineS_bad _ _ _ hn0 hcm])
          clear hcm hn0
          go_wp2_with (go_at_call 20; refine (command_calls br b j toks.length C on toks _ rfl HNN.out HH6.out HJ.out.rd (HJ.out.tok HPOS.out)).mono ?_; rintro e2 w2 ⟨on', Aw, nw, cw, At, nt, ct, okb, rfl, hg2, hce⟩; rw [HCM.out] at hce; have hokb : okb = false := hce; subst hokb; have hbl2 := HJ.out.bel.grown hg2 HJ.out.bel.size (fun k hk => by injection hk with hk; subst hk; exact HJ.out.hbr))
          go_ret2
          obtain ⟨rfl, rfl⟩ := Prod.mk.inj HRN.out
          exact ⟨_, rfl, Kd.S_nil _ _ _ _ _, by first | exact hbl2 | exact below_alloc hbl2 _⟩
        | some cr =>
          obtain ⟨c, r⟩ := cr
          have HCM := Aside0.mk hcm
          have hless := cmdS_less _ _ _ _ hcm
          have HREST := Aside0.mk (show ∀ j2, r = toks.drop j2 → j2 ≤ toks.length → j < j2 ∧ (r = [] ↔ j2 = toks.length) by
            rintro j2 rfl hj2
            simp only [List.length_drop] at hless
            refine ⟨by omega, ?_⟩
            rw [List.drop_eq_nil_iff]; omega)
          have HLAST := Aside0.mk (show r = [] → LM = some (outs ++ [c]) by rintro rfl; rw [← HR.out, lineS_last _ _ _ hn0 c hcm])
          have HMORE := Aside0.mk (show ∀ k x m, r = (k, x) :: m → LM = if k ≠ 1 ∧ m = [] then none else lineS (outs ++ [c]) (k : Int) m by rintro k x m rfl; rw [← HR.out, lineS_more _ _ _ hn0 c k x m hcm])
          clear hcm hn0 hless
          cases r with
          | nil =>
            have HRN := Aside0.mk (show resL (some (outs ++ [c])) = (r1, r2) by rw [← HRES.out, HLAST.out rfl])
            go_wp2_with (first | (go_at_call 20; refine (command_calls br b j toks.length C on toks _ rfl HNN.out HH6.out HJ.out.rd (HJ.out.tok HPOS.out)).mono ?_; rintro e2 w2 ⟨on', Aw, nw, cw, At, nt, ct, okb, rfl, hg2, hce⟩; rw [HCM.out] at hce; obtain ⟨rfl, rfl, j2, hr, hrd2, hw2, ht2⟩ := hce; have J2 := Aside0.mk (HJ.out.take hrd2 hg2); have J2a := Aside0.mk (J2.out.new (World.grownBy_alloc _ (.cells #[.int .i64 c.on, .slice Aw nw cw, .slice At nt ct] 40) none)); have HP := Aside0.mk (k40_mkM (w2.alloc (.cells #[.int .i64 c.on, .slice Aw nw cw, .slice At nt ct] 40)) w.heap.size (fun k => wr.heap.size ≤ k) (toS c) (Kd.R_lower (Kd.R_alloc (Kd.R_mono (Kd.R_bound hw2) (fun k hk => hk.2.1)) _) HJ.out.bel.size) (Kd.R_lower (Kd.R_alloc (Kd.R_mono (Kd.R_bound ht2) (fun k hk => hk.2.1)) _) HJ.out.bel.size)); have HS := Aside0.mk (Kd.S_alloc (S_grown_ty (Kd.S_mono (Kd.S_bound HJ.out.out) (ok' := fun k => True ∧ ¬ (wr.heap.size ≤ k)) (fun k hk => ⟨trivial, Nat.not_le_of_lt hk.2.2.1⟩)) hg2 HJ.out.rd.ty (by decide)) (.cells #[.int .i64 c.on, .slice Aw nw cw, .slice At nt ct] 40)); have HW2 := Aside0.mk (HREST.out j2 hr hrd2.1); have HR2 := Aside0.mk hr; clear hr hrd2 hw2 ht2 hg2) | ((with_reducible refine gate_builtin (b := .append) (xs := #[.tmp 36, .tmp 38]) rfl ?_); at_builtin; refine Kd.S_append k40 (w0 := w) w.heap.size rfl (.tmp 36) (.tmp 38) 23 40 (.agg #[.int .i64 0, .slice none 0 0, .slice none 0 0]) 56 rfl Tryd.underlying23 infoC rfl (by decide) (by omega) (.slice Ao outs.length co) (outs.map toS) (toS c) [.int .i64 c.on, .slice Aw nw cw, .slice At nt ct] (fun _ => True) (fun k => wr.heap.size ≤ k) rfl (by first | (go_simp; done) | (go_simp; rfl)) HP.out (fun k hk => ⟨trivial, fun e => Nat.not_le_of_lt (Kd.S_lt HJ.out.out k e.symm) hk⟩) (fun _ _ => trivial) HS.out J2a.out.bel J2a.out.bel.size (by have := HOL.out; have := HNN.out; rw [List.length_map]; omega) ?_; intro v1 w5 ho hb hg5 hat; obtain ⟨A1, n1, q1, ev⟩ := R_is (Kd.S_R ho); subst ev; rw [show outs.map toS ++ [toS c] = (outs ++ [c]).map toS by simp] at ho; have J5 := Aside0.mk (J2a.out.app hg5 ho); obtain ⟨A5, c5, hc5⟩ := J5.out.rd.cell; rw [show toks.length - j2 = 0 by have := HW2.out.2.mp (by first | rfl | trivial); omega] at hc5; clear ho hb hg5 hat))
            go_ret2
            obtain ⟨rfl, rfl⟩ := Prod.mk.inj HRN.out
            exact ⟨_, rfl, J5.out.out, J5.out.bel⟩
          | cons kx m =>
            obtain ⟨k, x⟩ := kx
            have HD := Aside0.mk (show ∀ j2, (k, x) :: m = toks.drop j2 → j2 < toks.length ∧ m = toks.drop (j2 + 1) ∧ (m = [] ↔ j2 + 1 = toks.length) by
              intro j2 h
              have hlt2 : j2 < toks.length := by have := congrArg List.length h; simp at this; omega
              have h' := h
              rw [drop_get toks j2 hlt2] at h'
              injection h' with _ h'
              refine ⟨hlt2, h', ?_⟩
              rw [h', List.drop_eq_nil_iff]; omega)
            have HTK := Aside0.mk (show ∀ j2 W, (k, x) :: m = toks.drop j2 → j2 < toks.length → RdI br b j2 toks.length W → Kd.R k66 66 W w.heap.size (fun _ => True) (.slice (some ⟨b, 0, none⟩) toks.length C) (toks.map s83) →
                Calls Tryd.prog 21 #[.pointer (some ⟨br, 0, none⟩)] W fun e w' => e = .returned (.agg #[.int .i64 (k : Int), .string (B x)]) ∧ RdI br b (j2 + 1) toks.length w' ∧ W.grownBy w' (some br) by
              intro j2 W h1 h2 h3 h4
              have := take_calls br b j2 toks.length C toks W rfl h3 h2 h4
              rw [drop_get toks j2 h2] at h1
              injection h1 with h1 _
              rw [← h1] at this
              exact this)
            by_cases hk1 : k = 1
            · subst hk1
              have hfield := field0 (1 : Int) (B x)
              go_wp2_with (first | (go_at_call 20; refine (command_calls br b j toks.length C on toks _ rfl HNN.out HH6.out HJ.out.rd (HJ.out.tok HPOS.out)).mono ?_; rintro e2 w2 ⟨on', Aw, nw, cw, At, nt, ct, okb, rfl, hg2, hce⟩; rw [HCM.out] at hce; obtain ⟨rfl, rfl, j2, hr, hrd2, hw2, ht2⟩ := hce; have J2 := Aside0.mk (HJ.out.take hrd2 hg2); have J2a := Aside0.mk (J2.out.new (World.grownBy_alloc _ (.cells #[.int .i64 c.on, .slice Aw nw cw, .slice At nt ct] 40) none)); have HP := Aside0.mk (k40_mkM (w2.alloc (.cells #[.int .i64 c.on, .slice Aw nw cw, .slice At nt ct] 40)) w.heap.size (fun k => wr.heap.size ≤ k) (toS c) (Kd.R_lower (Kd.R_alloc (Kd.R_mono (Kd.R_bound hw2) (fun k hk => hk.2.1)) _) HJ.out.bel.size) (Kd.R_lower (Kd.R_alloc (Kd.R_mono (Kd.R_bound ht2) (fun k hk => hk.2.1)) _) HJ.out.bel.size)); have HS := Aside0.mk (Kd.S_alloc (S_grown_ty (Kd.S_mono (Kd.S_bound HJ.out.out) (ok' := fun k => True ∧ ¬ (wr.heap.size ≤ k)) (fun k hk => ⟨trivial, Nat.not_le_of_lt hk.2.2.1⟩)) hg2 HJ.out.rd.ty (by decide)) (.cells #[.int .i64 c.on, .slice Aw nw cw, .slice At nt ct] 40)); have HW2 := Aside0.mk (HREST.out j2 hr hrd2.1); have HR2 := Aside0.mk hr; clear hr hrd2 hw2 ht2 hg2) | ((with_reducible refine gate_builtin (b := .append) (xs := #[.tmp 36, .tmp 38]) rfl ?_); at_builtin; refine Kd.S_append k40 (w0 := w) w.heap.size rfl (.tmp 36) (.tmp 38) 23 40 (.agg #[.int .i64 0, .slice none 0 0, .slice none 0 0]) 56 rfl Tryd.underlying23 infoC rfl (by decide) (by omega) (.slice Ao outs.length co) (outs.map toS) (toS c) [.int .i64 c.on, .slice Aw nw cw, .slice At nt ct] (fun _ => True) (fun k => wr.heap.size ≤ k) rfl (by first | (go_simp; done) | (go_simp; rfl)) HP.out (fun k hk => ⟨trivial, fun e => Nat.not_le_of_lt (Kd.S_lt HJ.out.out k e.symm) hk⟩) (fun _ _ => trivial) HS.out J2a.out.bel J2a.out.bel.size (by have := HOL.out; have := HNN.out; rw [List.length_map]; omega) ?_; intro v1 w5 ho hb hg5 hat; obtain ⟨A1, n1, q1, ev⟩ := R_is (Kd.S_R ho); subst ev; rw [show outs.map toS ++ [toS c] = (outs ++ [c]).map toS by simp] at ho; have J5 := Aside0.mk (J2a.out.app hg5 ho); obtain ⟨A5, c5, hc5⟩ := J5.out.rd.cell; rw [show toks.length - j2 = toks.length - j2 - 1 + 1 by have := (HD.out j2 HR2.out).1; omega] at hc5; obtain ⟨n5, hn5⟩ : ∃ n5, toks.length - j2 - 1 = n5 := ⟨_, rfl⟩; rw [hn5] at hc5; clear hn5; have hz5 : (((n5 + 1 : Nat) : Int) == 0) = false := beq_eq_false_iff_ne.2 (by omega); clear ho hb hg5 hat) | (go_at_call 21; refine (HTK.out j2 _ HR2.out (HD.out j2 HR2.out).1 J5.out.rd (J5.out.tok HPOS.out)).mono ?_; rintro e6 w6 ⟨rfl, hr6, hg6⟩; have J6 := Aside0.mk (J5.out.take hr6 hg6); obtain ⟨A6, c6, hc6⟩ := J6.out.rd.cell; clear hr6 hg6))
              go_roundg (gk - 1)
              case measure => have := HW2.out.1; have := (HD.out j2 HR2.out).1; omega
              case rel => exact ⟨j2 + 1, (1 : Int), outs ++ [c], by first | rfl | go_num, by have := (HD.out j2 HR2.out).1; omega, by have := HW2.out.1; have := (HD.out j2 HR2.out).1; omega, ⟨by have := HOL.out; have := HW2.out.1; simp; omega⟩, J6, ⟨by have h1 := HMORE.out 1 x m rfl; rw [if_neg (by simp)] at h1; rw [h1, (HD.out j2 HR2.out).2.1]; try rfl⟩⟩
            · have hfield := field0 (k : Int) (B x)
              have hkz : ((k : Int) == 1) = false := by simp; omega
              by_cases hm : m = []
              · subst hm
                have HRN := Aside0.mk (show resL none = (r1, r2) by rw [← HRES.out, HMORE.out k x [] rfl, if_pos ⟨hk1, rfl⟩])
                go_wp2_with (first | (go_at_call 20; refine (command_calls br b j toks.length C on toks _ rfl HNN.out HH6.out HJ.out.rd (HJ.out.tok HPOS.out)).mono ?_; rintro e2 w2 ⟨on', Aw, nw, cw, At, nt, ct, okb, rfl, hg2, hce⟩; rw [HCM.out] at hce; obtain ⟨rfl, rfl, j2, hr, hrd2, hw2, ht2⟩ := hce; have J2 := Aside0.mk (HJ.out.take hrd2 hg2); have J2a := Aside0.mk (J2.out.new (World.grownBy_alloc _ (.cells #[.int .i64 c.on, .slice Aw nw cw, .slice At nt ct] 40) none)); have HP := Aside0.mk (k40_mkM (w2.alloc (.cells #[.int .i64 c.on, .slice Aw nw cw, .slice At nt ct] 40)) w.heap.size (fun k => wr.heap.size ≤ k) (toS c) (Kd.R_lower (Kd.R_alloc (Kd.R_mono (Kd.R_bound hw2) (fun k hk => hk.2.1)) _) HJ.out.bel.size) (Kd.R_lower (Kd.R_alloc (Kd.R_mono (Kd.R_bound ht2) (fun k hk => hk.2.1)) _) HJ.out.bel.size)); have HS := Aside0.mk (Kd.S_alloc (S_grown_ty (Kd.S_mono (Kd.S_bound HJ.out.out) (ok' := fun k => True ∧ ¬ (wr.heap.size ≤ k)) (fun k hk => ⟨trivial, Nat.not_le_of_lt hk.2.2.1⟩)) hg2 HJ.out.rd.ty (by decide)) (.cells #[.int .i64 c.on, .slice Aw nw cw, .slice At nt ct] 40)); have HW2 := Aside0.mk (HREST.out j2 hr hrd2.1); have HR2 := Aside0.mk hr; clear hr hrd2 hw2 ht2 hg2) | ((with_reducible refine gate_builtin (b := .append) (xs := #[.tmp 36, .tmp 38]) rfl ?_); at_builtin; refine Kd.S_append k40 (w0 := w) w.heap.size rfl (.tmp 36) (.tmp 38) 23 40 (.agg #[.int .i64 0, .slice none 0 0, .slice none 0 0]) 56 rfl Tryd.underlying23 infoC rfl (by decide) (by omega) (.slice Ao outs.length co) (outs.map toS) (toS c) [.int .i64 c.on, .slice Aw nw cw, .slice At nt ct] (fun _ => True) (fun k => wr.heap.size ≤ k) rfl (by first | (go_simp; done) | (go_simp; rfl)) HP.out (fun k hk => ⟨trivial, fun e => Nat.not_le_of_lt (Kd.S_lt HJ.out.out k e.symm) hk⟩) (fun _ _ => trivial) HS.out J2a.out.bel J2a.out.bel.size (by have := HOL.out; have := HNN.out; rw [List.length_map]; omega) ?_; intro v1 w5 ho hb hg5 hat; obtain ⟨A1, n1, q1, ev⟩ := R_is (Kd.S_R ho); subst ev; rw [show outs.map toS ++ [toS c] = (outs ++ [c]).map toS by simp] at ho; have J5 := Aside0.mk (J2a.out.app hg5 ho); obtain ⟨A5, c5, hc5⟩ := J5.out.rd.cell; rw [show toks.length - j2 = toks.length - j2 - 1 + 1 by have := (HD.out j2 HR2.out).1; omega] at hc5; obtain ⟨n5, hn5⟩ : ∃ n5, toks.length - j2 - 1 = n5 := ⟨_, rfl⟩; rw [hn5] at hc5; clear hn5; have hz5 : (((n5 + 1 : Nat) : Int) == 0) = false := beq_eq_false_iff_ne.2 (by omega); clear ho hb hg5 hat) | (go_at_call 21; refine (HTK.out j2 _ HR2.out (HD.out j2 HR2.out).1 J5.out.rd (J5.out.tok HPOS.out)).mono ?_; rintro e6 w6 ⟨rfl, hr6, hg6⟩; have J6 := Aside0.mk (J5.out.take hr6 hg6); obtain ⟨A6, c6, hc6⟩ := J6.out.rd.cell; rw [show toks.length - (j2 + 1) = 0 by have := (HD.out j2 HR2.out).2.2.mp (by first | rfl | trivial); omega] at hc6; clear hr6 hg6))
                go_ret2
                obtain ⟨rfl, rfl⟩ := Prod.mk.inj HRN.out
                exact ⟨_, rfl, Kd.S_nil _ _ _ _ _, J6.out.bel⟩
              · have HM0 := Aside0.mk hm
                clear hm
                go_wp2_with (first | (go_at_call 20; refine (command_calls br b j toks.length C on toks _ rfl HNN.out HH6.out HJ.out.rd (HJ.out.tok HPOS.out)).mono ?_; rintro e2 w2 ⟨on', Aw, nw, cw, At, nt, ct, okb, rfl, hg2, hce⟩; rw [HCM.out] at hce; obtain ⟨rfl, rfl, j2, hr, hrd2, hw2, ht2⟩ := hce; have J2 := Aside0.mk (HJ.out.take hrd2 hg2); have J2a := Aside0.mk (J2.out.new (World.grownBy_alloc _ (.cells #[.int .i64 c.on, .slice Aw nw cw, .slice At nt ct] 40) none)); have HP := Aside0.mk (k40_mkM (w2.alloc (.cells #[.int .i64 c.on, .slice Aw nw cw, .slice At nt ct] 40)) w.heap.size (fun k => wr.heap.size ≤ k) (toS c) (Kd.R_lower (Kd.R_alloc (Kd.R_mono (Kd.R_bound hw2) (fun k hk => hk.2.1)) _) HJ.out.bel.size) (Kd.R_lower (Kd.R_alloc (Kd.R_mono (Kd.R_bound ht2) (fun k hk => hk.2.1)) _) HJ.out.bel.size)); have HS := Aside0.mk (Kd.S_alloc (S_grown_ty (Kd.S_mono (Kd.S_bound HJ.out.out) (ok' := fun k => True ∧ ¬ (wr.heap.size ≤ k)) (fun k hk => ⟨trivial, Nat.not_le_of_lt hk.2.2.1⟩)) hg2 HJ.out.rd.ty (by decide)) (.cells #[.int .i64 c.on, .slice Aw nw cw, .slice At nt ct] 40)); have HW2 := Aside0.mk (HREST.out j2 hr hrd2.1); have HR2 := Aside0.mk hr; clear hr hrd2 hw2 ht2 hg2) | ((with_reducible refine gate_builtin (b := .append) (xs := #[.tmp 36, .tmp 38]) rfl ?_); at_builtin; refine Kd.S_append k40 (w0 := w) w.heap.size rfl (.tmp 36) (.tmp 38) 23 40 (.agg #[.int .i64 0, .slice none 0 0, .slice none 0 0]) 56 rfl Tryd.underlying23 infoC rfl (by decide) (by omega) (.slice Ao outs.length co) (outs.map toS) (toS c) [.int .i64 c.on, .slice Aw nw cw, .slice At nt ct] (fun _ => True) (fun k => wr.heap.size ≤ k) rfl (by first | (go_simp; done) | (go_simp; rfl)) HP.out (fun k hk => ⟨trivial, fun e => Nat.not_le_of_lt (Kd.S_lt HJ.out.out k e.symm) hk⟩) (fun _ _ => trivial) HS.out J2a.out.bel J2a.out.bel.size (by have := HOL.out; have := HNN.out; rw [List.length_map]; omega) ?_; intro v1 w5 ho hb hg5 hat; obtain ⟨A1, n1, q1, ev⟩ := R_is (Kd.S_R ho); subst ev; rw [show outs.map toS ++ [toS c] = (outs ++ [c]).map toS by simp] at ho; have J5 := Aside0.mk (J2a.out.app hg5 ho); obtain ⟨A5, c5, hc5⟩ := J5.out.rd.cell; rw [show toks.length - j2 = toks.length - j2 - 1 + 1 by have := (HD.out j2 HR2.out).1; omega] at hc5; obtain ⟨n5, hn5⟩ : ∃ n5, toks.length - j2 - 1 = n5 := ⟨_, rfl⟩; rw [hn5] at hc5; clear hn5; have hz5 : (((n5 + 1 : Nat) : Int) == 0) = false := beq_eq_false_iff_ne.2 (by omega); clear ho hb hg5 hat) | (go_at_call 21; refine (HTK.out j2 _ HR2.out (HD.out j2 HR2.out).1 J5.out.rd (J5.out.tok HPOS.out)).mono ?_; rintro e6 w6 ⟨rfl, hr6, hg6⟩; have J6 := Aside0.mk (J5.out.take hr6 hg6); obtain ⟨A6, c6, hc6⟩ := J6.out.rd.cell; rw [show toks.length - (j2 + 1) = toks.length - (j2 + 1) - 1 + 1 by have := (HD.out j2 HR2.out).1; have := mt (HD.out j2 HR2.out).2.2.2 HM0.out; omega] at hc6; obtain ⟨n6, hn6⟩ : ∃ n6, toks.length - (j2 + 1) - 1 = n6 := ⟨_, rfl⟩; rw [hn6] at hc6; clear hn6; have hz6 : ((n6 : Int) + 1 == 0) = false := beq_eq_false_iff_ne.2 (by omega); clear hr6 hg6))
                go_roundg (gk - 1)
                case measure => have := HW2.out.1; have := (HD.out j2 HR2.out).1; omega
                case rel => exact ⟨j2 + 1, (k : Int), outs ++ [c], by first | rfl | go_num, by have := (HD.out j2 HR2.out).1; omega, by have := HW2.out.1; have := (HD.out j2 HR2.out).1; omega, ⟨by have := HOL.out; have := HW2.out.1; simp; omega⟩, J6, ⟨by have h1 := HMORE.out k x m rfl; rw [if_neg (fun h => HM0.out h.2)] at h1; rw [h1, (HD.out j2 HR2.out).2.1]; try rfl⟩⟩
      · have hj' : j = toks.length := by omega
        subst hj'
        rw [Nat.sub_self] at hc0
        have HRN := Aside0.mk (show resL (some outs) = (r1, r2) by rw [← HRES.out, ← HR.out, List.drop_length, lineS_nil])
        go_wp2
        go_ret2
        obtain ⟨rfl, rfl⟩ := Prod.mk.inj HRN.out
        exact ⟨_, rfl, HJ.out.out, HJ.out.bel⟩
end Go.Proofs.YtogbdjboblfokaaDoor.X
/- parse.Right as a plain function, with its contract; condition: fewer than 1000000000 commands, and ways of each. -/
namespace Go.Proofs.YtogbdjboblfokaaDoor.X
open Go.RowKit Go.Proofs.YtogbdjboblfokaaDoorW.PrintWords Go.Proofs.YtogbdjboblfokaaDoorW.PrintLast Go.Proofs.YtogbdjboblfokaaDoorW.PrintMore Go.Proofs.YtogbdjboblfokaaDoor.XW05 Go.Proofs.YtogbdjboblfokaaDoor.XT06
set_option linter.unusedSimpArgs false
set_option linter.unusedVariables false

theorem add_none (b o j : Nat) : (⟨b, o, none⟩ : Addr).add j = ⟨b, o + j, none⟩ := by unfold Addr.add; split <;> simp_all
/-- A row that is read: where it lies, and each element's cells. -/
theorem C_form {α : Type} {d : Kd α} {w : World} {A : Option Addr} {n : Nat} {xs : List α} (h : d.C w A n xs) (hn : 0 < n) (hs : 0 < d.sz) :
    ∃ b o, A = some ⟨b, o, none⟩ ∧ b < w.heap.size ∧ ∀ (j : Nat) (hj : j < xs.length), ∃ c, c.length = d.sz ∧ d.K w xs[j] c ∧ ∀ i u, c[i]? = some u → w.cell? ⟨b, o + (j * d.sz + i), none⟩ = some u := by
  obtain ⟨h1, h2, h3⟩ := h
  obtain ⟨⟨b, o, s⟩, rfl, hc⟩ := h3 hn
  obtain ⟨c0, hc0, hk0, hcc0⟩ := hc 0 xs[0] (List.getElem?_eq_getElem (by omega))
  have h0 := hcc0 0 c0[0] (List.getElem?_eq_getElem (by omega))
  have hsn : s = none := by
    cases s with
    | none => rfl
    | some s => simp [Addr.add, World.cell?] at h0; split at h0 <;> simp at h0
  subst hsn
  rw [add_none] at h0
  refine ⟨b, o, rfl, World.block_lt_of_cell? w _ h0, ?_⟩
  intro j hj
  obtain ⟨c, hcl, hk, hcc⟩ := hc j xs[j] (List.getElem?_eq_getElem hj)
  refine ⟨c, hcl, hk, fun i u hi => ?_⟩
  have := hcc i u hi
  rw [add_none] at this
  exact this
theorem toRow {w : World} {A : Option Addr} {n : Nat} {xs : List S42} (h : Kd.C k42 w A n xs) (hn : 0 < n) :
    ∃ b o, A = some ⟨b, o, none⟩ ∧ b < w.heap.size ∧ ∀ (j : Nat) (hj : j < xs.length), w.cell? ⟨b, o + j * 2, none⟩ = some (.int .i64 xs[j].f0) ∧ w.cell? ⟨b, o + j * 2 + 1, none⟩ = some (.string xs[j].f1) := by
  obtain ⟨b, o, rfl, hb, hc⟩ := C_form h hn (show 0 < k42.sz by decide)
  refine ⟨b, o, rfl, hb, fun j hj => ?_⟩
  obtain ⟨c, hcl, hk, hcc⟩ := hc j hj
  obtain rfl := k42_open hk
  exact ⟨hcc 0 _ rfl, hcc 1 _ rfl⟩
theorem cmdRow {w : World} {A : Option Addr} {n : Nat} {xs : List S40} (h : Kd.C k40 w A n xs) (hn : 0 < n) :
    ∃ b o, A = some ⟨b, o, none⟩ ∧ b < w.heap.size ∧ ∀ (j : Nat) (hj : j < xs.length), ∃ A1 c1 A2 c2, w.cell? ⟨b, o + j * 3, none⟩ = some (.int .i64 xs[j].f0) ∧ w.cell? ⟨b, o + j * 3 + 1, none⟩ = some (.slice A1 xs[j].f1.length c1) ∧ w.cell? ⟨b, o + j * 3 + 2, none⟩ = some (.slice A2 xs[j].f2.length c2) ∧
      xs[j].f1.length ≤ c1 ∧ Kd.string.C w A1 xs[j].f1.length xs[j].f1 ∧ xs[j].f2.length ≤ c2 ∧ Kd.C k42 w A2 xs[j].f2.length xs[j].f2 := by
  obtain ⟨b, o, rfl, hb, hc⟩ := C_form h hn (show 0 < k40.sz by decide)
  refine ⟨b, o, rfl, hb, fun j hj => ?_⟩
  obtain ⟨c, hcl, hk, hcc⟩ := hc j hj
  obtain ⟨A1, c1, A2, c2, rfl, l1, g1, l2, g2⟩ := k40_open hk
  exact ⟨A1, c1, A2, c2, hcc 0 _ rfl, hcc 1 _ rfl, hcc 2 _ rfl, l1, g1, l2, g2⟩

def oddT (t : S42) : Bool := t.f0 != 4 && t.f0 != 5 && t.f0 != 6
def oddC (c : S40) : Bool := c.f2.any oddT || c.f1.length == 0 || (c.f0 != 1 && c.f0 != 2 && c.f0 != 3)
set_option maxRecDepth 100000 in
set_option maxHeartbeats 1000000 in
theorem lit2_calls (t : S42) (w : World) : Calls Tryd.prog 31 #[.agg #[.int .i64 t.f0, .string t.f1]] w fun e w' => e = .returned (.bool (oddT t)) ∧ Below w.heap.size w w' := by
  obtain ⟨a, s⟩ := t
  have hb : Below w.heap.size w (w.alloc (.cells #[.int .i64 a, .string s] 42)) := below_alloc (Below.refl _ _) _
  have hbn := blk_new w (.cells #[.int .i64 a, .string s] 42 (0, 0))
  have c0 : (w.alloc (.cells #[.int .i64 a, .string s] 42)).cell? ⟨w.heap.size, 0, none⟩ = some (.int .i64 a) := blk_cell hbn 0
  have HB := Aside0.mk hb
  clear hb hbn
  by_cases h4 : a = 4
  · subst h4
    go_enter Tryd.func31, Tryd.ntmps31
    go_wp2
    go_ret
    exact ⟨rfl, HB.out⟩
  · by_cases h5 : a = 5
    · subst h5
      go_enter Tryd.func31, Tryd.ntmps31
      go_wp2
      go_ret
      exact ⟨rfl, HB.out⟩
    · by_cases h6 : a = 6
      · subst h6
        go_enter Tryd.func31, Tryd.ntmps31
        go_wp2
        go_ret
        exact ⟨rfl, HB.out⟩
      · have e4 : (a != 4) = true := by simpa using h4
        have e5 : (a != 5) = true := by simpa using h5
        have e6 : (a != 6) = true := by simpa using h6
        have HO := Aside0.mk (show oddT ⟨a, s⟩ = true by simp [oddT, h4, h5, h6])
        go_enter Tryd.func31, Tryd.ntmps31
        go_wp2
        go_ret
        exact ⟨by rw [HO.out]; rfl, HB.out⟩
set_option maxRecDepth 100000 in
set_option maxHeartbeats 2000000 in
theorem indexT_calls (A : Option Addr) (c : Nat) (zs : List S42) (w : World) (hC : Kd.C k42 w A zs.length zs) (hl : zs.length < 1000000000) :
    Calls Tryd.prog 52 #[.slice A zs.length c, .func (.func 31) #[] #[]] w fun e w' => ∃ r : Int, e = .returned (.int .i64 r) ∧ decide (r ≥ 0) = zs.any oddT ∧ Below w.heap.size w w' := by
  have HC := Aside0.mk hC
  clear hC
  go_enter Tryd.func52, Tryd.ntmps52
  go_wp2
  go_loopg [5, 8] zs.length (fun g v5 v8 wr => ∃ kk : Nat, kk ≤ zs.length ∧ zs.length - kk ≤ g ∧ v8 = .int .i64 kk ∧ Aside0 (Below w.heap.size w wr) ∧ Aside0 ((zs.take kk).any oddT = false))
  case atStart => exact ⟨0, Nat.zero_le _, by omega, rfl, ⟨Below.refl _ _⟩, ⟨by simp⟩⟩
  case round =>
    obtain ⟨kk, hkk, hg, rfl, HB, HA⟩ := hrel
    by_cases hlt : kk < zs.length
    · obtain ⟨b, o, rfl, hb, hcc⟩ := toRow (Kd.C_below HC.out HB.out) (by omega)
      obtain ⟨c0, c1⟩ := hcc kk hlt
      obtain ⟨z, hz⟩ : ∃ z, zs[kk] = z := ⟨_, rfl⟩
      rw [hz] at c0 c1
      have HZ := Aside0.mk hz
      clear hcc hz
      cases hq : oddT z with
      | true =>
        have HQ := Aside0.mk hq
        clear hq
        go_wp2_with (go_at_call 31; refine (lit2_calls z _).mono ?_; rintro e1 w1 ⟨rfl, hb1⟩; rw [HQ.out]; have hb2 := below_step HB.out hb1)
        go_ret
        refine ⟨_, rfl, ?_, hb2⟩
        have : zs.any oddT = true := List.any_eq_true.2 ⟨z, by rw [← HZ.out]; exact List.getElem_mem _, HQ.out⟩
        rw [this]
        exact decide_eq_true (by omega)
      | false =>
        have HQ := Aside0.mk hq
        clear hq
        go_wp2_with (go_at_call 31; refine (lit2_calls z _).mono ?_; rintro e1 w1 ⟨rfl, hb1⟩; rw [HQ.out]; have HB2 := Aside0.mk (below_step HB.out hb1))
        go_roundg (gk - 1)
        case measure => omega
        case rel => exact ⟨kk + 1, by omega, by omega, by go_num, HB2, ⟨by rw [List.take_succ_eq_append_getElem hlt, List.any_append, HA.out, HZ.out]; simp [HQ.out]⟩⟩
    · have : kk = zs.length := by omega
      subst this
      go_wp2
      go_ret
      refine ⟨_, rfl, ?_, HB.out⟩
      have := HA.out
      rw [List.take_length] at this
      rw [this]
      rfl
set_option maxRecDepth 100000 in
theorem containsT_calls (A : Option Addr) (c : Nat) (zs : List S42) (w : World) (hC : Kd.C k42 w A zs.length zs) (hl : zs.length < 1000000000) :
    Calls Tryd.prog 30 #[.slice A zs.length c, .func (.func 31) #[] #[]] w fun e w' => e = .returned (.bool (zs.any oddT)) ∧ Below w.heap.size w w' := by
  have HC := Aside0.mk hC
  clear hC
  go_enter Tryd.func30, Tryd.ntmps30
  go_wp2_with (go_at_call 52; refine (indexT_calls A c zs _ HC.out hl).mono ?_; rintro e1 w1 ⟨r, rfl, hr, hb1⟩)
  go_ret
  exact ⟨by rw [← hr]; rfl, hb1⟩
set_option maxRecDepth 100000 in
set_option maxHeartbeats 2000000 in
theorem lit1_calls (x : S40) (A1 A2 : Option Addr) (c1 c2 : Nat) (w : World) (h2 : Kd.C k42 w A2 x.f2.length x.f2) (hl : x.f2.length < 1000000000) :
    Calls Tryd.prog 29 #[.agg #[.int .i64 x.f0, .slice A1 x.f1.length c1, .slice A2 x.f2.length c2]] w fun e w' => e = .returned (.bool (oddC x)) ∧ Below w.heap.size w w' := by
  obtain ⟨a, ws, ts⟩ := x
  simp only at h2 hl ⊢
  have hbn := blk_new w (.cells #[.int .i64 a, .slice A1 ws.length c1, .slice A2 ts.length c2] 40 (0, 0))
  have HB := Aside0.mk (show Below w.heap.size w (w.alloc (.cells #[.int .i64 a, .slice A1 ws.length c1, .slice A2 ts.length c2] 40)) from below_alloc (Below.refl _ _) _)
  have c2c : (w.alloc (.cells #[.int .i64 a, .slice A1 ws.length c1, .slice A2 ts.length c2] 40)).cell? ⟨w.heap.size, 2, none⟩ = some (.slice A2 ts.length c2) := blk_cell hbn 2
  have HC := Aside0.mk (Kd.C_below h2 (below_alloc (Below.refl _ _) (.cells #[.int .i64 a, .slice A1 ws.length c1, .slice A2 ts.length c2] 40)))
  have HN := Aside0.mk hbn
  obtain ⟨n, hn⟩ : ∃ n, ws.length = n := ⟨_, rfl⟩
  have HO := Aside0.mk (show oddC ⟨a, ws, ts⟩ = (ts.any oddT || n == 0 || (a != 1 && a != 2 && a != 3)) by rw [← hn]; rfl)
  rw [hn] at HB HC HN c2c ⊢
  clear hbn h2 hn
  cases ho : ts.any oddT with
  | true =>
    rw [ho] at HO
    have HOO := Aside0.mk ho
    clear ho
    go_enter Tryd.func29, Tryd.ntmps29
    go_wp2_with (go_at_call 30; refine (containsT_calls A2 c2 ts _ HC.out hl).mono ?_; rintro e1 w1 ⟨rfl, hb1⟩; rw [HOO.out]; have HB1 := Aside0.mk (below_step HB.out hb1))
    go_ret
    exact ⟨by rw [HO.out]; rfl, HB1.out⟩
  | false =>
    rw [ho] at HO
    have HOO := Aside0.mk ho
    clear ho
    by_cases hn0 : n = 0
    · subst hn0
      go_enter Tryd.func29, Tryd.ntmps29
      go_wp2_with (go_at_call 30; refine (containsT_calls A2 c2 ts _ HC.out hl).mono ?_; rintro e1 w1 ⟨rfl, hb1⟩; rw [HOO.out]; have HB1 := Aside0.mk (below_step HB.out hb1); have bk := blk_below HN.out hb1; have d0 := blk_cell bk 0; have d1 := blk_cell bk 1; clear hb1 bk)
      go_ret
      exact ⟨by rw [HO.out]; rfl, HB1.out⟩
    · have hnz : ((n : Int) == 0) = false := by simpa using hn0
      have hnz2 : (n == 0) = false := by simpa using hn0
      have HO2 := Aside0.mk (show oddC ⟨a, ws, ts⟩ = (a != 1 && a != 2 && a != 3) by rw [HO.out, hnz2]; simp)
      clear hnz2
      by_cases ha1 : a = 1
      · subst ha1
        go_enter Tryd.func29, Tryd.ntmps29
        go_wp2_with (go_at_call 30; refine (containsT_calls A2 c2 ts _ HC.out hl).mono ?_; rintro e1 w1 ⟨rfl, hb1⟩; rw [HOO.out]; have HB1 := Aside0.mk (below_step HB.out hb1); have bk := blk_below HN.out hb1; have d0 := blk_cell bk 0; have d1 := blk_cell bk 1; clear hb1 bk)
        go_ret
        exact ⟨by rw [HO2.out]; rfl, HB1.out⟩
      · by_cases ha2 : a = 2
        · subst ha2
          go_enter Tryd.func29, Tryd.ntmps29
          go_wp2_with (go_at_call 30; refine (containsT_calls A2 c2 ts _ HC.out hl).mono ?_; rintro e1 w1 ⟨rfl, hb1⟩; rw [HOO.out]; have HB1 := Aside0.mk (below_step HB.out hb1); have bk := blk_below HN.out hb1; have d0 := blk_cell bk 0; have d1 := blk_cell bk 1; clear hb1 bk)
          go_ret
          exact ⟨by rw [HO2.out]; rfl, HB1.out⟩
        · by_cases ha3 : a = 3
          · subst ha3
            go_enter Tryd.func29, Tryd.ntmps29
            go_wp2_with (go_at_call 30; refine (containsT_calls A2 c2 ts _ HC.out hl).mono ?_; rintro e1 w1 ⟨rfl, hb1⟩; rw [HOO.out]; have HB1 := Aside0.mk (below_step HB.out hb1); have bk := blk_below HN.out hb1; have d0 := blk_cell bk 0; have d1 := blk_cell bk 1; clear hb1 bk)
            go_ret
            exact ⟨by rw [HO2.out]; rfl, HB1.out⟩
          · have e1 : (a != 1) = true := by simpa using ha1
            have e2 : (a != 2) = true := by simpa using ha2
            have e3 : (a != 3) = true := by simpa using ha3
            have HO3 := Aside0.mk (show oddC ⟨a, ws, ts⟩ = true by rw [HO2.out, e1, e2, e3]; rfl)
            go_enter Tryd.func29, Tryd.ntmps29
            go_wp2_with (go_at_call 30; refine (containsT_calls A2 c2 ts _ HC.out hl).mono ?_; rintro e1 w1 ⟨rfl, hb1⟩; rw [HOO.out]; have HB1 := Aside0.mk (below_step HB.out hb1); have bk := blk_below HN.out hb1; have d0 := blk_cell bk 0; have d1 := blk_cell bk 1; clear hb1 bk)
            go_ret
            exact ⟨by rw [HO3.out]; rfl, HB1.out⟩
set_option maxRecDepth 100000 in
set_option maxHeartbeats 2000000 in
theorem indexC_calls (A : Option Addr) (c : Nat) (zs : List S40) (w : World) (hC : Kd.C k40 w A zs.length zs) (hl : zs.length < 1000000000) (hls : ∀ z ∈ zs, z.f2.length < 1000000000) :
    Calls Tryd.prog 51 #[.slice A zs.length c, .func (.func 29) #[] #[]] w fun e w' => ∃ r : Int, e = .returned (.int .i64 r) ∧ decide (r ≥ 0) = zs.any oddC ∧ Below w.heap.size w w' := by
  have HC := Aside0.mk hC
  have HLS := Aside0.mk hls
  clear hC hls
  go_enter Tryd.func51, Tryd.ntmps51
  go_wp2
  go_loopg [5, 8] zs.length (fun g v5 v8 wr => ∃ kk : Nat, kk ≤ zs.length ∧ zs.length - kk ≤ g ∧ v8 = .int .i64 kk ∧ Aside0 (Below w.heap.size w wr) ∧ Aside0 ((zs.take kk).any oddC = false))
  case atStart => exact ⟨0, Nat.zero_le _, by omega, rfl, ⟨Below.refl _ _⟩, ⟨by simp⟩⟩
  case round =>
    obtain ⟨kk, hkk, hg, rfl, HB, HA⟩ := hrel
    by_cases hlt : kk < zs.length
    · obtain ⟨b, o, rfl, hb, hcc⟩ := cmdRow (Kd.C_below HC.out HB.out) (by omega)
      obtain ⟨A1, c1, A2, c2, d0, d1, d2, l1, g1, l2, g2⟩ := hcc kk hlt
      obtain ⟨z, hz⟩ : ∃ z, zs[kk] = z := ⟨_, rfl⟩
      rw [hz] at d0 d1 d2 l1 g1 l2 g2
      have HZ := Aside0.mk hz
      have HG2 := Aside0.mk g2
      have HLZ := Aside0.mk (show z.f2.length < 1000000000 from HLS.out z (by rw [← hz]; exact List.getElem_mem _))
      clear hcc hz g1 g2
      cases hq : oddC z with
      | true =>
        have HQ := Aside0.mk hq
        clear hq
        go_wp2_with (go_at_call 29; refine (lit1_calls z A1 A2 c1 c2 _ HG2.out HLZ.out).mono ?_; rintro e1 w1 ⟨rfl, hb1⟩; rw [HQ.out]; have hb2 := below_step HB.out hb1)
        go_ret
        refine ⟨_, rfl, ?_, hb2⟩
        have : zs.any oddC = true := List.any_eq_true.2 ⟨z, by rw [← HZ.out]; exact List.getElem_mem _, HQ.out⟩
        rw [this]
        exact decide_eq_true (by omega)
      | false =>
        have HQ := Aside0.mk hq
        clear hq
        go_wp2_with (go_at_call 29; refine (lit1_calls z A1 A2 c1 c2 _ HG2.out HLZ.out).mono ?_; rintro e1 w1 ⟨rfl, hb1⟩; rw [HQ.out]; have HB2 := Aside0.mk (below_step HB.out hb1))
        go_roundg (gk - 1)
        case measure => omega
        case rel => exact ⟨kk + 1, by omega, by omega, by go_num, HB2, ⟨by rw [List.take_succ_eq_append_getElem hlt, List.any_append, HA.out, HZ.out]; simp [HQ.out]⟩⟩
    · have : kk = zs.length := by omega
      subst this
      go_wp2
      go_ret
      refine ⟨_, rfl, ?_, HB.out⟩
      have := HA.out
      rw [List.take_length] at this
      rw [this]
      rfl
set_option maxRecDepth 100000 in
theorem containsC_calls (A : Option Addr) (c : Nat) (zs : List S40) (w : World) (hC : Kd.C k40 w A zs.length zs) (hl : zs.length < 1000000000) (hls : ∀ z ∈ zs, z.f2.length < 1000000000) :
    Calls Tryd.prog 28 #[.slice A zs.length c, .func (.func 29) #[] #[]] w fun e w' => e = .returned (.bool (zs.any oddC)) ∧ Below w.heap.size w w' := by
  have HC := Aside0.mk hC
  have HLS := Aside0.mk hls
  clear hC hls
  go_enter Tryd.func28, Tryd.ntmps28
  go_wp2_with (go_at_call 51; refine (indexC_calls A c zs _ HC.out hl HLS.out).mono ?_; rintro e1 w1 ⟨r, rfl, hr, hb1⟩)
  go_ret
  exact ⟨by rw [← hr]; rfl, hb1⟩
def rightU (zs : List S40) : Bool := !zs.any oddC && (match zs with | [] => true | z :: _ => z.f0 == 1)
def parse_Right.f (zs : List S40) : Option Bool := if zs.length < 1000000000 ∧ (∀ z ∈ zs, z.f2.length < 1000000000) then some (rightU zs) else none
set_option maxRecDepth 100000 in
set_option maxHeartbeats 2000000 in
theorem parse_Right.calls (A0 : Option Addr) (c0 : Nat) (l0 : List S40) (r : Bool) (w : World) (hr0 : Kd.C k40 w A0 l0.length l0) (hc0 : l0.length ≤ c0) (h : parse_Right.f l0 = some r) :
    Calls Tryd.prog 12 #[.slice A0 l0.length c0] w fun e w' => e = .returned (.bool r) ∧ Below w.heap.size w w' := by
  unfold parse_Right.f at h
  by_cases hsz : l0.length < 1000000000 ∧ (∀ z ∈ l0, z.f2.length < 1000000000)
  case neg => rw [if_neg hsz] at h; exact absurd h (by simp)
  rw [if_pos hsz] at h
  obtain rfl := Option.some.inj h
  obtain ⟨hl, hls⟩ := hsz
  have HC := Aside0.mk hr0
  have HLS := Aside0.mk hls
  clear hr0 hls h
  cases hq : l0.any oddC with
  | true =>
    have HQ := Aside0.mk hq
    have HR := Aside0.mk (show rightU l0 = false by simp [rightU, hq])
    clear hq
    go_enter Tryd.func12, Tryd.ntmps12
    go_wp2_with (go_at_call 28; refine (containsC_calls A0 c0 l0 _ HC.out hl HLS.out).mono ?_; rintro e1 w1 ⟨rfl, hb1⟩; rw [HQ.out])
    go_ret
    exact ⟨by rw [HR.out]; rfl, hb1⟩
  | false =>
    have HQ := Aside0.mk hq
    cases l0 with
    | nil =>
      go_enter Tryd.func12, Tryd.ntmps12
      go_wp2_with (go_at_call 28; refine (containsC_calls A0 c0 [] _ HC.out hl HLS.out).mono ?_; rintro e1 w1 ⟨rfl, hb1⟩; rw [HQ.out])
      go_ret
      exact ⟨rfl, hb1⟩
    | cons z zs =>
      obtain ⟨b, o, rfl, hb, hcc⟩ := cmdRow HC.out (by simp)
      obtain ⟨A1, c1, A2, c2, d0, _⟩ := hcc 0 (by simp)
      rw [Nat.zero_mul, Nat.add_zero] at d0
      simp only [List.getElem_cons_zero] at d0
      have D0 := Aside0.mk d0
      have HR := Aside0.mk (show rightU (z :: zs) = (z.f0 == 1) by simp [rightU, hq])
      have hnz : (((z :: zs).length : Int) == 0) = false := by simp; omega
      clear hq hcc d0
      go_enter Tryd.func12, Tryd.ntmps12
      go_wp2_with (go_at_call 28; refine (containsC_calls _ c0 (z :: zs) _ HC.out hl HLS.out).mono ?_; rintro e1 w1 ⟨rfl, hb1⟩; rw [HQ.out]; have d0 := (hb1.cell (World.block_lt_of_cell? w _ D0.out)).trans D0.out)
      go_ret
      exact ⟨by rw [HR.out]; rfl, hb1⟩
end Go.Proofs.YtogbdjboblfokaaDoor.X
/- flatironlaw06.Of: commands, as the document has them, as a contract; condition: fewer than 1000000000 commands, and ways of each. -/
namespace Go.Proofs.YtogbdjboblfokaaDoor.X
open Go.RowKit Go.Proofs.YtogbdjboblfokaaDoorW.PrintWords Go.Proofs.YtogbdjboblfokaaDoorW.PrintLast Go.Proofs.YtogbdjboblfokaaDoorW.PrintMore Go.Proofs.YtogbdjboblfokaaDoor.XW05 Go.Proofs.YtogbdjboblfokaaDoor.XT06
set_option linter.unusedSimpArgs false
set_option linter.unusedVariables false

def cT (t : S42) : S77 := ⟨t.f0, t.f1⟩
def cC (x : S40) : S73 := ⟨x.f0, x.f1, x.f2.map cT⟩
/-- A slice that is no row of the call's own: its three words alone. -/
def slEnc (x : Option Addr × Nat × Nat) : Value := .slice x.1 x.2.1 x.2.2
def kSl : Kd (Option Addr × Nat × Nat) := Kd.scalar slEnc (fun _ => rfl)
def kRC : Kd (Int × (Option Addr × Nat × Nat) × List S77) := Kd.pair (Kd.int .i64) (Kd.pair kSl (Kd.slice 77 k77))
abbrev RCg := Int × (Option Addr × Nat × Nat) × List S77
theorem kRC_mkM (w : World) (base : Nat) (ok : Nat → Prop) (a : Int) (A : Option Addr) (n c : Nat) (ts : List S77) {v : Value} (h : Kd.R k77 77 w base ok v ts) : kRC.M w base ok (a, (A, n, c), ts) [.int .i64 a, .slice A n c, v] :=
  ⟨[.int .i64 a], [.slice A n c, v], rfl, rfl, ⟨[.slice A n c], [v], rfl, rfl, ⟨v, rfl, h⟩⟩⟩
def relC (w : World) (x : S40) (g : RCg) : Prop := g.1 = x.f0 ∧ g.2.1.2.1 = x.f1.length ∧ x.f1.length ≤ g.2.1.2.2 ∧ Kd.string.C w g.2.1.1 x.f1.length x.f1 ∧ g.2.2 = x.f2.map cT
def allC (w : World) (xs : List S40) (gs : List RCg) : Prop := gs.length = xs.length ∧ ∀ j (h1 : j < xs.length) (h2 : j < gs.length), relC w xs[j] gs[j]
theorem allC_snoc {w : World} {xs : List S40} {gs : List RCg} {x : S40} {g : RCg} (h : allC w xs gs) (hx : relC w x g) : allC w (xs ++ [x]) (gs ++ [g]) := by
  refine ⟨by simp [h.1], fun j h1 h2 => ?_⟩
  by_cases hj : j < xs.length
  · rw [List.getElem_append_left hj, List.getElem_append_left (by rw [h.1]; exact hj)]
    exact h.2 j hj _
  · have e : j = xs.length := by simp at h1; omega
    subst e
    rw [List.getElem_append_right (by omega), List.getElem_append_right (by rw [h.1]; omega)]
    simpa [h.1] using hx
theorem C_conv {w W : World} {A : Option Addr} {n : Nat} {L : List S40} {gs : List RCg} (h : Kd.C kRC W A n gs) (hr : allC w L gs) (hb : Below w.heap.size w W) : Kd.C k73 W A n (L.map cC) := by
  obtain ⟨h1, h2, h3⟩ := h
  refine ⟨by rw [List.length_map, ← hr.1]; exact h1, h2, fun hn => ?_⟩
  obtain ⟨ad, e, hc⟩ := h3 hn
  refine ⟨ad, e, fun j p hj => ?_⟩
  obtain ⟨hj1, hj2⟩ := List.getElem?_eq_some_iff.1 hj
  rw [List.length_map] at hj1
  have hj3 : j < gs.length := by rw [hr.1]; exact hj1
  obtain ⟨c, hcl, hk, hcc⟩ := hc j gs[j] (List.getElem?_eq_getElem hj3)
  refine ⟨c, hcl, ?_, hcc⟩
  obtain ⟨r1, r2, r3, r4, r5⟩ := hr.2 j hj1 hj3
  rw [List.getElem_map] at hj2
  subst hj2
  obtain ⟨_, _, rfl, rfl, ⟨_, _, rfl, rfl, ⟨A2, c2, rfl, l2, g2⟩⟩⟩ := hk
  have e1 : kSl = Kd.scalar slEnc (fun _ => rfl) := rfl
  rw [r1, r5] at *
  have hs : slEnc gs[j].2.1 = .slice gs[j].2.1.1 L[j].f1.length gs[j].2.1.2.2 := by rw [← r2]; rfl
  rw [hs]
  exact k73_mk W (cC L[j]) r3 (Kd.C_below r4 hb) l2 g2
/-- What holds between the rounds of the inner loop. -/
structure OI (w : World) (N0 : Nat) (a : Int) (A1 : Option Addr) (n1 c1 : Nat) (vo : Value) (gs : List RCg) (vt : Value) (ts : List S77) (W : World) : Prop where
  box : W.heap[N0 + 1]? = some (.cells #[.int .i64 a, .slice A1 n1 c1, vt] 73 (0, 0))
  row : Kd.R k77 77 W N0 (fun _ => True) vt ts
  out : Kd.R kRC 73 W w.heap.size (fun k => k < N0) vo gs
  bel : Below w.heap.size w W
  le : w.heap.size ≤ N0
section
variable {w W W1 : World} {N0 n1 c1 : Nat} {a : Int} {A1 : Option Addr} {vo vt : Value} {gs : List RCg} {ts : List S77}
theorem OI.lt (h : OI w N0 a A1 n1 c1 vo gs vt ts W) : N0 + 1 < W.heap.size := blk_lt h.box
theorem OI.new (h : OI w N0 a A1 n1 c1 vo gs vt ts W) (hb : Below W.heap.size W W1) : OI w N0 a A1 n1 c1 vo gs vt ts W1 :=
  ⟨blk_below h.box hb, Kd.R_below h.row hb, Kd.R_below h.out hb, below_step h.bel hb, h.le⟩
theorem OI.app (h : OI w N0 a A1 n1 c1 vo gs vt ts W) {v1 : Value} {ts1 : List S77} (hg : W.grownBy W1 vt.ownBlock) (ho : Kd.R k77 77 W1 N0 (fun _ => True) v1 ts1) :
    OI w N0 a A1 n1 c1 vo gs v1 ts1 (W1.setCell ⟨N0 + 1, 2, none⟩ v1) := by
  have hbx := blk_grown_ty h.box hg (R_row_ty h.row) (by decide)
  have hs := World.grownBy_set W1 (N0 + 1) 2 v1
  have hst : ∀ k, some (N0 + 1) = some k → ∃ cells, W1.heap[k]? = some (.cells cells 73 (0, 0)) := by
    intro k hk; injection hk with hk; subst hk; exact ⟨_, hbx⟩
  refine ⟨blk_put hbx 2 v1 rfl, R_grown_ty ho hs hst (by decide), ?_, ?_, h.le⟩
  · refine Kd.R_grown (Kd.R_grown h.out hg (fun k hk e => ?_)) hs (fun k hk e => ?_)
    · have := Kd.R_base h.row k e.symm; omega
    · injection e with e; omega
  · have h1 := h.bel.grown hg h.bel.size (fun k hk => Nat.le_trans h.le (Kd.R_base h.row k hk))
    exact h1.grown hs h1.size (fun k hk => by injection hk with hk; have := h.le; omega)
end
set_option maxRecDepth 100000 in
set_option maxHeartbeats 8000000 in
theorem of_calls (A : Option Addr) (c : Nat) (L : List S40) (w : World) (hC : Kd.C k40 w A L.length L) (hl : L.length < 1000000000) (hls : ∀ z ∈ L, z.f2.length < 1000000000) :
    Calls Tryd.prog 11 #[.slice A L.length c] w fun e w' => ∃ A' c', e = .returned (.slice A' L.length c') ∧ L.length ≤ c' ∧ Kd.C k73 w' A' L.length (L.map cC) ∧ Below w.heap.size w w' := by
  have infoC : (Tryd.prog.info? 73).map (fun i => (i.zero, i.size, i.bytes)) = some (some (.agg #[.int .i64 0, .slice none 0 0, .slice none 0 0]), 3, 56) := by kernel_rfl
  have infoT : (Tryd.prog.info? 77).map (fun i => (i.zero, i.size, i.bytes)) = some (some (.agg #[.int .i64 0, .string ⟨#[]⟩]), 2, 24) := by kernel_rfl
  have HC := Aside0.mk hC
  have HLS := Aside0.mk hls
  clear hC hls
  go_enter Tryd.func11, Tryd.ntmps11
  go_wp2
  go_loopg [3, 11] L.length (fun g v3 v11 wr => ∃ (wo : World) (i : Nat) (gs : List RCg), wo = wr ∧ i ≤ L.length ∧ L.length - i ≤ g ∧ v11 = .int .i64 (i : Int) ∧ Aside0 (Kd.R kRC 73 wr w.heap.size (fun _ => True) v3 gs) ∧ Aside0 (Below w.heap.size w wr) ∧ Aside0 (allC w (L.take i) gs))
  case atStart => exact ⟨_, 0, [], rfl, Nat.zero_le _, by omega, rfl, ⟨Kd.R_nil _ _ _ _ _⟩, ⟨Below.refl _ _⟩, ⟨⟨rfl, by simp⟩⟩⟩
  case round =>
    obtain ⟨wo, i, gs, rfl, hi, hg, rfl, HO, HB, HA⟩ := hrel
    obtain ⟨Ao, co, eo⟩ := Kd.R_slice HO.out
    have hgl : gs.length = i := by have := HA.out.1; rw [this]; simp; omega
    rw [hgl] at eo
    subst eo
    by_cases hlt : i < L.length
    · obtain ⟨b, o, rfl, hb, hcc⟩ := cmdRow HC.out (by omega)
      obtain ⟨A1, c1, A2, c2, d0, d1, d2, l1, g1, l2, g2⟩ := hcc i hlt
      obtain ⟨x, hx⟩ : ∃ x, L[i] = x := ⟨_, rfl⟩
      rw [hx] at d0 d1 d2 l1 g1 l2 g2
      have HX := Aside0.mk hx
      have d0 := (HB.out.cell (World.block_lt_of_cell? w _ d0)).trans d0
      have d1 := (HB.out.cell (World.block_lt_of_cell? w _ d1)).trans d1
      have d2 := (HB.out.cell (World.block_lt_of_cell? w _ d2)).trans d2
      have HG1 := Aside0.mk (And.intro l1 g1)
      have HG2 := Aside0.mk g2
      have HXL := Aside0.mk (show x.f2.length < 1000000000 from HLS.out x (by rw [← hx]; exact List.getElem_mem _))
      clear hcc hx l1 g1 l2 g2
      obtain ⟨go, hgo⟩ : ∃ x, gk = x := ⟨_, rfl⟩
      have b5 := blk_new wo (.cells #[.int .i64 x.f0, .slice A1 x.f1.length c1, .slice A2 x.f2.length c2] 40 (0, 0))
      have f0 : (wo.alloc (.cells #[.int .i64 x.f0, .slice A1 x.f1.length c1, .slice A2 x.f2.length c2] 40)).cell? ⟨wo.heap.size, 0, none⟩ = some (.int .i64 x.f0) := blk_cell b5 0
      have f1 : (wo.alloc (.cells #[.int .i64 x.f0, .slice A1 x.f1.length c1, .slice A2 x.f2.length c2] 40)).cell? ⟨wo.heap.size, 1, none⟩ = some (.slice A1 x.f1.length c1) := blk_cell b5 1
      have f2 : ((wo.alloc (.cells #[.int .i64 x.f0, .slice A1 x.f1.length c1, .slice A2 x.f2.length c2] 40)).alloc (.cells #[.int .i64 x.f0, .slice A1 x.f1.length c1, .slice none 0 0] 73)).cell? ⟨wo.heap.size, 2, none⟩ = some (.slice A2 x.f2.length c2) := blk_cell (blk_alloc b5 _) 2
      have b6 := blk_new (wo.alloc (.cells #[.int .i64 x.f0, .slice A1 x.f1.length c1, .slice A2 x.f2.length c2] 40)) (.cells #[.int .i64 x.f0, .slice A1 x.f1.length c1, .slice none 0 0] 73 (0, 0))
      rw [show (wo.alloc (.cells #[.int .i64 x.f0, .slice A1 x.f1.length c1, .slice A2 x.f2.length c2] 40)).heap.size = wo.heap.size + 1 by simp] at b6
      have hw6 : Below wo.heap.size wo ((wo.alloc (.cells #[.int .i64 x.f0, .slice A1 x.f1.length c1, .slice A2 x.f2.length c2] 40)).alloc (.cells #[.int .i64 x.f0, .slice A1 x.f1.length c1, .slice none 0 0] 73)) := below_alloc (below_alloc (Below.refl _ _) _) _
      have HJ0 := Aside0.mk (show OI w wo.heap.size x.f0 A1 x.f1.length c1 (.slice Ao i co) gs (.slice none 0 0) [] ((wo.alloc (.cells #[.int .i64 x.f0, .slice A1 x.f1.length c1, .slice A2 x.f2.length c2] 40)).alloc (.cells #[.int .i64 x.f0, .slice A1 x.f1.length c1, .slice none 0 0] 73)) from
        ⟨b6, Kd.R_nil _ _ _ _ _, Kd.R_below (Kd.R_mono (Kd.R_bound HO.out) (ok' := fun k => k < wo.heap.size) (fun k hk => hk.2.2.1)) hw6, below_step HB.out hw6, HB.out.size⟩)
      clear b5 b6 hw6 HO
      go_wp2
      go_loopg [23] x.f2.length (fun g v23 wi => ∃ (k : Nat) (ts : List S77) (vt : Value), k ≤ x.f2.length ∧ x.f2.length - k ≤ g ∧ v23 = .int .i64 (k : Int) ∧ Aside0 (OI w wo.heap.size x.f0 A1 x.f1.length c1 (.slice Ao i co) gs vt ts wi) ∧ Aside0 (ts = (x.f2.take k).map cT))
      case atStart => exact ⟨0, [], _, Nat.zero_le _, by omega, rfl, HJ0, ⟨by simp⟩⟩
      case round =>
        obtain ⟨k, ts, vt, hk, hgi, rfl, HJ, HT⟩ := hrel
        obtain ⟨At, ct, et⟩ := Kd.R_slice HJ.out.row
        have htl : ts.length = k := by rw [HT.out]; simp; omega
        rw [htl] at et
        subst et
        by_cases hlk : k < x.f2.length
        · obtain ⟨b2, o2, rfl, hb2, hcc2⟩ := toRow (Kd.C_below HG2.out HJ.out.bel) (by omega)
          obtain ⟨q0, q1⟩ := hcc2 k hlk
          obtain ⟨z, hz⟩ : ∃ z, x.f2[k] = z := ⟨_, rfl⟩
          rw [hz] at q0 q1
          have HZ := Aside0.mk hz
          have HJ8 := Aside0.mk (HJ.out.new (below_alloc (Below.refl _ _) (.cells #[.int .i64 z.f0, .string z.f1] 42)))
          have b8 := blk_new wr (.cells #[.int .i64 z.f0, .string z.f1] 42 (0, 0))
          have p0 := blk_cell b8 0
          have p1 := blk_cell b8 1
          have p2 : (wr.alloc (.cells #[.int .i64 z.f0, .string z.f1] 42)).cell? ⟨wo.heap.size + 1, 2, none⟩ = some (.slice At k ct) := blk_cell HJ8.out.box 2
          have htl' : ts.length < 1000000000 := by have := HXL.out; omega
          clear hcc2 hz b8
          go_wp2_with ((with_reducible refine gate_builtin (b := .append) (xs := #[.tmp 28, .tmp 34]) rfl ?_); at_builtin; refine Kd.R_append k77 (w0 := wr.alloc (.cells #[.int .i64 z.f0, .string z.f1] 42)) wo.heap.size rfl (.tmp 28) (.tmp 34) 71 77 (.agg #[.int .i64 0, .string ⟨#[]⟩]) 24 rfl Tryd.underlying71 infoT rfl (by decide) (by omega) (.slice At k ct) ts (⟨z.f0, z.f1⟩ : S77) [.int .i64 z.f0, .string z.f1] (fun _ => True) (fun _ => False) rfl (by first | (go_simp; done) | (go_simp; rfl)) (k77_mkM _ _ _ _) (fun _ hk => hk.elim) (fun _ _ => trivial) HJ8.out.row (Below.refl _ _) (by have := HJ8.out.lt; omega) (by have := HXL.out; rw [htl]; omega) ?_; intro v1 w5 ho hb hg5 hat; obtain ⟨Av, nv, cv, ev⟩ := R_is ho; subst ev; have J5 := Aside0.mk (HJ8.out.app hg5 ho); have hbx := blk_grown_ty HJ8.out.box hg5 (R_row_ty HJ8.out.row) (by decide); have s1 := blk_cell hbx 2; have s2 := blk_frozen hbx 2; clear ho hb hg5 hat hbx)
          go_roundg (gk - 1)
          case measure => omega
          case rel => exact ⟨k + 1, ts ++ [⟨z.f0, z.f1⟩], _, by omega, by omega, by go_num, J5, ⟨by rw [List.take_succ_eq_append_getElem hlk, List.map_append, ← HT.out, HZ.out]; rfl⟩⟩
        · have hk' : k = x.f2.length := by omega
          subst hk'
          have HTT := Aside0.mk (show ts = x.f2.map cT by rw [HT.out, List.take_length])
          have e0 := blk_cell HJ.out.box 0
          have e1 := blk_cell HJ.out.box 1
          have e2 := blk_cell HJ.out.box 2
          have HPM := Aside0.mk (kRC_mkM wr w.heap.size (fun k => wo.heap.size ≤ k) x.f0 A1 x.f1.length c1 ts (Kd.R_lower (Kd.R_mono (Kd.R_bound HJ.out.row) (fun k hk => hk.2.1)) HJ.out.le))
          have HOO := Aside0.mk (Kd.R_mono HJ.out.out (ok' := fun _ => True) (fun _ _ => trivial))
          go_wp2_with ((with_reducible refine gate_builtin (b := .append) (xs := #[.tmp 38, .tmp 40]) rfl ?_); at_builtin; refine Kd.R_append kRC (w0 := wr) (W := wr) w.heap.size rfl (.tmp 38) (.tmp 40) 27 73 (.agg #[.int .i64 0, .slice none 0 0, .slice none 0 0]) 56 rfl Tryd.underlying27 infoC rfl (by decide) (by omega) (.slice Ao i co) gs (x.f0, (A1, x.f1.length, c1), ts) [.int .i64 x.f0, .slice A1 x.f1.length c1, .slice At x.f2.length ct] (fun _ => True) (fun k => wo.heap.size ≤ k) rfl rfl HPM.out (fun k hk => ⟨trivial, fun e => Nat.not_le_of_lt (HJ.out.out.1 k e.symm) hk⟩) (fun _ _ => trivial) HOO.out (Below.refl _ _) HJ.out.bel.size (by rw [hgl]; omega) ?_; intro v1 w5 ho hb hg5 hat; have HO5 := Aside0.mk ho; have HB5 := Aside0.mk (HJ.out.bel.grown hg5 HJ.out.bel.size (Kd.R_base HOO.out)); clear ho hb hg5 hat)
          go_roundg (go - 1)
          case measure => omega
          case rel => exact ⟨_, i + 1, gs ++ [(x.f0, (A1, x.f1.length, c1), ts)], rfl, by omega, by omega, by go_num, HO5, HB5, ⟨by rw [List.take_succ_eq_append_getElem hlt, HX.out]; exact allC_snoc HA.out ⟨rfl, rfl, HG1.out.1, HG1.out.2, HTT.out⟩⟩⟩
    · have hi' : i = L.length := by omega
      subst hi'
      go_wp2
      go_ret
      obtain ⟨q1, q2, q3⟩ := Kd.R_reads' HO.out
      have q3 := C_conv q3 (by have := HA.out; rw [List.take_length] at this; exact this) HB.out
      rw [hgl] at q3
      exact ⟨_, _, rfl, q2, q3, HB.out⟩
end Go.Proofs.YtogbdjboblfokaaDoor.X
/- The reference's has, mark; plain Lean. -/
namespace Go.Proofs.YtogbdjboblfokaaDoor.X
open Go.RowKit Go.Proofs.YtogbdjboblfokaaDoorW.PrintWords Go.Proofs.YtogbdjboblfokaaDoorW.PrintLast Go.Proofs.YtogbdjboblfokaaDoorW.PrintMore Go.Proofs.YtogbdjboblfokaaDoor.XW05
open Go.Proofs.YtogbdjboblfokaaDoor.XT06
set_option linter.unusedSimpArgs false
set_option linter.unusedVariables false

theorem has_loop (S : List UInt8) (b : UInt8) (hS : S.length < 1000) : ∀ i, i ≤ S.length → Ev (fun k => flatironref05_has.l0 k (B S) (b.toNat : Int) (i : Int)) ((S.drop i).contains b) := by
  refine upto_ind ?_ ?_
  · refine Ev.step (fun k => by rw [flatironref05_has.l0]) ?_
    refine Ev.neg (by rw [B_size]; omega) ?_
    rw [List.drop_length]
    exact Ev.ret _
  · intro i hi ih
    rw [← wrap_succ i (by omega)] at ih
    refine Ev.step (fun k => by rw [flatironref05_has.l0]) ?_
    refine Ev.pos (by rw [B_size]; omega) ?_
    refine Ev.pos (by omega) ?_
    rw [drop_get S i hi, List.contains_cons]
    refine Ev.iff (show (bt (B S) (i : Int) = (b.toNat : Int)) = (S[i] = b) by rw [bt_B S i hi]; exact u8_toNat_eq _ _) ?_ ?_
    · intro h
      refine Ev.eq (Ev.ret _) ?_
      rw [h]; simp
    · intro h
      refine Ev.eq ih ?_
      rw [show (b == S[i]) = false by rw [beq_eq_false_iff_ne]; exact fun e => h e.symm, Bool.false_or]
theorem has_ev (b : UInt8) : Ev (fun k => flatironref05_has.f k (⟨#[32, 9, 10, 59, 38, 124, 60, 62]⟩ : ByteArray) (b.toNat : Int)) (stopB b) := by
  refine Ev.congr (fun k => by rw [flatironref05_has.f]) ?_
  exact has_loop [32, 9, 10, 59, 38, 124, 60, 62] b (by decide) 0 (by decide)
/-- The reference's longest mark, from the place i on, with the best so far. -/
def refm (T : List (List UInt8)) (l : List UInt8) (i best : Nat) : Nat :=
  if h : i < T.length then (if T[i].isPrefixOf l = true ∧ (best = 0 ∨ (T.getD (best - 1) []).length < T[i].length) then refm T l (i + 1) (i + 1) else refm T l (i + 1) best) else best
  termination_by T.length - i
theorem refm_end (T : List (List UInt8)) (l : List UInt8) (i best : Nat) (h : T.length ≤ i) : refm T l i best = best := by rw [refm.eq_def, dif_neg (by omega)]
theorem refm_next (T : List (List UInt8)) (l : List UInt8) (i best : Nat) (h : i < T.length) : refm T l i best = if T[i].isPrefixOf l = true ∧ (best = 0 ∨ (T.getD (best - 1) []).length < T[i].length) then refm T l (i + 1) (i + 1) else refm T l (i + 1) best := by
  conv => lhs; rw [refm.eq_def, dif_pos h]
def marksR : List (List UInt8) := [[59], [38, 38], [124, 124], [62], [62, 62], [60]]
def stepM (p : Bool) (n i best : Nat) : Nat := if p = true ∧ (best = 0 ∨ (marksR.getD (best - 1) []).length < n) then i + 1 else best
theorem refm_step (l : List UInt8) (i best : Nat) (h : i < marksR.length) : refm marksR l i best = refm marksR l (i + 1) (stepM (marksR[i].isPrefixOf l) marksR[i].length i best) := by
  rw [refm_next _ _ _ _ h]
  unfold stepM
  split <;> rfl
theorem refm_eq (l : List UInt8) : refm marksR l 0 0 = (match markS l with | some (k, _, _) => k | none => 0) := by
  rw [refm_step l 0 _ (by decide), refm_step l 1 _ (by decide), refm_step l 2 _ (by decide), refm_step l 3 _ (by decide), refm_step l 4 _ (by decide), refm_step l 5 _ (by decide), refm_end _ _ 6 _ (by decide)]
  cases l with
  | nil => rfl
  | cons b m =>
    by_cases h59 : b = 59
    · subst h59; cases m <;> rfl
    · by_cases h60 : b = 60
      · subst h60; cases m <;> rfl
      · by_cases h62 : b = 62
        · subst h62
          cases m with
          | nil => rfl
          | cons c r =>
            by_cases hc : c = 62
            · subst hc; rfl
            · have e : ((62 : UInt8) == c) = false := by rw [beq_eq_false_iff_ne]; exact fun h => hc h.symm
              simp [marksR, List.isPrefixOf, e, hc, markS, stepM]
        · by_cases h38 : b = 38
          · subst h38
            cases m with
            | nil => rfl
            | cons c r =>
              by_cases hc : c = 38
              · subst hc; rfl
              · have e : ((38 : UInt8) == c) = false := by rw [beq_eq_false_iff_ne]; exact fun h => hc h.symm
                simp [marksR, List.isPrefixOf, e, hc, markS, stepM]
          · by_cases h124 : b = 124
            · subst h124
              cases m with
              | nil => rfl
              | cons c r =>
                by_cases hc : c = 124
                · subst hc; rfl
                · have e : ((124 : UInt8) == c) = false := by rw [beq_eq_false_iff_ne]; exact fun h => hc h.symm
                  simp [marksR, List.isPrefixOf, e, hc, markS, stepM]
            · rw [markS_none b m h38 h124 h62 h60 h59]
              have n : ∀ x : UInt8, ¬ b = x → (x == b) = false := fun x h => by rw [beq_eq_false_iff_ne]; exact fun e => h e.symm
              simp [marksR, List.isPrefixOf, n _ h38, n _ h124, n _ h62, n _ h60, n _ h59, stepM]
theorem prefix_take (p l : List UInt8) : (p.isPrefixOf l = true) ↔ (p.length ≤ l.length ∧ l.take p.length = p) := by
  rw [List.isPrefixOf_iff_prefix]
  constructor
  · intro h
    exact ⟨h.length_le, (List.prefix_iff_eq_take.1 h).symm⟩
  · rintro ⟨_, h⟩
    exact List.prefix_iff_eq_take.2 h.symm
theorem refmark_loop (l : List UInt8) (hl : l.length < 4294967281) : ∀ i, i ≤ marksR.length → ∀ best, best ≤ marksR.length → Ev (fun k => flatironref05_mark.l0 k (B l) (marksR.map B) (best : Int) (i : Int)) ((refm marksR l i best : Nat) : Int) := by
  refine upto_ind ?_ ?_
  · intro best hb
    refine Ev.step (fun k => by rw [flatironref05_mark.l0]) ?_
    refine Ev.neg (by simp) ?_
    rw [refm_end _ _ _ _ (Nat.le_refl _)]
    exact Ev.ret _
  · intro i hi ih best hb
    have hi6 : i < 6 := hi
    have hb6 : best ≤ 6 := hb
    have r : rdOf ByteArray.empty (marksR.map B) (i : Int) = B (marksR[i]'hi) := by rw [rdOf_get _ _ i (by simpa using hi)]; simp
    obtain ⟨T, hT⟩ : ∃ T, marksR[i]'hi = T := ⟨_, rfl⟩
    have hp := prefix_take T l
    have nx := refm_next marksR l i best hi
    rw [hT] at r nx
    refine Ev.step (fun k => by rw [flatironref05_mark.l0]) ?_
    rw [r, wrap_succ i (by omega), nx]
    refine Ev.pos (by simp; exact hi) ?_
    refine Ev.pos (by omega) ?_
    by_cases c1 : T.length ≤ l.length
    · refine Ev.pos (by rw [B_size, B_size]; omega) ?_
      refine Ev.pos (by omega) ?_
      refine Ev.pos (by rw [B_size, B_size]; omega) ?_
      have ex : (B l).extract 0 (((B T).size : Int)).toNat = B (l.take T.length) := by
        rw [show (((B T).size : Int)).toNat = T.length by rw [B_size]; rfl, B_extract]; simp
      rw [ex]
      refine Ev.iff (show ((B (l.take T.length)).toList = (B T).toList) = (l.take T.length = T) by rw [B_toList, B_toList]) ?_ ?_
      · intro h
        have hpt := hp.2 ⟨c1, h⟩
        refine Ev.iff (show ((best : Int) = 0) = (best = 0) from propext (by omega)) ?_ ?_
        · intro h0
          rw [if_pos ⟨hpt, .inl h0⟩]
          exact ih (i + 1) (by show i + 1 ≤ 6; omega)
        · intro h0
          have rb : rdOf ByteArray.empty (marksR.map B) ((best - 1 : Nat) : Int) = B (marksR.getD (best - 1) []) := by
            have hlt : best - 1 < marksR.length := by show best - 1 < 6; omega
            rw [rdOf_get _ _ (best - 1) (by simpa using hlt), List.getD_eq_getElem?_getD, List.getElem?_eq_getElem hlt]; simp
          rw [wrap_pred best (by omega) (by omega), rb]
          refine Ev.pos (by omega) ?_
          refine Ev.pos (by simp only [List.length_map]; show ((best - 1 : Nat) : Int) < ((6 : Nat) : Int); omega) ?_
          refine Ev.iff (show (((B T).size : Int) > ((B (marksR.getD (best - 1) [])).size : Int)) = ((marksR.getD (best - 1) []).length < T.length) by rw [B_size, B_size]; exact propext (by omega)) ?_ ?_
          · intro h2
            rw [if_pos ⟨hpt, .inr h2⟩]
            exact ih (i + 1) (by show i + 1 ≤ 6; omega)
          · intro h2
            rw [if_neg (fun h => h.2.elim h0 h2)]
            exact ih best hb
      · intro h
        rw [if_neg (fun h' => h (hp.1 h'.1).2)]
        exact ih best hb
    · refine Ev.neg (by rw [B_size, B_size]; omega) ?_
      rw [if_neg (fun h => c1 (hp.1 h.1).1)]
      exact ih best hb
theorem refmark_ev (l : List UInt8) (hl : l.length < 4294967281) : Ev (fun k => flatironref05_mark.f k (B l)) ((match markS l with | some (k, _, _) => (k : Int) | none => 0)) := by
  refine Ev.congr (fun k => by rw [flatironref05_mark.f]) ?_
  have hm : flatironref05_Marks.f = some (marksR.map B) := by unfold flatironref05_Marks.f; rfl
  refine Ev.bind (Ev.of hm) ?_
  refine Ev.eq (refmark_loop l hl 0 (by decide) 0 (by decide)) ?_
  rw [refm_eq]
  cases markS l <;> rfl
end Go.Proofs.YtogbdjboblfokaaDoor.X
/- The four places of the reference's reader, as values on the list that is left; plain Lean. -/
namespace Go.Proofs.YtogbdjboblfokaaDoor.X
open Go.RowKit Go.Proofs.YtogbdjboblfokaaDoorW.PrintWords Go.Proofs.YtogbdjboblfokaaDoorW.PrintLast Go.Proofs.YtogbdjboblfokaaDoorW.PrintMore Go.Proofs.YtogbdjboblfokaaDoor.XW05
open Go.Proofs.YtogbdjboblfokaaDoor.XT06
set_option linter.unusedSimpArgs false
set_option linter.unusedVariables false

theorem qS_acc (e : UInt8) : ∀ d (l acc acc2 : List UInt8), l.length ≤ d → qS e (acc ++ acc2) l = (qS e acc2 l).map (fun p => (acc ++ p.1, p.2)) := by
  intro d
  induction d with
  | zero =>
    intro l acc acc2 hd
    cases l with
    | nil => rw [qS_nil, qS_nil]; rfl
    | cons b m => simp at hd
  | succ d ih =>
    intro l acc acc2 hd
    cases l with
    | nil => rw [qS_nil, qS_nil]; rfl
    | cons b m =>
      simp only [List.length_cons] at hd
      cases m with
      | nil => rw [qS_single, qS_single]; split <;> rfl
      | cons c r =>
        simp only [List.length_cons] at hd
        rw [qS_two, qS_two]
        split
        · rfl
        · split
          · rw [List.append_assoc, ih r acc (acc2 ++ [c]) (by omega)]
          · rw [List.append_assoc, ih (c :: r) acc (acc2 ++ [b]) (by simp; omega)]
def V1 (cur : List UInt8) (out : List (Nat × List UInt8)) (l : List UInt8) : Option (List (Nat × List UInt8)) :=
  match wS cur l with
  | none => none
  | some (t, r) => tokS (out ++ [(0, t)]) r
def V2 (e : UInt8) (cur : List UInt8) (out : List (Nat × List UInt8)) (l : List UInt8) : Option (List (Nat × List UInt8)) :=
  match qS e cur l with
  | none => none
  | some (t, r) => V1 t out r
theorem V1_nil (cur : List UInt8) (out : List (Nat × List UInt8)) : V1 cur out [] = some (out ++ [(0, cur)]) := by
  unfold V1; rw [wS_nil]; exact tokS_nil _
theorem V1_stop (cur r : List UInt8) (out : List (Nat × List UInt8)) (b : UInt8) (h : stopB b = true) : V1 cur out (b :: r) = tokS (out ++ [(0, cur)]) (b :: r) := by
  unfold V1; rw [wS_stop _ _ _ h]
theorem V1_q (cur r : List UInt8) (out : List (Nat × List UInt8)) (b : UInt8) (h : ¬ stopB b = true) (h1 : b = 39 ∨ b = 34) : V1 cur out (b :: r) = V2 b cur out r := by
  unfold V2
  have e := qS_acc b _ r cur [] (Nat.le_refl _)
  rw [List.append_nil] at e
  rw [e]
  cases hq : qS b [] r with
  | none => unfold V1; rw [wS_q0 _ _ _ h h1 hq]; rfl
  | some x =>
    obtain ⟨t, r'⟩ := x
    unfold V1
    rw [wS_q _ _ _ _ _ h h1 hq]
    rfl
theorem V1_b (cur r : List UInt8) (out : List (Nat × List UInt8)) (c : UInt8) : V1 cur out (92 :: c :: r) = V1 (cur ++ [c]) out r := by
  unfold V1; rw [wS_b]
theorem V1_b0 (cur : List UInt8) (out : List (Nat × List UInt8)) : V1 cur out [92] = none := by
  unfold V1; rw [wS_b0]
theorem V1_one (cur r : List UInt8) (out : List (Nat × List UInt8)) (b : UInt8) (h : ¬ stopB b = true) (h1 : ¬ b = 39) (h2 : ¬ b = 34) (h3 : ¬ b = 92) : V1 cur out (b :: r) = V1 (cur ++ [b]) out r := by
  unfold V1; rw [wS_one _ _ _ h h1 h2 h3]
theorem V2_nil (e : UInt8) (cur : List UInt8) (out : List (Nat × List UInt8)) : V2 e cur out [] = none := by unfold V2; rw [qS_nil]
theorem V2_hit (e : UInt8) (cur r : List UInt8) (out : List (Nat × List UInt8)) : V2 e cur out (e :: r) = V1 cur out r := by unfold V2; rw [qS_hit]
theorem V2_esc (cur r : List UInt8) (out : List (Nat × List UInt8)) (c : UInt8) (h : c = 34 ∨ c = 92) : V2 34 cur out (92 :: c :: r) = V2 34 (cur ++ [c]) out r := by unfold V2; rw [qS_esc _ _ _ h]
theorem V2_one (e b : UInt8) (cur r : List UInt8) (out : List (Nat × List UInt8)) (h : ¬ b = e) (h2 : ¬ (e = 34 ∧ b = 92 ∧ ∃ c r', r = c :: r' ∧ (c = 34 ∨ c = 92))) : V2 e cur out (b :: r) = V2 e (cur ++ [b]) out r := by
  unfold V2; rw [qS_one e b cur r h h2]
theorem wS_less (acc r t r' : List UInt8) (b : UInt8) (h : ¬ stopB b = true) (hw : wS acc (b :: r) = some (t, r')) : r'.length ≤ r.length := by
  have suf : ∀ {acc l t r' : List UInt8}, wS acc l = some (t, r') → r'.length ≤ l.length := by
    intro acc l t r' h
    obtain ⟨⟨p, hp⟩, _⟩ := wS_suffix _ _ _ _ _ (Nat.le_refl _) h
    rw [hp, List.length_append]; omega
  by_cases hq : b = 39 ∨ b = 34
  · cases hqs : qS b [] r with
    | none => rw [wS_q0 _ _ _ h hq hqs] at hw; exact absurd hw (by simp)
    | some x =>
      obtain ⟨t1, r1⟩ := x
      rw [wS_q _ _ _ _ _ h hq hqs] at hw
      have := suf hw
      have := qS_less hqs
      omega
  · by_cases hb : b = 92
    · subst hb
      cases r with
      | nil => rw [wS_b0] at hw; exact absurd hw (by simp)
      | cons c m => rw [wS_b] at hw; have := suf hw; simp; omega
    · rw [wS_one _ _ _ h (fun h => hq (.inl h)) (fun h => hq (.inr h)) hb] at hw
      exact suf hw
theorem stop_not {b : UInt8} (h : ¬ stopB b = true) : ¬ blk b = true ∧ ¬ b = 38 ∧ ¬ b = 124 ∧ ¬ b = 62 ∧ ¬ b = 60 ∧ ¬ b = 59 := by
  simp [stopB, blk] at h ⊢
  simp [h]
theorem V0_word (out : List (Nat × List UInt8)) (b : UInt8) (r : List UInt8) (h : ¬ stopB b = true) : tokS out (b :: r) = V1 [] out (b :: r) := by
  obtain ⟨h1, h2, h3, h4, h5, h6⟩ := stop_not h
  have hm := markS_none b r h2 h3 h4 h5 h6
  unfold V1
  cases hw : wS [] (b :: r) with
  | none => exact tokS_bad _ _ _ h1 hm hw
  | some x =>
    obtain ⟨t, r'⟩ := x
    have := wS_less _ _ _ _ _ h hw
    rw [tokS_word _ _ _ h1 hm _ _ hw, if_pos (by simp; omega)]
theorem V0_bad (out : List (Nat × List UInt8)) (b : UInt8) (r : List UInt8) (h : stopB b = true) (h1 : ¬ blk b = true) (hm : markS (b :: r) = none) : tokS out (b :: r) = none := by
  rw [tokS_word _ _ _ h1 hm _ _ (wS_stop [] r b h), if_neg (by omega)]
end Go.Proofs.YtogbdjboblfokaaDoor.X
/- The reference's reader; plain Lean. -/
namespace Go.Proofs.YtogbdjboblfokaaDoor.X
open Go.RowKit Go.Proofs.YtogbdjboblfokaaDoorW.PrintWords Go.Proofs.YtogbdjboblfokaaDoorW.PrintLast Go.Proofs.YtogbdjboblfokaaDoorW.PrintMore Go.Proofs.YtogbdjboblfokaaDoor.XW05
open Go.Proofs.YtogbdjboblfokaaDoor.XT06
set_option linter.unusedSimpArgs false
set_option linter.unusedVariables false

def s78 (x : Nat × List UInt8) : S75 := ⟨(x.1 : Int), B x.2⟩
def resF (o : Option (List (Nat × List UInt8))) : List S75 × Bool := match o with | some res => (res.map s78, true) | none => ([], false)
theorem ext1 (l : List UInt8) (i : Nat) (h : i < l.length) : (B l).extract (i : Int).toNat (((i + 1 : Nat) : Int)).toNat = B [l[i]'h] := by
  rw [B_extract]; congr 1; exact one_at l i h
theorem place2 (l : List UInt8) (hl : l.length < 4294967281) (i : Nat) (hi : i < l.length)
    (ih : ∀ j, i < j → j ≤ l.length → ∀ (out : List (Nat × List UInt8)) (cur : List UInt8), out.length ≤ 2 * j → cur.length ≤ j →
      Ev (fun k => flatironref05_Tokens.l0 k (B l) (out.map s78) 1 (B cur) (j : Int)) (resF (V1 cur out (l.drop j))) ∧ Ev (fun k => flatironref05_Tokens.l0 k (B l) (out.map s78) 2 (B cur) (j : Int)) (resF (V2 39 cur out (l.drop j))))
    (out : List (Nat × List UInt8)) (cur : List UInt8) (ho : out.length ≤ 2 * i) (hc : cur.length ≤ i) :
    Ev (fun k => flatironref05_Tokens.l0 k (B l) (out.map s78) 2 (B cur) (i : Int)) (resF (V2 39 cur out (l.drop i))) := by
  have hbt := bt_B l i hi
  refine Ev.step (fun k => by rw [flatironref05_Tokens.l0]) ?_
  refine Ev.pos (by rw [B_size]; omega) ?_
  refine Ev.pos (by omega) ?_
  rw [hbt]
  refine Ev.bind (has_ev _) ?_
  refine Ev.pos rfl ?_
  rw [wrap_succ i (by omega), drop_get l i hi]
  refine Ev.iff (show (((l[i].toNat : Int)) = 39) = (l[i] = 39) by first | exact u8_num _ 39 (by decide) | exact propext (u8_num _ 39 (by decide))) ?_ ?_
  · intro h
    rw [h, V2_hit]
    exact (ih (i + 1) (by omega) (by omega) out cur (by omega) (by omega)).1
  · intro h
    refine Ev.pos (by omega) ?_
    refine Ev.pos (by rw [B_size]; omega) ?_
    refine Ev.pos (by rw [B_size]; omega) ?_
    rw [ext1 l i hi, B_append, V2_one _ _ _ _ _ h (fun hh => absurd hh.1 (by decide))]
    exact (ih (i + 1) (by omega) (by omega) out (cur ++ [l[i]]) (by omega) (by simp; omega)).2
theorem place3 (l : List UInt8) (hl : l.length < 4294967281) (i : Nat) (hi : i < l.length)
    (ih : ∀ j, i < j → j ≤ l.length → ∀ (out : List (Nat × List UInt8)) (cur : List UInt8), out.length ≤ 2 * j → cur.length ≤ j →
      Ev (fun k => flatironref05_Tokens.l0 k (B l) (out.map s78) 1 (B cur) (j : Int)) (resF (V1 cur out (l.drop j))) ∧ Ev (fun k => flatironref05_Tokens.l0 k (B l) (out.map s78) 3 (B cur) (j : Int)) (resF (V2 34 cur out (l.drop j))))
    (out : List (Nat × List UInt8)) (cur : List UInt8) (ho : out.length ≤ 2 * i) (hc : cur.length ≤ i) :
    Ev (fun k => flatironref05_Tokens.l0 k (B l) (out.map s78) 3 (B cur) (i : Int)) (resF (V2 34 cur out (l.drop i))) := by
  have hbt := bt_B l i hi
  have num : ∀ (b : UInt8) (n : Nat), n < 256 → (((b.toNat : Int)) = (n : Int)) = (b = UInt8.ofNat n) := fun b n h => by first | exact u8_num b n h | exact propext (u8_num b n h)
  refine Ev.step (fun k => by rw [flatironref05_Tokens.l0]) ?_
  refine Ev.pos (by rw [B_size]; omega) ?_
  refine Ev.pos (by omega) ?_
  rw [hbt]
  refine Ev.bind (has_ev _) ?_
  refine Ev.neg (by decide) ?_
  refine Ev.pos rfl ?_
  refine Ev.step (fun k => by rw [flatironref05_Tokens.j1]) ?_
  rw [wrap_succ i (by omega), drop_get l i hi]
  refine Ev.iff (show ((((l[i].toNat : Int)) == 34) = true) = (l[i] = 34) by rw [beq_iff_eq]; exact num _ 34 (by decide)) ?_ ?_
  · intro h
    rw [h, V2_hit]
    exact (ih (i + 1) (by omega) (by omega) out cur (by omega) (by omega)).1
  · intro h
    have one : ¬ (l[i] = 92 ∧ ∃ h4 : i + 1 < l.length, (l[i + 1] = 34 ∨ l[i + 1] = 92)) → Ev (fun k => if 0 ≤ (i : Int) then (if (i : Int) ≤ ((i + 1 : Nat) : Int) then (if ((i + 1 : Nat) : Int) ≤ ((B l).size : Int) then (if (B cur).size + ((((i + 1 : Nat) : Int).toNat) - (i : Int).toNat) ≤ 9223372036854775807 then (flatironref05_Tokens.l0 k (B l) (out.map s78) 3 ((B cur) ++ ((B l).extract (i : Int).toNat (((i + 1 : Nat) : Int)).toNat)) ((i + 1 : Nat) : Int)) else none) else none) else none) else none) (resF (V2 34 cur out (l[i] :: l.drop (i + 1)))) := by
      intro hn
      refine Ev.pos (by omega) ?_
      refine Ev.pos (by omega) ?_
      refine Ev.pos (by rw [B_size]; omega) ?_
      refine Ev.pos (by rw [B_size]; omega) ?_
      rw [ext1 l i hi, B_append, V2_one _ _ _ _ _ h]
      · exact (ih (i + 1) (by omega) (by omega) out (cur ++ [l[i]]) (by omega) (by simp; omega)).2
      · rintro ⟨_, h2, c, r', h6, h7⟩
        refine hn ⟨h2, ?_⟩
        have h4 : i + 1 < l.length := by
          have := congrArg List.length h6
          simp only [List.length_drop, List.length_cons] at this
          omega
        refine ⟨h4, ?_⟩
        rw [drop_get l (i + 1) h4] at h6
        injection h6 with h8 _
        rw [h8]; exact h7
    refine Ev.pos rfl ?_
    refine Ev.iff (show (((l[i].toNat : Int)) = 92) = (l[i] = 92) from num _ 92 (by decide)) ?_ (fun h9 => one (fun hh => h9 hh.1))
    intro h92
    by_cases h4 : i + 1 < l.length
    · refine Ev.pos (by rw [B_size]; omega) ?_
      refine Ev.pos (by omega) ?_
      rw [bt_B l (i + 1) h4, wrap_succ (i + 1) (by omega)]
      refine Ev.iff (show (((l[i + 1].toNat : Int)) = 34) = (l[i + 1] = 34) from num _ 34 (by decide)) ?_ ?_
      · intro y
        refine Ev.pos (by omega) ?_
        refine Ev.pos (by rw [B_size]; omega) ?_
        refine Ev.pos (by rw [B_size]; omega) ?_
        rw [ext1 l (i + 1) h4, B_append, h92, drop_get l (i + 1) h4, V2_esc _ _ _ _ (.inl y)]
        exact (ih (i + 1 + 1) (by omega) (by omega) out (cur ++ [l[i + 1]]) (by omega) (by simp; omega)).2
      · intro y
        refine Ev.iff (show (((l[i + 1].toNat : Int)) = 92) = (l[i + 1] = 92) from num _ 92 (by decide)) ?_ ?_
        · intro z
          refine Ev.pos (by omega) ?_
          refine Ev.pos (by rw [B_size]; omega) ?_
          refine Ev.pos (by rw [B_size]; omega) ?_
          rw [ext1 l (i + 1) h4, B_append, h92, drop_get l (i + 1) h4, V2_esc _ _ _ _ (.inr z)]
          exact (ih (i + 1 + 1) (by omega) (by omega) out (cur ++ [l[i + 1]]) (by omega) (by simp; omega)).2
        · intro z
          exact one (fun hh => hh.2.2.elim y z)
    · refine Ev.neg (by rw [B_size]; omega) ?_
      exact one (fun hh => h4 hh.2.1)
theorem step_ev (b : UInt8) (r : List UInt8) : flatironref05_step.f (B (b :: r)) = some (if b = 39 then (1, 2, true) else if b = 34 then (1, 3, true) else if b = 92 then (2, 1, decide (r ≠ [])) else (1, 1, true)) := by
  have hbt : bt (B (b :: r)) 0 = (b.toNat : Int) := bt_B (b :: r) 0 (by simp)
  have num : ∀ (b : UInt8) (n : Nat), n < 256 → (((b.toNat : Int)) = (n : Int)) = (b = UInt8.ofNat n) := fun b n h => by first | exact u8_num b n h | exact propext (u8_num b n h)
  have e39 : (((b.toNat : Int)) = 39) = (b = 39) := num b 39 (by decide)
  have e34 : (((b.toNat : Int)) = 34) = (b = 34) := num b 34 (by decide)
  have e92 : (((b.toNat : Int)) = 92) = (b = 92) := num b 92 (by decide)
  unfold flatironref05_step.f
  rw [if_pos (by rw [B_size]; simp), hbt]
  simp only [e39, e34, e92]
  by_cases h1 : b = 39
  · rw [if_pos h1, if_pos h1]
  · rw [if_neg h1, if_neg h1]
    by_cases h2 : b = 34
    · rw [if_pos h2, if_pos h2]
    · rw [if_neg h2, if_neg h2]
      by_cases h3 : b = 92
      · rw [if_pos h3, if_pos h3]
        congr 3
        rw [B_size, Bool.eq_iff_iff, decide_eq_true_eq, decide_eq_true_eq]
        cases r with
        | nil => simp
        | cons c m => simp; omega
      · rw [if_neg h3, if_neg h3]
/-- A word's byte, that is no stop: in places 0 and 1. -/
theorem placeW (l : List UInt8) (hl : l.length < 4294967281) (i : Nat) (hi : i < l.length) (hns : ¬ stopB l[i] = true) (md : Int) (hmd : md = 0 ∨ md = 1)
    (ih : ∀ j, i < j → j ≤ l.length → ∀ (out : List (Nat × List UInt8)) (cur : List UInt8), out.length ≤ 2 * j → cur.length ≤ j →
      Ev (fun k => flatironref05_Tokens.l0 k (B l) (out.map s78) 1 (B cur) (j : Int)) (resF (V1 cur out (l.drop j))) ∧ Ev (fun k => flatironref05_Tokens.l0 k (B l) (out.map s78) 2 (B cur) (j : Int)) (resF (V2 39 cur out (l.drop j)))
        ∧ Ev (fun k => flatironref05_Tokens.l0 k (B l) (out.map s78) 3 (B cur) (j : Int)) (resF (V2 34 cur out (l.drop j))))
    (out : List (Nat × List UInt8)) (cur : List UInt8) (ho : out.length ≤ 2 * i) (hc : cur.length ≤ i) :
    Ev (fun k => flatironref05_Tokens.l0 k (B l) (out.map s78) md (B cur) (i : Int)) (resF (V1 cur out (l.drop i))) := by
  have hbt := bt_B l i hi
  refine Ev.step (fun k => by rw [flatironref05_Tokens.l0]) ?_
  refine Ev.pos (by rw [B_size]; omega) ?_
  refine Ev.pos (by omega) ?_
  rw [hbt]
  refine Ev.bind (has_ev _) ?_
  refine Ev.neg (by omega) ?_
  refine Ev.neg (by omega) ?_
  refine Ev.step (fun k => by rw [flatironref05_Tokens.j1]) ?_
  refine Ev.neg (by simp) ?_
  refine Ev.neg (by omega) ?_
  refine Ev.neg hns ?_
  refine Ev.pos (by omega) ?_
  refine Ev.pos (by rw [B_size]; omega) ?_
  have hx : (B l).extract (i : Int).toNat (B l).size = B (l[i] :: l.drop (i + 1)) := by
    rw [B_size, B_extract, List.take_of_length_le (Nat.le_refl _), ← drop_get l i hi]; rfl
  rw [hx]
  refine Ev.bind (Ev.of (step_ev _ _)) ?_
  rw [drop_get l i hi]
  by_cases h39 : l[i] = 39
  · rw [if_pos h39]
    refine Ev.pos rfl ?_
    refine Ev.neg (by decide) ?_
    rw [show V1 cur out (l[i] :: l.drop (i + 1)) = V2 39 cur out (l.drop (i + 1)) by rw [V1_q cur _ out l[i] hns (.inl h39), h39]]
    have := (ih (i + 1) (by omega) (by omega) out cur (by omega) (by omega)).2.1
    rw [← wrap_succ i (by omega)] at this
    exact this
  · rw [if_neg h39]
    by_cases h34 : l[i] = 34
    · rw [if_pos h34]
      refine Ev.pos rfl ?_
      refine Ev.neg (by decide) ?_
      rw [show V1 cur out (l[i] :: l.drop (i + 1)) = V2 34 cur out (l.drop (i + 1)) by rw [V1_q cur _ out l[i] hns (.inr h34), h34]]
      have := (ih (i + 1) (by omega) (by omega) out cur (by omega) (by omega)).2.2
      rw [← wrap_succ i (by omega)] at this
      exact this
    · rw [if_neg h34]
      by_cases h92 : l[i] = 92
      · rw [if_pos h92]
        by_cases h4 : i + 1 < l.length
        · have hne : decide (l.drop (i + 1) ≠ []) = true := decide_eq_true (fun e => by have := congrArg List.length e; simp only [List.length_drop, List.length_nil] at this; omega)
          rw [hne]
          have w2 : wrap64 ((i : Int) + 2) = ((i + 2 : Nat) : Int) := wrap_add i 2 (by omega)
          have w3 : wrap64 (((i + 2 : Nat) : Int) - 1) = ((i + 1 : Nat) : Int) := wrap_pred (i + 2) (by omega) (by omega)
          refine Ev.pos rfl ?_
          refine Ev.pos rfl ?_
          show Ev (fun k => if 0 ≤ (wrap64 ((wrap64 ((i : Int) + 2)) - 1)) then _ else _) _
          rw [w2, w3]
          refine Ev.pos (by omega) ?_
          refine Ev.pos (by omega) ?_
          refine Ev.pos (by rw [B_size]; omega) ?_
          refine Ev.pos (by rw [B_size]; omega) ?_
          rw [ext1 l (i + 1) h4, B_append, h92, drop_get l (i + 1) h4, V1_b]
          exact (ih (i + 1 + 1) (by omega) (by omega) out (cur ++ [l[i + 1]]) (by omega) (by simp; omega)).1
        · have hnil : l.drop (i + 1) = [] := List.drop_eq_nil_of_le (by omega)
          rw [hnil, h92, V1_b0]
          exact Ev.neg (by decide) (Ev.ret _)
      · rw [if_neg h92]
        have w2 : wrap64 ((i : Int) + 1) = ((i + 1 : Nat) : Int) := wrap_succ i (by omega)
        have w3 : wrap64 (((i + 1 : Nat) : Int) - 1) = (i : Int) := wrap_pred (i + 1) (by omega) (by omega)
        refine Ev.pos rfl ?_
        refine Ev.pos rfl ?_
        show Ev (fun k => if 0 ≤ (wrap64 ((wrap64 ((i : Int) + 1)) - 1)) then _ else _) _
        rw [w2, w3]
        refine Ev.pos (by omega) ?_
        refine Ev.pos (by omega) ?_
        refine Ev.pos (by rw [B_size]; omega) ?_
        refine Ev.pos (by rw [B_size]; omega) ?_
        rw [ext1 l i hi, B_append, V1_one _ _ _ _ hns h39 h34 h92]
        exact (ih (i + 1) (by omega) (by omega) out (cur ++ [l[i]]) (by omega) (by simp; omega)).1
theorem markS_len {b : UInt8} {r r' : List UInt8} {k n : Nat} (h : markS (b :: r) = some (k, n, r')) : (marksR.getD (k - 1) []).length = n ∧ ¬ blk b = true := by
  cases r with
  | nil =>
    simp only [markS] at h
    repeat' split at h
    all_goals first
      | (cases h; done)
      | (injection h with h; injection h with h1 h2; injection h2 with h2 h3; subst h1 h2 h3; rename_i hb; subst hb; exact ⟨rfl, by decide⟩)
      | (injection h with h; injection h with h1 h2; injection h2 with h2 h3; subst h1 h2 h3; rename_i hb _; subst hb; exact ⟨rfl, by decide⟩)
  | cons c r =>
    simp only [markS] at h
    repeat' split at h
    all_goals first
      | (cases h; done)
      | (injection h with h; injection h with h1 h2; injection h2 with h2 h3; subst h1 h2 h3; rename_i hb; obtain ⟨rfl, rfl⟩ := hb; exact ⟨rfl, by decide⟩)
      | (injection h with h; injection h with h1 h2; injection h2 with h2 h3; subst h1 h2 h3; rename_i hb; subst hb; exact ⟨rfl, by decide⟩)
theorem stop_blk {b : UInt8} {r : List UInt8} (h : stopB b = true) (hm : markS (b :: r) = none) (h1 : ¬ b = 38) (h2 : ¬ b = 124) : blk b = true := by
  have h3 : ¬ b = 62 := by
    rintro rfl
    cases r with
    | nil => simp [markS] at hm
    | cons c r =>
      by_cases hc : c = 62
      · subst hc; simp [markS] at hm
      · simp [markS, hc] at hm
  have h4 : ¬ b = 60 := by rintro rfl; cases r with | nil => simp [markS] at hm | cons c r => simp [markS] at hm
  have h5 : ¬ b = 59 := by rintro rfl; cases r with | nil => simp [markS] at hm | cons c r => simp [markS] at hm
  simp [stopB, blk] at h ⊢
  simp [h1, h2, h3, h4, h5] at h
  exact h
theorem stopJ2 (l : List UInt8) (hl : l.length < 4294967281) (i : Nat) (hi : i < l.length) (hs : stopB l[i] = true) (out : List (Nat × List UInt8)) (ho : out.length ≤ 2 * i + 1)
    (ih : ∀ j, i < j → j ≤ l.length → ∀ (out : List (Nat × List UInt8)), out.length ≤ 2 * j → Ev (fun k => flatironref05_Tokens.l0 k (B l) (out.map s78) 0 (B []) (j : Int)) (resF (tokS out (l.drop j)))) :
    Ev (fun k => flatironref05_Tokens.j2 k (B l) (out.map s78) 0 (B []) (i : Int) (l[i].toNat : Int)) (resF (tokS out (l.drop i))) := by
  have num : ∀ (b : UInt8) (n : Nat), n < 256 → (((b.toNat : Int)) = (n : Int)) = (b = UInt8.ofNat n) := fun b n h => by first | exact u8_num b n h | exact propext (u8_num b n h)
  have hx : (B l).extract (i : Int).toNat (B l).size = B (l.drop i) := by
    rw [B_size, B_extract, List.take_of_length_le (Nat.le_refl _)]; rfl
  refine Ev.step (fun k => by rw [flatironref05_Tokens.j2]) ?_
  refine Ev.pos (by omega) ?_
  refine Ev.pos (by rw [B_size]; omega) ?_
  rw [hx]
  refine Ev.bind (refmark_ev _ (by simp; omega)) ?_
  have hd := drop_get l i hi
  cases hm : markS (l.drop i) with
  | some x =>
    obtain ⟨kk, n, r'⟩ := x
    dsimp only
    rw [hd] at hm
    obtain ⟨⟨p, hp, hpl⟩, hn, hk1, hk6⟩ := markS_suffix hm
    obtain ⟨hlen, hnb⟩ := markS_len hm
    have hin : i + n ≤ l.length := by
      have := congrArg List.length hp
      simp only [List.length_cons, List.length_drop, List.length_append] at this
      omega
    have hr : r' = l.drop (i + n) := by
      rw [← hd] at hp
      rw [← List.drop_drop, hp, List.drop_append_of_le_length (by omega), ← hpl, List.drop_length]; rfl
    refine Ev.neg (by omega) ?_
    refine Ev.step (fun k => by rw [flatironref05_Tokens.j3]) ?_
    refine Ev.neg (by decide) ?_
    refine Ev.pos (by omega) ?_
    refine Ev.pos (by rw [List.length_map]; omega) ?_
    have hmm : flatironref05_Marks.f = some (marksR.map B) := by unfold flatironref05_Marks.f; rfl
    refine Ev.bind (Ev.of hmm) ?_
    have w1 : wrap64 ((kk : Int) - 1) = ((kk - 1 : Nat) : Int) := wrap_pred kk (by omega) (by omega)
    have hlt : kk - 1 < marksR.length := by show kk - 1 < 6; omega
    have rb : rdOf ByteArray.empty (marksR.map B) ((kk - 1 : Nat) : Int) = B (marksR.getD (kk - 1) []) := by
      rw [rdOf_get _ _ (kk - 1) (by simpa using hlt), List.getD_eq_getElem?_getD, List.getElem?_eq_getElem hlt]; simp
    rw [w1, rb, B_size, hlen, wrap_succ i (by omega), wrap_add (i + 1) n (by omega), wrap_pred (i + 1 + n) (by omega) (by omega)]
    refine Ev.pos (by omega) ?_
    refine Ev.pos (by simp only [List.length_map]; omega) ?_
    have := ih (i + n) (by omega) hin (out ++ [(kk, [])]) (by simp; omega)
    rw [hd, tokS_mark out l[i] _ hnb kk n r' hm, hr]
    rw [List.map_append] at this
    rw [show i + 1 + n - 1 = i + n by omega]
    exact this
  | none =>
    dsimp only
    rw [hd] at hm ⊢
    refine Ev.pos rfl ?_
    have bad : ∀ x, x = true → ¬ blk l[i] = true → Ev (fun k => flatironref05_Tokens.j3 k (B l) (out.map s78) 0 (B []) (i : Int) 0 x) (resF (tokS out (l[i] :: l.drop (i + 1)))) := by
      rintro x rfl hnb
      refine Ev.step (fun k => by rw [flatironref05_Tokens.j3]) ?_
      refine Ev.pos rfl ?_
      rw [V0_bad out _ _ hs hnb hm]
      exact Ev.ret _
    refine Ev.iff (show (((l[i].toNat : Int)) = 38) = (l[i] = 38) from num _ 38 (by decide)) ?_ ?_
    · intro h
      exact bad _ rfl (by rw [h]; decide)
    · intro h
      have e124 : (((l[i].toNat : Int)) == 124) = decide (l[i] = 124) := by
        rw [Bool.eq_iff_iff, beq_iff_eq, decide_eq_true_eq]; exact Iff.of_eq (num _ 124 (by decide))
      rw [e124]
      by_cases h2 : l[i] = 124
      · exact bad _ (decide_eq_true h2) (by rw [h2]; decide)
      · rw [decide_eq_false h2]
        refine Ev.step (fun k => by rw [flatironref05_Tokens.j3]) ?_
        refine Ev.neg (by decide) ?_
        refine Ev.neg (by decide) ?_
        rw [tokS_blk out _ _ (stop_blk hs hm h h2), wrap_succ i (by omega)]
        exact ih (i + 1) (by omega) (by omega) out (by omega)
/-- A stop, in places 0 and 1. -/
theorem placeS (l : List UInt8) (hl : l.length < 4294967281) (i : Nat) (hi : i < l.length) (hs : stopB l[i] = true)
    (ih : ∀ j, i < j → j ≤ l.length → ∀ (out : List (Nat × List UInt8)), out.length ≤ 2 * j → Ev (fun k => flatironref05_Tokens.l0 k (B l) (out.map s78) 0 (B []) (j : Int)) (resF (tokS out (l.drop j))))
    (out : List (Nat × List UInt8)) (cur : List UInt8) (ho : out.length ≤ 2 * i) (hc : cur.length ≤ i) :
    Ev (fun k => flatironref05_Tokens.l0 k (B l) (out.map s78) 0 (B []) (i : Int)) (resF (tokS out (l.drop i))) ∧ Ev (fun k => flatironref05_Tokens.l0 k (B l) (out.map s78) 1 (B cur) (i : Int)) (resF (V1 cur out (l.drop i))) := by
  have hbt := bt_B l i hi
  constructor
  · refine Ev.step (fun k => by rw [flatironref05_Tokens.l0]) ?_
    refine Ev.pos (by rw [B_size]; omega) ?_
    refine Ev.pos (by omega) ?_
    rw [hbt]
    refine Ev.bind (has_ev _) ?_
    refine Ev.neg (by decide) ?_
    refine Ev.neg (by decide) ?_
    refine Ev.step (fun k => by rw [flatironref05_Tokens.j1]) ?_
    refine Ev.neg (by decide) ?_
    refine Ev.neg (by decide) ?_
    refine Ev.pos hs ?_
    refine Ev.neg (by decide) ?_
    exact stopJ2 l hl i hi hs out (by omega) ih
  · refine Ev.step (fun k => by rw [flatironref05_Tokens.l0]) ?_
    refine Ev.pos (by rw [B_size]; omega) ?_
    refine Ev.pos (by omega) ?_
    rw [hbt]
    refine Ev.bind (has_ev _) ?_
    refine Ev.neg (by decide) ?_
    refine Ev.neg (by decide) ?_
    refine Ev.step (fun k => by rw [flatironref05_Tokens.j1]) ?_
    refine Ev.neg (by decide) ?_
    refine Ev.neg (by decide) ?_
    refine Ev.pos hs ?_
    refine Ev.pos rfl ?_
    refine Ev.pos (by rw [List.length_map]; omega) ?_
    have := stopJ2 l hl i hi hs (out ++ [(0, cur)]) (by simp; omega) ih
    rw [List.map_append] at this
    rw [drop_get l i hi, V1_stop _ _ _ _ hs, ← drop_get l i hi]
    exact this
theorem reader (l : List UInt8) (hl : l.length < 4294967281) : ∀ d i, l.length - i ≤ d → i ≤ l.length → ∀ (out : List (Nat × List UInt8)) (cur : List UInt8), out.length ≤ 2 * i → cur.length ≤ i →
    Ev (fun k => flatironref05_Tokens.l0 k (B l) (out.map s78) 0 (B []) (i : Int)) (resF (tokS out (l.drop i))) ∧ Ev (fun k => flatironref05_Tokens.l0 k (B l) (out.map s78) 1 (B cur) (i : Int)) (resF (V1 cur out (l.drop i)))
      ∧ Ev (fun k => flatironref05_Tokens.l0 k (B l) (out.map s78) 2 (B cur) (i : Int)) (resF (V2 39 cur out (l.drop i))) ∧ Ev (fun k => flatironref05_Tokens.l0 k (B l) (out.map s78) 3 (B cur) (i : Int)) (resF (V2 34 cur out (l.drop i))) := by
  intro d
  induction d with
  | zero =>
    intro i hd hi out cur ho hc
    have hn : l.drop i = [] := List.drop_eq_nil_of_le (by omega)
    rw [hn, tokS_nil, V1_nil, V2_nil, V2_nil]
    refine ⟨?_, ?_, ?_, ?_⟩
    · refine Ev.step (fun k => by rw [flatironref05_Tokens.l0]) ?_
      refine Ev.neg (by rw [B_size]; omega) ?_
      refine Ev.neg (by decide) ?_
      refine Ev.neg (by decide) ?_
      exact Ev.ret _
    · refine Ev.step (fun k => by rw [flatironref05_Tokens.l0]) ?_
      refine Ev.neg (by rw [B_size]; omega) ?_
      refine Ev.neg (by decide) ?_
      refine Ev.pos rfl ?_
      refine Ev.pos (by rw [List.length_map]; omega) ?_
      refine Ev.eq (Ev.ret _) ?_
      simp [resF, s78]
    · refine Ev.step (fun k => by rw [flatironref05_Tokens.l0]) ?_
      refine Ev.neg (by rw [B_size]; omega) ?_
      refine Ev.pos (by decide) ?_
      exact Ev.ret _
    · refine Ev.step (fun k => by rw [flatironref05_Tokens.l0]) ?_
      refine Ev.neg (by rw [B_size]; omega) ?_
      refine Ev.pos (by decide) ?_
      exact Ev.ret _
  | succ d ih =>
    intro i hd hi out cur ho hc
    by_cases hlt : i < l.length
    · have ih' : ∀ j, i < j → j ≤ l.length → _ := fun j h1 h2 => ih j (by omega) h2
      have p2 := place2 l hl i hlt (fun j h1 h2 o c h3 h4 => ⟨(ih' j h1 h2 o c h3 h4).2.1, (ih' j h1 h2 o c h3 h4).2.2.1⟩) out cur ho hc
      have p3 := place3 l hl i hlt (fun j h1 h2 o c h3 h4 => ⟨(ih' j h1 h2 o c h3 h4).2.1, (ih' j h1 h2 o c h3 h4).2.2.2⟩) out cur ho hc
      by_cases hs : stopB l[i] = true
      · have ps := placeS l hl i hlt hs (fun j h1 h2 o h3 => (ih' j h1 h2 o [] h3 (by simp)).1) out cur ho hc
        exact ⟨ps.1, ps.2, p2, p3⟩
      · have pw := fun md hmd cur hc => placeW l hl i hlt hs md hmd (fun j h1 h2 o c h3 h4 => ⟨(ih' j h1 h2 o c h3 h4).2.1, (ih' j h1 h2 o c h3 h4).2.2.1, (ih' j h1 h2 o c h3 h4).2.2.2⟩) out cur ho hc
        refine ⟨?_, pw 1 (.inr rfl) cur hc, p2, p3⟩
        have := pw 0 (.inl rfl) [] (by simp)
        rw [drop_get l i hlt] at this ⊢
        rw [V0_word _ _ _ hs]
        exact this
    · have : l.length - i ≤ d := by omega
      exact ih i this hi out cur ho hc
theorem refTokens_ev (l : List UInt8) (hl : l.length < 4294967281) : Ev (fun k => flatironref05_Tokens.f k (B l)) (resF (tokS [] l)) := by
  refine Ev.congr (fun k => by rw [flatironref05_Tokens.f]) ?_
  have := (reader l hl _ 0 (Nat.le_refl _) (Nat.zero_le _) [] [] (by simp) (by simp)).1
  exact this
end Go.Proofs.YtogbdjboblfokaaDoor.X
