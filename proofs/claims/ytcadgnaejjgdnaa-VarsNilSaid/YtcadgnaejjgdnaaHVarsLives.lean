/- flatironlaw11.lives answers true; VarsNil's own walk. -/
import Derived.Test.YtcadgnaejjgdnaaHVars
namespace Go.Proofs.Ytcadgnaejjgdnaa.X
open Go.Maps Go.WideMaps Go.RowKit Go.Proofs.YtcadgnaejjgdnaaW.PrintWords Go.Proofs.YtcadgnaejjgdnaaW.PrintLast Go.Proofs.YtcadgnaejjgdnaaW.PrintMore
set_option linter.unusedSimpArgs false
set_option linter.unusedVariables false

def vx1 : VarU := ⟨⟨#[88]⟩, ⟨#[49]⟩, false, 3⟩
def vx2 : VarU := ⟨⟨#[88]⟩, ⟨#[50]⟩, false, 2⟩
def kX : Lit := .string [88]
def dX : DataW Unit := .map [(kX, varD vx1)]
theorem put1 : (DataW.map (H := Unit) []).put kX (varD vx1) = dX := by rfl
theorem has0 : Go.Maps.has (DataW.map (H := Unit) []) kX = false := by rfl
theorem has1 : Go.Maps.has dX kX = true := by rfl
theorem at1 : dX.atKey kX (varD zV) = varD vx1 := by rfl
theorem toNe (a : UInt8) : (⟨#[a]⟩ : ByteArray).toList ≠ [] := by rw [ByteArray.toList_eq]; simp

set_option maxRecDepth 100000 in
set_option maxHeartbeats 8000000 in
theorem livesV (w : World) : Calls Try.prog 35 #[] w fun e w' => e = .returned (.bool true) ∧ Below w.heap.size w w' := by
  have set1 : ∀ g m1 m2 w1, Tab g m1 m2 false 0 0 (.map []) (.map []) w1 → Calls Try.prog 47 #[.pointer (some ⟨g, 0, none⟩), .agg #[.string ⟨#[88]⟩, .string ⟨#[49]⟩, .bool false, .int .i64 3]] w1 fun e w' => e = .returned (.int .i64 0) ∧ Tab g m1 m2 false 1 0 dX (.map []) w' ∧ w1.grownBy w' (some m1) := by
    intro g m1 m2 w1 h
    obtain ⟨y, hy, hc⟩ := setT g m1 m2 0 0 false (.map []) (.map []) vx1 w1 (by decide) (toNe 88) (by decide) (by decide) (by decide) h
    have e := has0
    rw [if_neg (by rintro ⟨h, _⟩; rw [show (Lit.string vx1.n.data.toList) = kX from rfl, has0] at h; cases h)] at hc
    exact hc
  have set2 : ∀ g m1 m2 w1, Tab g m1 m2 false 1 0 dX (.map []) w1 → Calls Try.prog 47 #[.pointer (some ⟨g, 0, none⟩), .agg #[.string ⟨#[88]⟩, .string ⟨#[50]⟩, .bool false, .int .i64 2]] w1 fun e w' => e = .returned (.int .i64 0) ∧ Tab g m1 m2 false 2 0 dX (.map []) w' ∧ w1.grownBy w' (some m1) := by
    intro g m1 m2 w1 h
    obtain ⟨y, hy, hc⟩ := setT g m1 m2 1 0 false dX (.map []) vx2 w1 (by decide) (toNe 88) (by decide) (by decide) (by decide) h
    have ey : y = vx1 := (varD_inj (at1.symm.trans hy)).symm
    subst ey
    rw [if_pos ⟨has1, by decide⟩] at hc
    exact hc
  have get1 : ∀ g m1 m2 w1, Tab g m1 m2 false 2 0 dX (.map []) w1 → Calls Try.prog 43 #[.pointer (some ⟨g, 0, none⟩), .string ⟨#[88]⟩] w1 fun e w' => e = .returned (.tuple #[.agg #[.string ⟨#[88]⟩, .string ⟨#[49]⟩, .bool false, .int .i64 3], .bool true]) ∧ Below w1.heap.size w1 w' := by
    intro g m1 m2 w1 h
    refine (getT g m1 m2 2 0 false dX (.map []) ⟨#[88]⟩ w1 (by decide) h).mono ?_
    rintro e w' ⟨y, hy, he, hb⟩
    have ey : y = vx1 := (varD_inj (at1.symm.trans hy)).symm
    subst ey
    exact ⟨he, hb⟩
  have S1 := Aside0.mk set1
  have S2 := Aside0.mk set2
  have G1 := Aside0.mk get1
  clear set1 set2 get1
  go_enter Try.func35, Try.ntmps35
  go_wp2_with (first | (go_at_call 36; refine (newT _).mono ?_; rintro e w1 ⟨g, m1, m2, rfl, hg, hm1, hm2, hT, hb1⟩; have T1 := Aside0.mk hT; have B1 := Aside0.mk hb1; clear hT hb1) | (go_at_call 47; refine (S1.out g m1 m2 _ T1.out).mono ?_; rintro e w2 ⟨rfl, hT2, hg2⟩; have T2 := Aside0.mk hT2; have B2 := Aside0.mk (B1.out.grown hg2 B1.out.size (fun k hk => by injection hk with hk; omega)); clear hT2 hg2 T1) | (go_at_call 47; refine (S2.out g m1 m2 _ T2.out).mono ?_; rintro e w3 ⟨rfl, hT3, hg3⟩; have T3 := Aside0.mk hT3; have B3 := Aside0.mk (B2.out.grown hg3 B2.out.size (fun k hk => by injection hk with hk; omega)); clear hT3 hg3 T2) | (go_at_call 43; refine (G1.out g m1 m2 _ T3.out).mono ?_; rintro e w4 ⟨rfl, hb4⟩; have B4 := Aside0.mk (below_step B3.out hb4); clear hb4))
  go_ret
  exact ⟨rfl, by repeat (first | exact B4.out | apply below_alloc)⟩
set_option maxRecDepth 100000 in
set_option maxHeartbeats 8000000 in
theorem flatironlaw11_VarsNil.calls (n t : ByteArray) (s : Bool) (f : Int) (A : Option Addr) (len c : Nat) (w : World) :
    Calls Try.prog 9 #[.agg #[.string n, .string t, .bool s, .int .i64 f], .slice A len c] w fun e w' => e = .returned (.bool true) ∧ Below w.heap.size w w' := by
  have H0 := trivial
  by_cases h100 : (len : Int) > 100
  · have q : decide ((len : Int) > 100) = true := decide_eq_true h100
    go_enter Try.func9, Try.ntmps9
    go_wp2_with (first | (go_at_call 35; have Hx := H0; clear H0; refine (livesV _).mono ?_; rintro e w1 ⟨rfl, hb1⟩; have H := Aside0.mk (below_step (below_alloc (Below.refl _ w) _) hb1); clear hb1) | (go_at_call 35; refine (livesV _).mono ?_; rintro e w2 ⟨rfl, hb2⟩; replace H := Aside0.mk (below_step H.out hb2); clear hb2))
    go_ret
    exact ⟨rfl, H.out⟩
  · have q : decide ((len : Int) > 100) = false := decide_eq_false h100
    go_enter Try.func9, Try.ntmps9
    go_wp2_with (first | (go_at_call 35; refine (livesV _).mono ?_; rintro e w1 ⟨rfl, hb1⟩; have BK := Aside0.mk (blk_below (blk_new w (.cells #[.string n, .string t, .bool s, .int .i64 f] 82)) hb1); have H := Aside0.mk (below_step (below_alloc (Below.refl _ w) _) hb1); have c0 := blk_cell BK.out 0; have c1 := blk_cell BK.out 1; have c2 := blk_cell BK.out 2; have c3 := blk_cell BK.out 3; clear hb1) | (go_at_call 46; refine (exportNil _ _ _ _ _).mono ?_; rintro e w2 ⟨⟨v, rfl⟩, rfl⟩) | (go_at_call 43; refine (getNil n _).mono ?_; rintro e w3 ⟨rfl, hb3⟩; replace BK := Aside0.mk (blk_alloc (blk_below BK.out hb3) (.cells #[.string ⟨#[]⟩, .string ⟨#[]⟩, .bool false, .int .i64 0] 82)); replace H := Aside0.mk (below_alloc (below_step H.out hb3) (.cells #[.string ⟨#[]⟩, .string ⟨#[]⟩, .bool false, .int .i64 0] 82)); clear c0 c1 c2 c3; have c0 := blk_cell BK.out 0; have c1 := blk_cell BK.out 1; have c2 := blk_cell BK.out 2; have c3 := blk_cell BK.out 3; clear hb3) | (go_at_call 47; refine (setNil n t s f _).mono ?_; rintro e w4 ⟨rfl, hb4⟩; replace BK := Aside0.mk (blk_below BK.out hb4); replace H := Aside0.mk (below_step H.out hb4); clear c0 c1 c2 c3; have c0 := blk_cell BK.out 0; have c1 := blk_cell BK.out 1; have c2 := blk_cell BK.out 2; have c3 := blk_cell BK.out 3; clear hb4) | (go_at_call 48; refine (moreNil n t s f _).mono ?_; rintro e w5 ⟨rfl, hb5⟩; replace BK := Aside0.mk (blk_below BK.out hb5); replace H := Aside0.mk (below_step H.out hb5); clear c0 c1 c2 c3; have c0 := blk_cell BK.out 0; have c1 := blk_cell BK.out 1; have c2 := blk_cell BK.out 2; have c3 := blk_cell BK.out 3; clear hb5) | (go_at_call 49; refine (maybeNil n t s f _).mono ?_; rintro e w6 ⟨rfl, hb6⟩; replace BK := Aside0.mk (blk_below BK.out hb6); replace H := Aside0.mk (below_step H.out hb6); clear c0 c1 c2 c3; have c0 := blk_cell BK.out 0; have c1 := blk_cell BK.out 1; have c2 := blk_cell BK.out 2; have c3 := blk_cell BK.out 3; clear hb6) | (go_at_call 40; refine (allNil _).mono ?_; rintro e w7 ⟨rfl, rfl⟩) | (go_at_call 41; refine (exportsNil _).mono ?_; rintro e w8 ⟨rfl, hb8⟩; replace BK := Aside0.mk (blk_below BK.out hb8); replace H := Aside0.mk (below_step H.out hb8); clear c0 c1 c2 c3; have c0 := blk_cell BK.out 0; have c1 := blk_cell BK.out 1; have c2 := blk_cell BK.out 2; have c3 := blk_cell BK.out 3; clear hb8) | (go_at_call 37; refine (cloneNil _).mono ?_; rintro e w9 ⟨rfl, rfl⟩))
    go_ret
    exact ⟨rfl, H.out⟩
end Go.Proofs.Ytcadgnaejjgdnaa.X
