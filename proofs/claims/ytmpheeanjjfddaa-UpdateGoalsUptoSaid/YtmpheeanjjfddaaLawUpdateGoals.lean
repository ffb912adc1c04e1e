/- The row of the law UpdateGoals, second form: where what it reads is of the bulk that the statement names the call returns true and its arguments read as before. -/
import Derived.Test.YtmpheeanjjfddaaRows
import Derived.Test.YtmpheeanjjfddaaULaw2
import Derived.Test.YtmpheeanjjfddaaSRead
import Derived.WalkKit
import Derived.ProofKit
import Derived.OpenShut
import Derived.ShutString
import Derived.ChangeOld
import Derived.Below
import Derived.SizedLaws
import Derived.ChangeArms
import Derived.HandedShaped
import Derived.Shelf.Vars
import Derived.Deep.DeepHandedRow
import Derived.Lib.LaidTab
namespace Go.Proofs.Ytmpheeanjjfddaa.updateGoals
open Go.ChangeShapes Go.WideShapes Go.ChangeAt Go.RowKit
open Go.Proofs.Ytmpheeanjjfddaa.S Go.Proofs.Ytmpheeanjjfddaa.SM
set_option linter.unusedVariables false
set_option maxRecDepth 100000
/-! what it reads -/
section
variable {H : Type} {enc : TypeId × Value → H} {W : World} {base : Nat} {spare : Nat → Bool} {held : Bool}
theorem strs_rd : Rd enc W base spare held 23 (FSl false 1 FStr) := rd_slice false Try.underlying23 (by kernel_rfl) (by decide) (fun _ => rfl) (rd_str Try.underlying9)
def FItem : List V → Nat → Prop := Parts [FStr, FSl false 1 FStr, FSl false 1 FStr, FBool, FBool, FBool, FInt .i64, FBool, FBool]
theorem item_rd : Rd enc W base spare held 48 FItem := by
  refine rd_struct Try.underlying48 (by kernel_rfl) ?_
  exact ⟨rfl, rd_str Try.underlying9, by kernel_rfl, strs_rd, by kernel_rfl, strs_rd, by kernel_rfl, rd_bool Try.underlying4, by kernel_rfl, rd_bool Try.underlying4, by kernel_rfl, rd_bool Try.underlying4, by kernel_rfl, rd_int Try.underlying3, by kernel_rfl, rd_bool Try.underlying4, by kernel_rfl, rd_bool Try.underlying4, trivial⟩
theorem items_rd : Rd enc W base spare held 22 (FSl true 9 FItem) := rd_slice true Try.underlying22 (by kernel_rfl) (by decide) (fun h => by cases h) item_rd
theorem strs_of {vs : List V} {k : Nat} (h : FSl false 1 FStr vs k) : ∃ l : List Bs, vs = [strs l] ∧ l.length ≤ k := by
  obtain ⟨L, rfl, hL, rfl⟩ := h
  have : ∃ l : List Bs, L.map (fun p => elV false p.1) = l.map V.str ∧ l.length = L.length := by
    induction L with
    | nil => exact ⟨[], rfl, rfl⟩
    | cons p r ih =>
      obtain ⟨l, h1, h2⟩ := ih (fun q hq => hL q (List.mem_cons_of_mem _ hq))
      obtain ⟨s, hs, _⟩ := hL p (by simp)
      exact ⟨s :: l, by rw [List.map_cons, List.map_cons, h1, hs]; rfl, by simp [h2]⟩
  obtain ⟨l, h1, h2⟩ := this
  exact ⟨l, by rw [h1], by omega⟩
theorem item_of {vs : List V} {k : Nat} (h : FItem vs k) : ∃ x : AI, V.agg vs = aiV x ∧ wtA x ≤ k + 1 := by
  obtain ⟨_, _, _, _, ⟨s, rfl, rfl⟩, ⟨_, _, _, _, h2, ⟨_, _, _, _, h3, ⟨_, _, _, _, ⟨b4, rfl⟩, ⟨_, _, _, _, ⟨b5, rfl⟩, ⟨_, _, _, _, ⟨b6, rfl⟩, ⟨_, _, _, _, ⟨n7, rfl, _⟩, ⟨_, _, _, _, ⟨b8, rfl⟩, ⟨_, _, _, _, ⟨b9, rfl⟩, ⟨rfl, rfl⟩, rfl, rfl⟩, rfl, rfl⟩, rfl, rfl⟩, rfl, rfl⟩, rfl, rfl⟩, rfl, rfl⟩, rfl, rfl⟩, rfl, rfl⟩, rfl, rfl⟩ := h
  obtain ⟨l2, rfl, q2⟩ := strs_of h2
  obtain ⟨l3, rfl, q3⟩ := strs_of h3
  exact ⟨⟨s, l2, l3, b4, b5, b6, n7, b8, b9⟩, rfl, by show 1 + l2.length + l3.length ≤ _; omega⟩
theorem items_of {vs : List V} {k : Nat} (h : FSl true 9 FItem vs k) : ∃ l : List AI, vs = [.vsl 9 (l.map aiV)] ∧ l.length ≤ k ∧ sumW l ≤ k + l.length := by
  obtain ⟨L, rfl, hL, rfl⟩ := h
  have : ∃ l : List AI, L.map (fun p => elV true p.1) = l.map aiV ∧ l.length = L.length ∧ sumW l ≤ (L.map (·.2)).sum + L.length := by
    induction L with
    | nil => exact ⟨[], rfl, rfl, by simp [sumW]⟩
    | cons p r ih =>
      obtain ⟨l, h1, h2, h3⟩ := ih (fun q hq => hL q (List.mem_cons_of_mem _ hq))
      obtain ⟨x, hx, hw⟩ := item_of (hL p (by simp))
      refine ⟨x :: l, by rw [List.map_cons, List.map_cons, h1]; show V.agg p.1 :: _ = _; rw [hx], by simp [h2], ?_⟩
      have : sumW (x :: l) = wtA x + sumW l := by simp [sumW]
      simp only [List.map_cons, List.sum_cons, List.length_cons]
      omega
  obtain ⟨l, h1, h2, h3⟩ := this
  exact ⟨l, by rw [h1], by omega, by omega⟩
end
theorem laidOut : laidOutB Try.prog = true := by kernel_rfl
theorem own : ownKnob Try.prog.godebug = none := by kernel_rfl
noncomputable def laidWorld (os : Os) : World := World.holding Try.prog os ⟨#[], #[], []⟩
theorem laid_met (os : Os) : laidMet Try.prog Rows.updateGoalsUptoRow.laid ((laidWorld os).forCall (fun _ _ => 0) ⟨#[], #[.slice none 0 0, .slice none 0 0], []⟩).memory :=
  laidMet_of_run' 8 (by kernel_rfl) (by kernel_rfl)
theorem reads (os : Os) {H : Type} (enc : TypeId × Value → H) : ∃ places, DataW.whole enc Try.prog ((laidWorld os).forCall (fun _ _ => 0) ⟨#[], #[.slice none 0 0, .slice none 0 0], []⟩).memory Try.f3.params.toList Rows.updateGoalsSpec.vars false #[Value.slice none 0 0, Value.slice none 0 0].toList 8 = some ([.nil, .nil], [], places) :=
  ⟨[], by kernel_rfl⟩
set_option maxRecDepth 100000 in
theorem lifted (os : Os) (started : os.Started) (H : Type) (enc : TypeId × Value → H) (F : Stop.Interp) :
    ReturnsInHanded {} Try.checked os 3 .any ((Rows.OpenSpec.upto Rows.updateGoalsSpec).preRow enc Try.prog Try.f3 Rows.updateGoalsUptoRow.domain false Rows.updateGoalsUptoRow.laid) (((Rows.OpenSpec.upto Rows.updateGoalsSpec).at F).post enc Try.prog Try.f3 false true false false) := by
  obtain ⟨places, hx⟩ := reads os enc
  refine returnsInHanded_of_row (C := Try.checked) (s := Rows.OpenSpec.upto Rows.updateGoalsSpec) own started (by kernel_rfl) Try.func3
    (witness_row_at (enc := enc) (C := Try.checked) false (laidWorld os) #[.slice none 0 0, .slice none 0 0] rfl (by kernel_rfl) (by kernel_rfl) (by kernel_rfl)
      (OpenSpec.preRow_of_cond 8 hx (by kernel_rfl) (fun k hk => by cases hk; kernel_rfl) (by kernel_rfl) (laid_met os))) ?_
  intro W base args ds gs before hval0 hW _ hcond hsz0 _ hsh _
  have hk : Rows.uptoSmall H (ds ++ gs) = true := hcond _ rfl
  have hval : ∀ (j : Nat) t v, Try.f3.params[j]? = some t → args[j]? = some v → Value.okWide Try.prog W .any base t v := hval0
  have hW' := hW
  obtain ⟨p, q, hA0, hV, rfl, hfz, hnd⟩ := hW
  have hA : DataW.TrodAll enc Try.prog W 0 (fun _ => true) true Try.f3.params.toList args.toList ds p := hA0
  rw [Try.params3] at hA hval
  obtain ⟨v0, vs0, d0, ds0, p0, q0, hargs, rfl, rfl, h0, r0⟩ := trodAll_cons hA
  obtain ⟨v1, vs1, d1, ds1, p1, q1, rfl, rfl, rfl, h1, r1⟩ := trodAll_cons r0
  obtain ⟨rfl, rfl, rfl⟩ := trodAll_nil r1
  obtain rfl : args = #[v0, v1] := by cases args; simp_all
  obtain ⟨rfl, rfl⟩ := trodVars_none hV
  have k0 := h0
  have k1 := h1
  have lt0 : ∀ x ∈ p0, x.block < W.heap.size := by obtain ⟨m, hm⟩ := k0; exact DataW.trod_lt m _ _ _ hm
  have lt1 : ∀ x ∈ p1, x.block < W.heap.size := by obtain ⟨m, hm⟩ := k1; exact DataW.trod_lt m _ _ _ hm
  obtain ⟨A0, len0, cap0, rfl⟩ := okWide_slice Try.underlying22 (hval 0 22 v0 rfl rfl)
  obtain ⟨A1, len1, cap1, rfl⟩ := okWide_slice Try.underlying23 (hval 1 23 v1 rfl rfl)
  obtain ⟨m0, g0⟩ := h0
  obtain ⟨m1, g1⟩ := h1
  obtain ⟨vs0, c0, a0, _, b0, e0⟩ := items_rd _ _ _ g0
  obtain ⟨vs1, c1, a1, _, b1, e1⟩ := strs_rd _ _ _ g1
  obtain ⟨l, rfl, w1, w2⟩ := items_of b0
  obtain ⟨gs, rfl, w3⟩ := strs_of b1
  have hb : l.length ≤ 4294967295 ∧ gs.length + sumW l ≤ 4294967295 := by
    have h := of_decide_eq_true hk
    simp only [List.cons_append, List.nil_append, Rows.uptoBulkAll] at h e0 e1
    omega
  clear hA0 hval0 hsz0
  refine (enter_row (R := fun cv => cv = .bool true) (law_spec l gs hb.1 hb.2) (VRs_append a0 a1) (fun r J hq => ⟨_, hq.1, fun E cv h => by simpa only [VR] using h⟩)).mono fun e W' ⟨he, bel⟩ => ?_
  obtain ⟨cv, rfl, rfl⟩ := he
  exact ⟨_, rfl, _, _, _, [], _, [], hW', trodAll_mk1 (shut_bool Try.underlying4 _), (trodAll_cons_mk (Below.trod laidOut (by kernel_rfl) (of_decide_eq_true (by kernel_rfl)) k0 bel lt0) (trodAll_cons_mk (Below.trod laidOut (by kernel_rfl) (of_decide_eq_true (by kernel_rfl)) k1 bel lt1) trodAll_mk0)), rfl, bel.frame _, fun h => by cases h⟩
theorem said : Rows.UpdateGoalsUptoSaid :=
  OpenClaim.holds_of_cond 3 Try.f3 rfl rfl rfl rfl rfl rfl rfl ⟨rfl, rfl, rfl, rfl, rfl⟩ rfl rfl rfl rfl rfl (by kernel_rfl) Try.func3 (by kernel_rfl)
    (of_decide_eq_true (by kernel_rfl)) (by unfold Func.isWrapper; first | (rw [if_pos (by decide +kernel)]; kernel_rfl) | (rw [if_neg (by decide +kernel)]; exact ⟨rfl, rfl⟩))
    (fun os started H enc _ F => by rw [OpenClaim.pre_eq_preRow]; exact lifted os started H enc F)
#print axioms said
end Go.Proofs.Ytmpheeanjjfddaa.updateGoals
namespace Go.Proofs.Ytmpheeanjjfddaa
/-- The row, under a short name, for the claim. -/
theorem updateGoals_holds : Rows.UpdateGoalsUptoSaid := updateGoals.said
end Go.Proofs.Ytmpheeanjjfddaa
