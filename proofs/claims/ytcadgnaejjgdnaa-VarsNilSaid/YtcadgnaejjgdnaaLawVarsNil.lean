/- The row of the law VarsNil: for every input that can be read the call returns true and its arguments read as before; out of the law's contract; no condition. -/
import Derived.Test.YtcadgnaejjgdnaaRows
import Derived.Test.YtcadgnaejjgdnaaHVarsLives
import Derived.Test.YtcadgnaejjgdnaaHRow
import Derived.WalkKit
import Derived.ProofKit
import Derived.OpenShut
import Derived.ShutString
import Derived.ChangeOld
import Derived.Below
import Derived.SizedLaws
import Derived.ChangeArms
namespace Go.Proofs.Ytcadgnaejjgdnaa.varsNil
open Go.ChangeShapes Go.WideShapes Go.ChangeAt Go.RowKit
open Go.ChangeMaps (open_string shut_string)
set_option linter.unusedVariables false
theorem own : ownKnob Try.prog.godebug = none := by kernel_rfl
theorem laidOut : laidOutB Try.prog = true := by kernel_rfl
set_option maxRecDepth 100000 in
/-- A variable, by value: its four cells. -/
theorem var_shape {H : Type} {enc : TypeId × Value → H} {W : World} {base b0 : Nat} {spare : Nat → Bool} {held : Bool} {r : Reach} {v : Value} {d : DataW H} {ps : List MemPlace}
    (hv : Value.okWide Try.prog W r b0 82 v) (h : DataW.Trod enc Try.prog W base spare held 82 v d ps) : ∃ (n t : ByteArray) (s : Bool) (f : Int), v = .agg #[.string n, .string t, .bool s, .int .i64 f] := by
  obtain ⟨cs, rfl, _⟩ := okWide_struct Try.underlying82 hv
  obtain ⟨fuel, hf⟩ := h
  obtain ⟨xs, m, rfl, _, hlen, hxl, hfld⟩ := DataW.trod_struct Try.underlying82 hf
  have hxl4 : xs.length = 4 := hxl
  have e4 : Try.prog.cellsOf 82 = 4 := by kernel_rfl
  have e1 : Try.prog.cellsOf 9 = 1 := by kernel_rfl
  have e2 : Try.prog.cellsOf 4 = 1 := by kernel_rfl
  have e3 : Try.prog.cellsOf 80 = 1 := by kernel_rfl
  have f0 : DataW.trod enc Try.prog W base spare held m 9 (((Value.agg cs).cells.toList.drop 0).take (Try.prog.cellsOf 9)) = xs[0]? := hfld 0 _ rfl
  have f1 : DataW.trod enc Try.prog W base spare held m 9 (((Value.agg cs).cells.toList.drop 1).take (Try.prog.cellsOf 9)) = xs[1]? := hfld 1 _ rfl
  have f2 : DataW.trod enc Try.prog W base spare held m 4 (((Value.agg cs).cells.toList.drop 2).take (Try.prog.cellsOf 4)) = xs[2]? := hfld 2 _ rfl
  have f3 : DataW.trod enc Try.prog W base spare held m 80 (((Value.agg cs).cells.toList.drop 3).take (Try.prog.cellsOf 80)) = xs[3]? := hfld 3 _ rfl
  rw [e4] at hlen
  rw [List.getElem?_eq_getElem (by omega)] at f0 f1 f2 f3
  obtain ⟨n, hn, _⟩ := DataW.trod_string Try.underlying9 f0
  obtain ⟨t, ht, _⟩ := DataW.trod_string Try.underlying9 f1
  obtain ⟨s, hs, _⟩ := DataW.trod_bool Try.underlying4 f2
  obtain ⟨f, hff, _⟩ := DataW.trod_int Try.underlying80 f3
  rw [e1] at hn ht
  rw [e2] at hs
  rw [e3] at hff
  refine ⟨n, t, s, f, ?_⟩
  obtain ⟨l⟩ := cs
  have hl : l.length = 4 := hlen
  match l, hl with
  | [a, b, c, e], _ =>
    simp [Value.cells] at hn ht hs hff
    rw [hn, ht, hs, hff]
set_option maxRecDepth 100000 in
theorem lifted (os : Os) (started : os.Started) (H : Type) (enc : TypeId × Value → H) :
    ReturnsInHanded {} Try.checked os 9 .any (Rows.varsNilSpec.pre6 enc Try.prog Try.f9 Rows.varsNilRow.domain false) (Rows.varsNilSpec.post enc Try.prog Try.f9 false true false false) := by
  refine returnsInHanded_of_change_sized (C := Try.checked) own started (by kernel_rfl) Try.func9
    (ChangeSpec.witness6 (enc := enc) (C := Try.checked) false ⟨#[], #[.agg #[.string ByteArray.empty, .string ByteArray.empty, .bool false, .int .i64 0], .slice none 0 0], []⟩ 8 (by kernel_rfl) (by kernel_rfl) (by kernel_rfl) (by kernel_rfl)) ?_
  intro W base args ds gs before hval0 hW hcnd hsz0 _
  have hval : ∀ (j : Nat) t v, Try.f9.params[j]? = some t → args[j]? = some v → Value.okWide Try.prog W .any base t v := hval0
  have hW' := hW
  obtain ⟨p, q, hA0, hV, rfl, hfz, hnd⟩ := hW
  have hA : DataW.TrodAll enc Try.prog W 0 (fun _ => true) true Try.f9.params.toList args.toList ds p := hA0
  rw [Try.params9] at hA hval
  obtain ⟨v0, vs0, d0, ds0, p0, q0, hargs, rfl, rfl, h0, r0⟩ := trodAll_cons hA
  obtain ⟨v1, vs1, d1, ds1, p1, q1, rfl, rfl, rfl, h1, r1⟩ := trodAll_cons r0
  obtain ⟨rfl, rfl, rfl⟩ := trodAll_nil r1
  obtain rfl : args = #[v0, v1] := by cases args; simp_all
  obtain ⟨rfl, rfl⟩ := trodVars_none hV
  have k0 := h0
  have lt0 : ∀ x ∈ p0, x.block < W.heap.size := by obtain ⟨m, hm⟩ := k0; exact DataW.trod_lt m _ _ _ hm
  have k1 := h1
  have lt1 : ∀ x ∈ p1, x.block < W.heap.size := by obtain ⟨m, hm⟩ := k1; exact DataW.trod_lt m _ _ _ hm
  obtain ⟨n, t, s, f, rfl⟩ := var_shape (hval 0 82 v0 rfl rfl) h0
  obtain ⟨A1, len1, cap1, rfl⟩ := okWide_slice Try.underlying23 (hval 1 23 v1 rfl rfl)
  clear hA0 hval0 hsz0
  refine (X.flatironlaw11_VarsNil.calls n t s f A1 len1 cap1 W).mono fun e W' ⟨he, bel⟩ => ?_
  subst he
  exact ⟨_, rfl, _, _, _, [], _, [], hW', trodAll_mk1 (shut_bool Try.underlying4 _), (trodAll_cons_mk (Below.trod laidOut (by kernel_rfl) (of_decide_eq_true (by kernel_rfl)) k0 bel lt0) (trodAll_cons_mk (Below.trod laidOut (by kernel_rfl) (of_decide_eq_true (by kernel_rfl)) k1 bel lt1) trodAll_mk0)), rfl, bel.frame _, fun h => by cases h⟩
theorem over : Rows.varsNilRow.holds Try.pinned (OpenSpec.ofChange Rows.varsNilSpec) :=
  OpenClaim.holds_of_wide 9 Try.f9 rfl rfl rfl rfl rfl rfl rfl ⟨rfl, rfl, rfl, rfl, rfl⟩ rfl rfl rfl rfl rfl (by kernel_rfl) Try.func9 (by kernel_rfl)
    (of_decide_eq_true (by kernel_rfl)) (by unfold Func.isWrapper; first | (rw [if_pos (by decide +kernel)]; kernel_rfl) | (rw [if_neg (by decide +kernel)]; exact ⟨rfl, rfl⟩))
    (fun os started H enc _ => lifted os started H enc)
theorem proved : Rows.VarsNilSaid := over
#print axioms proved
end Go.Proofs.Ytcadgnaejjgdnaa.varsNil
namespace Go.Proofs.Ytcadgnaejjgdnaa
/-- The row, under a short name, for the claim. -/
theorem varsNil_holds : Rows.VarsNilSaid := varsNil.proved
end Go.Proofs.Ytcadgnaejjgdnaa
