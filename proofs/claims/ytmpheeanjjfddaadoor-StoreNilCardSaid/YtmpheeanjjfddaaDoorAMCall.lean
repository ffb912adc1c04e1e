/- A call of the small machine is a call of the model: the theorem to use (closed_ok). -/
import Derived.Test.YtmpheeanjjfddaaDoorAMRun
namespace Go.Proofs.YtmpheeanjjfddaaDoor.AM
open Go Go.RowKit
set_option linter.unusedVariables false
set_option linter.unusedSimpArgs false
variable {P : Program} {E : Env} {base : Nat} {w0 : World} {A : Asm}

theorem pad_ok : ∀ n, VRs E (pad [] n) (List.replicate n undef)
  | 0 => VRs_nil
  | n + 1 => by simp only [pad, List.replicate_succ]; exact VRs_cons VR_undef (pad_ok n)
theorem resultA_ok {tm : Tm} {s : St} {tmps : Array Value} {w : World} (F : ResultVar → Sem Value) (hF1 : ∀ t, F (.tmp t) = pure (tmps.getD t undef)) (hF2 : ∀ a t, F (.cell a t) = (do loadVar t (← asAddr (tmps.getD a undef)))) (htm : VRs E tm tmps.toList) (hW : WR E base w0 s.H w) {r : ResultVar} {v : AV} (h : resultA P tm s r = some v) :
    ∃ cv, VR E v cv ∧ (F r).run P w = .ok cv w := by
  have hget : ∀ t, VR E (tm.getD t (.tuple [])) (tmps.getD t undef) := by
    intro t
    have := VRs_getD htm t
    simpa [Array.getD_eq_getD_getElem?, List.getD] using this
  cases r with
  | tmp t =>
    simp only [resultA, Option.some.injEq] at h
    subst h
    exact ⟨_, hget t, by rw [hF1]; rfl⟩
  | cell t ty =>
    simp only [resultA] at h
    split at h
    · rename_i n off hx
      have hv := hget t
      rw [hx] at hv
      simp only [VR] at hv
      obtain ⟨b, N, hG, he⟩ := hv
      obtain ⟨cv, hcv, hr⟩ := loadA_ok hW h hG
      refine ⟨cv, hcv, ?_⟩
      rw [hF2]
      simp only [he, asAddr, Sem.run_bind, Sem.run_pure, Result.andThen_ok, hr]
    · cases h
theorem resultsA_ok {tm : Tm} {s : St} {tmps : Array Value} {w : World} (F : ResultVar → Sem Value) (hF1 : ∀ t, F (.tmp t) = pure (tmps.getD t undef)) (hF2 : ∀ a t, F (.cell a t) = (do loadVar t (← asAddr (tmps.getD a undef)))) (htm : VRs E tm tmps.toList) (hW : WR E base w0 s.H w) : ∀ (l : List ResultVar) (vs : List AV), resultsA P tm s l = some vs →
    ∃ cvs : List Value, VRs E vs cvs ∧ (l.mapM F).run P w = .ok cvs w
  | [], vs, h => by simp only [resultsA, Option.some.injEq] at h; subst h; exact ⟨[], VRs_nil, by simp⟩
  | r :: l, vs, h => by
    simp only [resultsA] at h
    split at h
    · rename_i v as hv has
      cases h
      obtain ⟨cv, h1, h2⟩ := resultA_ok F hF1 hF2 htm hW hv
      obtain ⟨cvs, h3, h4⟩ := resultsA_ok F hF1 hF2 htm hW l as has
      refine ⟨cv :: cvs, VRs_cons h1 h3, ?_⟩
      rw [List.mapM_cons]
      simp only [Sem.run_bind]
      rw [h2]
      simp only [Result.andThen_ok]
      rw [h4]
      rfl
    · cases h
theorem retA_ok {vs : List AV} {cvs : List Value} (h : VRs E vs cvs) : VR E (retA vs) (if hh : cvs.toArray.size = 1 then cvs.toArray[0] else .tuple cvs.toArray) := by
  match vs, h with
  | [], h =>
    simp only [VRs] at h; subst h
    simp only [retA]
    exact ⟨#[], rfl, VRs_nil⟩
  | [v], h =>
    simp only [VRs] at h
    obtain ⟨x, m, rfl, hv, rfl⟩ := h
    simpa [retA] using hv
  | v :: v' :: r, h =>
    have hl := VRs_length _ _ h
    simp only [retA]
    rw [dif_neg (by simp at hl ⊢; omega)]
    simp only [VR]
    exact ⟨_, rfl, by simpa using h⟩
/-- Given functions are calls of the model. -/
def OrcOK (P : Program) (base : Nat) (w0 : World) (orc : Orc) : Prop := ∀ f o, orc f = some o → ∀ args s v s', o args s = some (v, s') → ∀ E w (cargs : Array Value), WR E base w0 s.H w → VRs E args cargs.toList →
  Calls P f cargs w fun e w' => ∃ E' cv, e = .returned cv ∧ E.le E' ∧ VR E' v cv ∧ WR E' base w0 s'.H w'
theorem call_ok (hm : P.follows .mixedOrders = true) {orc : Orc} (horc : OrcOK P base w0 orc) (fuel : Nat) : ∀ d, CallOK P A base w0 (call P A orc fuel d)
  | 0 => by intro f args s v s' h; simp [call] at h
  | d + 1 => by
    intro f args s v s' h E w cargs hW hA hargs
    simp only [call] at h
    split at h
    · rename_i o ho
      exact horc f o ho args s v s' h E w cargs hW hargs
    · split at h
      · rename_i fn hf
        split at h
        · rename_i c hb
          have hal := VRs_length _ _ hargs
          have hal' : cargs.size = args.length := by simpa using hal
          have hr : Rel A E base w0 ⟨args ++ pad [] (fn.ntmps - args.length), s⟩ { tmps := cargs ++ Array.replicate (fn.ntmps - cargs.size) undef, defers := [] } w := by
            refine ⟨?_, rfl, hW, hA⟩
            unfold TR
            simp only [Array.toList_append, Array.toList_replicate, hal']
            exact VRs_append hargs (pad_ok _)
          have fin : ∀ x g, (x = .normal ∨ x = .ret) → exec P A (call P A orc fuel d) fuel c ⟨args ++ pad [] (fn.ntmps - args.length), s⟩ = some (x, g) → (resultsA P g.tm g.s fn.results.toList).map (fun l => (retA l, g.s)) = some (v, s') →
              Calls P f cargs w fun e w' => ∃ E' cv, e = .returned cv ∧ E.le E' ∧ VR E' v cv ∧ WR E' base w0 s'.H w' := by
            intro x g hx he hres
            obtain ⟨l, hl, heq⟩ := Option.map_eq_some_iff.1 hres
            cases heq
            refine calls_of_wp hf hb (wp_mono (exec_ok hm (call_ok hm horc fuel d) fuel c _ x g he E _ w hr) ?_)
            rintro e a' w' ⟨rfl, E', hle, htm, hd, hW', _⟩
            obtain ⟨F, hF1, hF2, hres⟩ : ∃ F : ResultVar → Sem Value, (∀ t, F (.tmp t) = pure (a'.tmps.getD t undef)) ∧ (∀ b t, F (.cell b t) = (do loadVar t (← asAddr (a'.tmps.getD b undef)))) ∧
                results fn a'.tmps = (do let vs ← fn.results.mapM F; pure (if hh : vs.size = 1 then vs[0] else .tuple vs)) := by
              refine ⟨_, ?_, ?_, rfl⟩
              · intro t; rfl
              · intro b t; rfl
            obtain ⟨cvs, hcvs, hrun⟩ := resultsA_ok (P := P) F hF1 hF2 htm hW' _ _ hl
            have hr2 : (results fn a'.tmps).run P w' = .ok (if hh : cvs.toArray.size = 1 then cvs.toArray[0] else .tuple cvs.toArray) w' := by
              rw [hres]
              simp only [Sem.run_bind, Array.mapM_eq_mapM_toList, Sem.run_map, hrun, Result.andThen_ok, Sem.run_pure]
            rcases hx with rfl | rfl
            · exact ⟨hd, _, hr2, E', _, rfl, hle, retA_ok hcvs, hW'⟩
            · exact ⟨hd, _, hr2, E', _, rfl, hle, retA_ok hcvs, hW'⟩
          split at h
          · rename_i g he; exact fin _ g (.inl rfl) he h
          · rename_i g he; exact fin _ g (.inr rfl) he h
          · cases h
        · cases h
      · cases h
/-- The empty heap, in any world. -/
theorem WR_empty (r : Nat → ByteArray) (w : World) : WR ⟨fun _ => none, r⟩ w.heap.size w [] w :=
  ⟨Below.refl _ _, Nat.le_refl _, fun n o b N h => by simp [hget] at h, fun n _ => rfl, fun n m o p b N M h => by simp [hget] at h⟩
/-- A call whose arguments hold no address (texts that are not known are handed on as they are): what the small machine answers is answered, and nothing that was there is turned. -/
theorem closed_ok (hm : P.follows .mixedOrders = true) {orc : Orc} {fuel d : Nat} {f : FuncId} {args : List AV} {nx : Nat} {v : AV} (h : (call P A orc fuel d f args ⟨[], nx⟩).map (·.1) = some v)
    (r : Nat → ByteArray) (hA : AsmOK r A) (w : World) (horc : OrcOK P w.heap.size w orc) (cargs : Array Value) (hargs : VRs ⟨fun _ => none, r⟩ args cargs.toList) :
    Calls P f cargs w fun e w' => ∃ E' cv, e = .returned cv ∧ E'.r = r ∧ VR E' v cv ∧ Below w.heap.size w w' := by
  obtain ⟨x, hx, rfl⟩ := Option.map_eq_some_iff.1 h
  obtain ⟨v, s'⟩ := x
  refine (call_ok hm horc fuel d f args ⟨[], nx⟩ v s' hx _ w cargs (WR_empty r w) hA hargs).mono ?_
  rintro e w' ⟨E', cv, he, hle, hv, hW⟩
  exact ⟨E', cv, he, hle.2, hv, hW.below⟩
theorem noAsm (r : Nat → ByteArray) : AsmOK r [] := fun _ _ _ _ h => by cases h
theorem noOrc (P : Program) (w : World) : OrcOK P w.heap.size w (fun _ => none) := fun f o h => by cases h
end Go.Proofs.YtmpheeanjjfddaaDoor.AM
