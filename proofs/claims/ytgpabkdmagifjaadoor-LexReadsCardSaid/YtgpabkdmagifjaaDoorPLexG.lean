/- The reference's has, mark; plain Lean. -/
import Derived.Test.YtgpabkdmagifjaaDoorPLexF
namespace Go.Proofs.YtgpabkdmagifjaaDoor.X
open Go.RowKit Go.Proofs.YtgpabkdmagifjaaDoorW.PrintWords Go.Proofs.YtgpabkdmagifjaaDoorW.PrintLast Go.Proofs.YtgpabkdmagifjaaDoorW.PrintMore Go.Proofs.YtgpabkdmagifjaaDoor.XW05
set_option linter.unusedSimpArgs false
set_option linter.unusedVariables false

theorem has_loop (S : List UInt8) (b : UInt8) (hS : S.length < 1000) : ∀ i, i ≤ S.length → Ev (fun k => flatironref05_has.l0 k (B S) (b.toNat : Int) (i : Int)) ((S.drop i).contains b) := by
  refine upto_ind ?_ ?_
  · refine Ev.step (fun k => by rw [flatironref05_has.l0]) ?_
    refine Ev.neg (by rw [B_size]; omega) ?_
    rw [List.drop_length]
    exact Ev.ret _
  · intro i hi ih
    rw [← wrap_succ i (by omega)] at ih
    refine Ev.step (fun k => by rw [flatironref05_has.l0]) ?_
    refine Ev.pos (by rw [B_size]; omega) ?_
    refine Ev.pos (by omega) ?_
    rw [drop_get S i hi, List.contains_cons]
    refine Ev.iff (show (bt (B S) (i : Int) = (b.toNat : Int)) = (S[i] = b) by rw [bt_B S i hi]; exact u8_toNat_eq _ _) ?_ ?_
    · intro h
      refine Ev.eq (Ev.ret _) ?_
      rw [h]; simp
    · intro h
      refine Ev.eq ih ?_
      rw [show (b == S[i]) = false by rw [beq_eq_false_iff_ne]; exact fun e => h e.symm, Bool.false_or]
theorem has_ev (b : UInt8) : Ev (fun k => flatironref05_has.f k (⟨#[32, 9, 10, 59, 38, 124, 60, 62]⟩ : ByteArray) (b.toNat : Int)) (stopB b) := by
  refine Ev.congr (fun k => by rw [flatironref05_has.f]) ?_
  exact has_loop [32, 9, 10, 59, 38, 124, 60, 62] b (by decide) 0 (by decide)
/-- The reference's longest mark, from the place i on, with the best so far. -/
def refm (T : List (List UInt8)) (l : List UInt8) (i best : Nat) : Nat :=
  if h : i < T.length then (if T[i].isPrefixOf l = true ∧ (best = 0 ∨ (T.getD (best - 1) []).length < T[i].length) then refm T l (i + 1) (i + 1) else refm T l (i + 1) best) else best
  termination_by T.length - i
theorem refm_end (T : List (List UInt8)) (l : List UInt8) (i best : Nat) (h : T.length ≤ i) : refm T l i best = best := by rw [refm.eq_def, dif_neg (by omega)]
theorem refm_next (T : List (List UInt8)) (l : List UInt8) (i best : Nat) (h : i < T.length) : refm T l i best = if T[i].isPrefixOf l = true ∧ (best = 0 ∨ (T.getD (best - 1) []).length < T[i].length) then refm T l (i + 1) (i + 1) else refm T l (i + 1) best := by
  conv => lhs; rw [refm.eq_def, dif_pos h]
def marksR : List (List UInt8) := [[59], [38, 38], [124, 124], [62], [62, 62], [60]]
def stepM (p : Bool) (n i best : Nat) : Nat := if p = true ∧ (best = 0 ∨ (marksR.getD (best - 1) []).length < n) then i + 1 else best
theorem refm_step (l : List UInt8) (i best : Nat) (h : i < marksR.length) : refm marksR l i best = refm marksR l (i + 1) (stepM (marksR[i].isPrefixOf l) marksR[i].length i best) := by
  rw [refm_next _ _ _ _ h]
  unfold stepM
  split <;> rfl
theorem refm_eq (l : List UInt8) : refm marksR l 0 0 = (match markS l with | some (k, _, _) => k | none => 0) := by
  rw [refm_step l 0 _ (by decide), refm_step l 1 _ (by decide), refm_step l 2 _ (by decide), refm_step l 3 _ (by decide), refm_step l 4 _ (by decide), refm_step l 5 _ (by decide), refm_end _ _ 6 _ (by decide)]
  cases l with
  | nil => rfl
  | cons b m =>
    by_cases h59 : b = 59
    · subst h59; cases m <;> rfl
    · by_cases h60 : b = 60
      · subst h60; cases m <;> rfl
      · by_cases h62 : b = 62
        · subst h62
          cases m with
          | nil => rfl
          | cons c r =>
            by_cases hc : c = 62
            · subst hc; rfl
            · have e : ((62 : UInt8) == c) = false := by rw [beq_eq_false_iff_ne]; exact fun h => hc h.symm
              simp [marksR, List.isPrefixOf, e, hc, markS, stepM]
        · by_cases h38 : b = 38
          · subst h38
            cases m with
            | nil => rfl
            | cons c r =>
              by_cases hc : c = 38
              · subst hc; rfl
              · have e : ((38 : UInt8) == c) = false := by rw [beq_eq_false_iff_ne]; exact fun h => hc h.symm
                simp [marksR, List.isPrefixOf, e, hc, markS, stepM]
          · by_cases h124 : b = 124
            · subst h124
              cases m with
              | nil => rfl
              | cons c r =>
                by_cases hc : c = 124
                · subst hc; rfl
                · have e : ((124 : UInt8) == c) = false := by rw [beq_eq_false_iff_ne]; exact fun h => hc h.symm
                  simp [marksR, List.isPrefixOf, e, hc, markS, stepM]
            · rw [markS_none b m h38 h124 h62 h60 h59]
              have n : ∀ x : UInt8, ¬ b = x → (x == b) = false := fun x h => by rw [beq_eq_false_iff_ne]; exact fun e => h e.symm
              simp [marksR, List.isPrefixOf, n _ h38, n _ h124, n _ h62, n _ h60, n _ h59, stepM]
theorem prefix_take (p l : List UInt8) : (p.isPrefixOf l = true) ↔ (p.length ≤ l.length ∧ l.take p.length = p) := by
  rw [List.isPrefixOf_iff_prefix]
  constructor
  · intro h
    exact ⟨h.length_le, (List.prefix_iff_eq_take.1 h).symm⟩
  · rintro ⟨_, h⟩
    exact List.prefix_iff_eq_take.2 h.symm
theorem refmark_loop (l : List UInt8) (hl : l.length < 4294967281) : ∀ i, i ≤ marksR.length → ∀ best, best ≤ marksR.length → Ev (fun k => flatironref05_mark.l0 k (B l) (marksR.map B) (best : Int) (i : Int)) ((refm marksR l i best : Nat) : Int) := by
  refine upto_ind ?_ ?_
  · intro best hb
    refine Ev.step (fun k => by rw [flatironref05_mark.l0]) ?_
    refine Ev.neg (by simp) ?_
    rw [refm_end _ _ _ _ (Nat.le_refl _)]
    exact Ev.ret _
  · intro i hi ih best hb
    have hi6 : i < 6 := hi
    have hb6 : best ≤ 6 := hb
    have r : rdOf ByteArray.empty (marksR.map B) (i : Int) = B (marksR[i]'hi) := by rw [rdOf_get _ _ i (by simpa using hi)]; simp
    obtain ⟨T, hT⟩ : ∃ T, marksR[i]'hi = T := ⟨_, rfl⟩
    have hp := prefix_take T l
    have nx := refm_next marksR l i best hi
    rw [hT] at r nx
    refine Ev.step (fun k => by rw [flatironref05_mark.l0]) ?_
    rw [r, wrap_succ i (by omega), nx]
    refine Ev.pos (by simp; exact hi) ?_
    refine Ev.pos (by omega) ?_
    by_cases c1 : T.length ≤ l.length
    · refine Ev.pos (by rw [B_size, B_size]; omega) ?_
      refine Ev.pos (by omega) ?_
      refine Ev.pos (by rw [B_size, B_size]; omega) ?_
      have ex : (B l).extract 0 (((B T).size : Int)).toNat = B (l.take T.length) := by
        rw [show (((B T).size : Int)).toNat = T.length by rw [B_size]; rfl, B_extract]; simp
      rw [ex]
      refine Ev.iff (show ((B (l.take T.length)).toList = (B T).toList) = (l.take T.length = T) by rw [B_toList, B_toList]) ?_ ?_
      · intro h
        have hpt := hp.2 ⟨c1, h⟩
        refine Ev.iff (show ((best : Int) = 0) = (best = 0) from propext (by omega)) ?_ ?_
        · intro h0
          rw [if_pos ⟨hpt, .inl h0⟩]
          exact ih (i + 1) (by show i + 1 ≤ 6; omega)
        · intro h0
          have rb : rdOf ByteArray.empty (marksR.map B) ((best - 1 : Nat) : Int) = B (marksR.getD (best - 1) []) := by
            have hlt : best - 1 < marksR.length := by show best - 1 < 6; omega
            rw [rdOf_get _ _ (best - 1) (by simpa using hlt), List.getD_eq_getElem?_getD, List.getElem?_eq_getElem hlt]; simp
          rw [wrap_pred best (by omega) (by omega), rb]
          refine Ev.pos (by omega) ?_
          refine Ev.pos (by simp only [List.length_map]; show ((best - 1 : Nat) : Int) < ((6 : Nat) : Int); omega) ?_
          refine Ev.iff (show (((B T).size : Int) > ((B (marksR.getD (best - 1) [])).size : Int)) = ((marksR.getD (best - 1) []).length < T.length) by rw [B_size, B_size]; exact propext (by omega)) ?_ ?_
          · intro h2
            rw [if_pos ⟨hpt, .inr h2⟩]
            exact ih (i + 1) (by show i + 1 ≤ 6; omega)
          · intro h2
            rw [if_neg (fun h => h.2.elim h0 h2)]
            exact ih best hb
      · intro h
        rw [if_neg (fun h' => h (hp.1 h'.1).2)]
        exact ih best hb
    · refine Ev.neg (by rw [B_size, B_size]; omega) ?_
      rw [if_neg (fun h => c1 (hp.1 h.1).1)]
      exact ih best hb
theorem refmark_ev (l : List UInt8) (hl : l.length < 4294967281) : Ev (fun k => flatironref05_mark.f k (B l)) ((match markS l with | some (k, _, _) => (k : Int) | none => 0)) := by
  refine Ev.congr (fun k => by rw [flatironref05_mark.f]) ?_
  have hm : flatironref05_Marks.f = some (marksR.map B) := by unfold flatironref05_Marks.f; rfl
  refine Ev.bind (Ev.of hm) ?_
  refine Ev.eq (refmark_loop l hl 0 (by decide) 0 (by decide)) ?_
  rw [refm_eq]
  cases markS l <;> rfl
end Go.Proofs.YtgpabkdmagifjaaDoor.X
