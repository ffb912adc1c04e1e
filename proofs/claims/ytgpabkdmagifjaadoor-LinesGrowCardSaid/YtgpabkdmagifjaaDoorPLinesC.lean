/- The reference's Rows and bare say the plain ones; how a text of parts grows; plain Lean. -/
import Derived.Test.YtgpabkdmagifjaaDoorPLinesB
namespace Go.Proofs.YtgpabkdmagifjaaDoor.X
open Go.RowKit Go.Proofs.YtgpabkdmagifjaaDoorW.PrintWords Go.Proofs.YtgpabkdmagifjaaDoorW.PrintLast Go.Proofs.YtgpabkdmagifjaaDoorW.PrintMore Go.Proofs.YtgpabkdmagifjaaDoor.XL08 Go.Proofs.YtgpabkdmagifjaaDoor.XT08
set_option linter.unusedSimpArgs false
set_option linter.unusedVariables false

theorem numB (b : UInt8) (n : Nat) (h : n < 256) : (((b.toNat : Int)) = (n : Int)) = (b = UInt8.ofNat n) := by first | exact u8_num b n h | exact propext (u8_num b n h)
theorem ext1B (l : List UInt8) (i : Nat) (h : i < l.length) : (B l).extract (i : Int).toNat (((i + 1 : Nat) : Int)).toNat = B [l[i]'h] := by
  rw [B_extract]; congr 1; exact one_at l i h
theorem refRows_ev (l : List UInt8) (hl : l.length < 4294967280) : Ev (fun k => flatironref08_Rows.f k (B l)) ((rowA [] l).map B) := by
  have main : ∀ i, i ≤ l.length → ∀ (pre : List (List UInt8)) (cur : List UInt8), pre.length ≤ i → cur.length ≤ i → Ev (fun k => flatironref08_Rows.l0 k (B l) ((pre ++ [cur]).map B) (i : Int)) ((pre ++ rowA cur (l.drop i)).map B) := by
    refine upto_ind ?_ ?_
    · intro pre cur _ _
      refine Ev.step (fun k => by rw [flatironref08_Rows.l0]) ?_
      refine Ev.neg (by rw [B_size]; omega) ?_
      rw [List.drop_length, rowA_nil]
      exact Ev.ret _
    · intro i hi ih pre cur hp hc
      refine Ev.step (fun k => by rw [flatironref08_Rows.l0]) ?_
      rw [bt_B l i hi, wrap_succ i (by omega), drop_get l i hi, rowA_cons]
      have hlen : ((pre ++ [cur]).map B).length = pre.length + 1 := by simp
      have w1 : wrap64 ((((pre ++ [cur]).map B).length : Int) - 1) = ((pre.length : Nat) : Int) := by
        rw [hlen]; exact wrap_pred (pre.length + 1) (by omega) (by omega)
      rw [w1]
      have r : rdOf ByteArray.empty ((pre ++ [cur]).map B) ((pre.length : Nat) : Int) = B cur := by
        rw [rdOf_get _ _ pre.length (by rw [hlen]; omega)]; simp
      rw [r]
      refine Ev.pos (by rw [B_size]; omega) ?_
      refine Ev.pos (by omega) ?_
      refine Ev.iff (show (((l[i].toNat : Int)) = 10) = (l[i] = 10) from numB _ 10 (by decide)) ?_ ?_
      · intro h
        rw [if_pos h]
        refine Ev.pos (by rw [hlen]; omega) ?_
        have := ih (pre ++ [cur]) [] (by simp; omega) (by simp)
        rw [List.map_append, List.append_assoc] at this
        exact this
      · intro h
        rw [if_neg h]
        refine Ev.pos (by omega) ?_
        refine Ev.pos (by rw [hlen]; omega) ?_
        refine Ev.pos (by omega) ?_
        refine Ev.pos (by rw [B_size]; omega) ?_
        refine Ev.pos (by rw [B_size]; omega) ?_
        rw [ext1B l i hi, B_append]
        have e : ((pre ++ [cur]).map B).set (((pre.length : Nat) : Int)).toNat (B (cur ++ [l[i]])) = (pre ++ [cur ++ [l[i]]]).map B := by
          rw [show (((pre.length : Nat) : Int)).toNat = (pre.map B).length by simp, List.map_append, List.set_append_right _ _ (Nat.le_refl _)]
          simp
        rw [e]
        exact ih pre (cur ++ [l[i]]) (by omega) (by simp; omega)
  refine Ev.congr (fun k => by rw [flatironref08_Rows.f]) ?_
  have := main 0 (Nat.zero_le _) [] [] (by simp) (by simp)
  exact this
theorem refBare_ev (l : List UInt8) (hl : l.length < 4294967280) : Ev (fun k => flatironref08_bare.f k (B l)) (B (bareA l 0 [])) := by
  have main : ∀ d i acc, l.length - i ≤ d → i ≤ l.length → (∀ (h : i < l.length) (h0 : 0 < i), l[i - 1]'(by omega) = 92 → ¬ l[i] = 35) → acc.length ≤ i → Ev (fun k => flatironref08_bare.l0 k (B l) (B acc) (i : Int)) (B (bareA l i acc)) := by
    intro d
    induction d using Nat.strongRecOn with
    | ind d IH =>
      intro i acc hd hi hP ha
      by_cases hlt : i < l.length
      · have one : ∀ (j : Nat) (hj : j < l.length) (a : List UInt8), a.length ≤ j → ¬ l[j] = 35 → Ev (fun k => flatironref08_bare.l0 k (B l) (B (a ++ [l[j]])) ((j + 1 : Nat) : Int)) (B (bareA l (j + 1) (a ++ [l[j]]))) → Ev (fun k => flatironref08_bare.l0 k (B l) (B a) (j : Int)) (B (bareA l (j + 1) (a ++ [l[j]]))) := by
          intro j hj a haj h35 hnx
          refine Ev.step (fun k => by rw [flatironref08_bare.l0]) ?_
          rw [bt_B l j hj, wrap_succ j (by omega)]
          refine Ev.pos (by rw [B_size]; omega) ?_
          refine Ev.pos (by omega) ?_
          refine Ev.neg (fun h => h35 ((numB _ 35 (by decide)).mp h)) ?_
          refine Ev.pos (by omega) ?_
          refine Ev.pos (by rw [B_size]; omega) ?_
          refine Ev.pos (by rw [B_size]; omega) ?_
          rw [ext1B l j hj, B_append]
          exact hnx
        by_cases h2 : l[i] = 92 ∧ ∃ h4 : i + 1 < l.length, l[i + 1] = 35
        · obtain ⟨h3, h4, h5⟩ := h2
          rw [bareA_esc l i acc hlt h3 h4 h5]
          refine Ev.step (fun k => by rw [flatironref08_bare.l0]) ?_
          rw [bt_B l i hlt, wrap_succ i (by omega)]
          refine Ev.pos (by rw [B_size]; omega) ?_
          refine Ev.pos (by omega) ?_
          refine Ev.neg (fun h => absurd (h3.symm.trans ((numB _ 35 (by decide)).mp h)) (by decide)) ?_
          refine Ev.pos (by omega) ?_
          refine Ev.pos (by rw [B_size]; omega) ?_
          refine Ev.pos (by rw [B_size]; omega) ?_
          rw [ext1B l i hlt, B_append]
          refine Ev.step (fun k => by rw [flatironref08_bare.l0]) ?_
          rw [bt_B l (i + 1) h4, wrap_succ (i + 1) (by omega), show wrap64 (((i + 1 : Nat) : Int) - 1) = (i : Int) from wrap_pred (i + 1) (by omega) (by omega)]
          have w3 : wrap64 (((B (acc ++ [l[i]])).size : Int) - 1) = ((acc.length : Nat) : Int) := by
            rw [B_size, List.length_append, List.length_singleton]; exact wrap_pred (acc.length + 1) (by omega) (by omega)
          rw [w3, bt_B l i hlt]
          refine Ev.pos (by rw [B_size]; omega) ?_
          refine Ev.pos (by omega) ?_
          refine Ev.pos ((numB _ 35 (by decide)).mpr h5) ?_
          refine Ev.neg (by omega) ?_
          refine Ev.pos (by omega) ?_
          refine Ev.pos (by rw [B_size]; omega) ?_
          refine Ev.pos ((numB _ 92 (by decide)).mpr h3) ?_
          refine Ev.pos (by omega) ?_
          refine Ev.pos (by rw [B_size, List.length_append, List.length_singleton]; omega) ?_
          refine Ev.pos (by omega) ?_
          refine Ev.pos (by rw [B_size]; omega) ?_
          refine Ev.pos (by omega) ?_
          rw [ext1B l (i + 1) h4, B_extract, show (((acc.length : Nat) : Int)).toNat = acc.length from rfl]
          have e : ((acc ++ [l[i]]).take acc.length).drop 0 = acc := by simp
          rw [e, B_append, h5]
          refine IH (l.length - (i + 2)) (by omega) (i + 2) (acc ++ [35]) (by omega) (by omega) ?_ (by simp; omega)
          intro h h0 h92
          have h6 : l[i + 1] = 92 := h92
          rw [h5] at h6
          exact absurd h6 (by decide)
        · by_cases h3 : l[i] = 35
          · rw [bareA_hit l i acc hlt h3]
            refine Ev.step (fun k => by rw [flatironref08_bare.l0]) ?_
            rw [bt_B l i hlt]
            refine Ev.pos (by rw [B_size]; omega) ?_
            refine Ev.pos (by omega) ?_
            refine Ev.pos ((numB _ 35 (by decide)).mpr h3) ?_
            by_cases h0 : i = 0
            · refine Ev.pos (by omega) ?_
              exact Ev.ret _
            · refine Ev.neg (by omega) ?_
              rw [wrap_pred i (by omega) (by omega), bt_B l (i - 1) (by omega)]
              refine Ev.pos (by omega) ?_
              refine Ev.pos (by rw [B_size]; omega) ?_
              refine Ev.neg (fun h => hP hlt (by omega) ((numB _ 92 (by decide)).mp h) h3) ?_
              exact Ev.ret _
          · rw [bareA_one l i acc hlt h3 h2]
            refine one i hlt acc ha h3 ?_
            refine IH (l.length - (i + 1)) (by omega) (i + 1) (acc ++ [l[i]]) (by omega) (by omega) ?_ (by simp; omega)
            intro h h0 h92 h35
            exact h2 ⟨h92, h, h35⟩
      · rw [bareA_end l i acc (by omega)]
        refine Ev.step (fun k => by rw [flatironref08_bare.l0]) ?_
        refine Ev.neg (by rw [B_size]; omega) ?_
        exact Ev.ret _
  refine Ev.congr (fun k => by rw [flatironref08_bare.f]) ?_
  exact main _ 0 [] (Nat.le_refl _) (Nat.zero_le _) (fun _ h => absurd h (by omega)) (by simp)
theorem putU_snoc (pa : List (List UInt8)) (p : List UInt8) : putU (pa ++ [p]) = if trimB p ≠ [] ∧ putU pa ≠ [] then putU pa ++ [32] ++ trimB p else putU pa ++ trimB p := by
  have key : ∀ (A : List (List UInt8)) (x : List UInt8), A ≠ [] → Lib.join (A ++ [x]) [32] = Lib.join A [32] ++ ([32] ++ x) := by
    intro A x hA
    cases A with
    | nil => exact absurd rfl hA
    | cons a A => rw [List.cons_append, Lib.join_cons, Lib.join_cons]; simp [Lib.joinTail]
  have nz : ∀ A : List (List UInt8), (∀ x ∈ A, x ≠ []) → (Lib.join A [32] = [] ↔ A = []) := by
    intro A hA
    constructor
    · intro h
      cases A with
      | nil => rfl
      | cons a A =>
        rw [Lib.join_cons] at h
        exact absurd (List.append_eq_nil_iff.1 h).1 (hA a (by simp))
    · rintro rfl; rfl
  unfold putU
  rw [List.map_append, List.filter_append]
  have hA : ∀ x ∈ (pa.map trimB).filter neU, x ≠ [] := by
    intro x hx
    have := (List.mem_filter.1 hx).2
    simpa [neU] using this
  by_cases hp : trimB p = []
  · rw [if_neg (fun h => h.1 hp)]
    simp [neU, hp]
  · rw [show ([p].map trimB).filter neU = [trimB p] by simp [neU, hp]]
    by_cases he : (pa.map trimB).filter neU = []
    · rw [if_neg (fun h => h.2 ((nz _ hA).2 he)), he]
      simp [Lib.join_one, Lib.join_nil]
    · rw [if_pos ⟨hp, fun h => he ((nz _ hA).1 h)⟩, key _ _ he]
      simp
theorem head_cut (r : List UInt8) : ((cutB r).1.head? = some 9) = (r.head? = some 9) := by
  unfold cutB
  split
  · rename_i h
    cases r with
    | nil => rfl
    | cons b m =>
      cases m with
      | nil =>
        have : b = 92 := by simpa using h
        subst this
        exact propext ⟨fun h => by simp at h, fun h => by simp at h⟩
      | cons c m => simp
  · rfl
theorem recU_cons (p : List UInt8) (ps : List (List UInt8)) : recU (p :: ps) = decide (p.head? = some 9) := by
  unfold recU
  cases p with
  | nil => rfl
  | cons b m =>
    simp [Lib.hasPrefix, List.isPrefixOf, List.headD]
    rw [Bool.eq_iff_iff, beq_iff_eq, decide_eq_true_eq]
    exact eq_comm
end Go.Proofs.YtgpabkdmagifjaaDoor.X
