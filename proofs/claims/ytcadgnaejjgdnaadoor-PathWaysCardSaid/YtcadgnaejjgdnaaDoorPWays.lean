/- path.Dir, Base, In and the reference's, as plain functions on lists of bytes. -/
import Derived.Test.YtcadgnaejjgdnaaDoorPPathJoin
namespace Go.Proofs.YtcadgnaejjgdnaaDoor.X
open Go.RowKit Go.Proofs.YtcadgnaejjgdnaaDoorW.PrintWords Go.Proofs.YtcadgnaejjgdnaaDoorW.PrintLast Go.Proofs.YtcadgnaejjgdnaaDoorW.PrintMore Go.Proofs.YtcadgnaejjgdnaaDoor.XW01
set_option linter.unusedSimpArgs false
set_option linter.unusedVariables false

theorem commS_nil_l (C : List (List UInt8)) : commS [] C = 0 := by rw [commS]; simp
theorem commS_nil_r (A : List (List UInt8)) : commS A [] = 0 := by cases A <;> (rw [commS]; simp)
theorem commS_cons (a c : List UInt8) (A C : List (List UInt8)) : commS (a :: A) (c :: C) = if a = c then commS A C + 1 else 0 := by rw [commS]
theorem commS_facts (A : List (List UInt8)) : ∀ C : List (List UInt8), commS A C ≤ A.length ∧ commS A C ≤ C.length ∧ A.take (commS A C) = C.take (commS A C) ∧ ∀ (h1 : commS A C < A.length) (h2 : commS A C < C.length), A[commS A C] ≠ C[commS A C] := by
  induction A with
  | nil => intro C; rw [commS_nil_l]; refine ⟨by simp, by simp, by simp, fun h1 => by simp at h1⟩
  | cons a A ih =>
    intro C
    cases C with
    | nil => rw [commS_nil_r]; refine ⟨by simp, by simp, by simp, fun _ h2 => by simp at h2⟩
    | cons c C =>
      rw [commS_cons]
      by_cases e : a = c
      · subst e
        obtain ⟨i1, i2, i3, i4⟩ := ih C
        simp only [if_true]
        refine ⟨by simp; omega, by simp; omega, by simp [i3], fun h1 h2 => ?_⟩
        simp only [List.getElem_cons_succ]
        exact i4 (by simpa using h1) (by simpa using h2)
      · simp only [if_neg e]
        refine ⟨by simp, by simp, by simp, fun _ _ => ?_⟩
        simpa using e

theorem walkS_append (a b : List (List UInt8)) : ∀ out, walkS out (a ++ b) = (walkS out a).bind fun o => walkS o b := by
  induction a with
  | nil => intro out; rfl
  | cons p ps ih =>
    intro out
    rw [List.cons_append, walkS_cons, walkS_cons]
    split
    · split
      · rfl
      · exact ih _
    · exact ih _
theorem walkS_up (n : Nat) : ∀ (out ps : List (List UInt8)), n ≤ out.length → walkS out (List.replicate n [46, 46] ++ ps) = walkS (out.take (out.length - n)) ps := by
  induction n with
  | zero => intro out ps _; simp
  | succ n ih =>
    intro out ps h
    rw [List.replicate_succ, List.cons_append, walkS_cons, if_pos rfl, if_neg (by intro e; subst e; simp at h), ih _ _ (by simp; omega), List.dropLast_eq_take, List.take_take]
    congr 2
    simp; omega

theorem refSplit_text (A : List (List UInt8)) (hA : ∀ x ∈ A, goodP x) (hs : szS A < 4294967000) : Ev (fun k => flatironref01_Split.f k (B (textS A))) (A.map B) := by
  have := text_le A
  exact Ev.eq (refSplit_ev (textS A) (by omega)) (by rw [parts_text A hA])
theorem parts_textB (A : List (List UInt8)) (hA : ∀ x ∈ A, goodP x) (hs : szS A < 4294967000) : path_parts.f (B (textS A)) = some (A.map B) := by
  have := text_le A
  rw [parts_eq (textS A) (by omega), parts_text A hA]

theorem Dir_eq (A : List (List UInt8)) (hA : ∀ x ∈ A, goodP x) (hs : szS A < 4294967000) : path_Dir.f (B (textS A)) = some (B (textS A.dropLast)) := by
  unfold path_Dir.f
  have hl := szS_len A
  rw [parts_textB A hA hs]
  simp only [Option.bind_some]
  rw [List.length_map]
  by_cases h : A = []
  · subst h
    rw [if_neg (by simp)]
    have := text_eq [] (by decide)
    rw [List.map_nil] at this ⊢
    rw [this]; rfl
  · have : 0 < A.length := List.length_pos_iff.2 h
    have hd := szS_dropLast A
    rw [if_pos (by omega), wrap_pred _ this (by omega), if_pos (by omega), if_pos (by omega), take_last _ h, text_eq _ (by omega)]
    rfl
theorem refDir_ev (A : List (List UInt8)) (hA : ∀ x ∈ A, goodP x) (hs : szS A < 4294967000) : Ev (fun k => flatironref01_Dir.f k (B (textS A))) (B (textS A.dropLast)) := by
  have hl := szS_len A
  refine Ev.congr (fun k => by rw [flatironref01_Dir.f]) ?_
  refine Ev.bind (refSplit_text A hA hs) ?_
  rw [List.length_map]
  by_cases h : A = []
  · subst h
    exact Ev.pos (by simp) (Ev.ret _)
  · have : 0 < A.length := List.length_pos_iff.2 h
    have hd := szS_dropLast A
    rw [wrap_pred _ this (by omega), take_last _ h]
    refine Ev.neg (by omega) (Ev.pos (by omega) (Ev.pos (by omega) ?_))
    exact Ev.bind (refText_ev A.dropLast (by omega) (fun x hx => goodP_ne (hA x (List.dropLast_subset _ hx)))) (Ev.ret _)
theorem mx_int (a b : Int) : mx a b = if a < b then b else a := rfl
def baseS (A : List (List UInt8)) : List UInt8 := A.getLast?.getD [46]
theorem drop_last (A : List (List UInt8)) (h : A ≠ []) : A.drop (A.length - 1) = [A.getLast h] := by
  have h1 : A.length - 1 < A.length := by have := List.length_pos_iff.2 h; omega
  rw [drop_get A _ h1, List.drop_eq_nil_of_le (by omega), List.getLast_eq_getElem]
theorem Base_eq (A : List (List UInt8)) (hA : ∀ x ∈ A, goodP x) (hs : szS A < 4294967000) : path_Base.f (B (textS A)) = some (B (baseS A)) := by
  unfold path_Base.f
  have hl := szS_len A
  rw [parts_textB A hA hs]
  simp only [Option.bind_some]
  rw [List.length_map]
  have hm : mx (wrap64 ((A.length : Int) - 1)) 0 = ((A.length - 1 : Nat) : Int) := by
    by_cases h : A.length = 0
    · have e : wrap64 (((0 : Nat) : Int) - 1) = -1 := by unfold wrap64; omega
      rw [h, e]; rfl
    · rw [wrap_pred _ (by omega) (by omega), mx_int, if_neg (by omega)]
  rw [hm, if_pos (by omega), if_pos (by omega), Int.toNat_natCast, ← List.map_drop]
  have hd := szS_drop A (A.length - 1)
  rw [text_eq _ (by omega)]
  simp only [Option.bind_some]
  by_cases h : A = []
  · subst h; rfl
  · rw [drop_last A h]
    unfold textS baseS
    rw [if_neg (by simp), Lib.join_one, List.getLast?_eq_some_getLast h]; rfl
theorem refBase_ev (A : List (List UInt8)) (hA : ∀ x ∈ A, goodP x) (hs : szS A < 4294967000) : Ev (fun k => flatironref01_Base.f k (B (textS A))) (B (baseS A)) := by
  have hl := szS_len A
  refine Ev.congr (fun k => by rw [flatironref01_Base.f]) ?_
  refine Ev.bind (refSplit_text A hA hs) ?_
  rw [List.length_map]
  by_cases h : A = []
  · subst h
    exact Ev.pos (by simp) (Ev.ret _)
  · have : 0 < A.length := List.length_pos_iff.2 h
    rw [wrap_pred _ this (by omega), rdOf_get _ _ _ (by simp; omega), List.getElem_map]
    refine Ev.neg (by omega) (Ev.pos (by omega) (Ev.pos (by omega) (Ev.of ?_)))
    unfold baseS
    rw [List.getLast?_eq_some_getLast h, List.getLast_eq_getElem]; rfl

/-- Is C the beginning of A? -/
def preS : List (List UInt8) → List (List UInt8) → Bool
  | [], _ => true
  | _ :: _, [] => false
  | c :: C, a :: A => if a = c then preS C A else false
theorem preS_cons (c a : List UInt8) (C A : List (List UInt8)) : preS (c :: C) (a :: A) = if a = c then preS C A else false := rfl
theorem preS_take (C : List (List UInt8)) : ∀ A, preS C (A.take C.length) = preS C A := by
  induction C with
  | nil => intro A; rfl
  | cons c C ih =>
    intro A
    cases A with
    | nil => rfl
    | cons a A => rw [List.length_cons, List.take_succ_cons, preS_cons, preS_cons, ih]
theorem preS_short (C : List (List UInt8)) : ∀ A, A.length < C.length → preS C A = false := by
  induction C with
  | nil => intro A h; simp at h
  | cons c C ih =>
    intro A h
    cases A with
    | nil => rfl
    | cons a A => rw [preS_cons, ih A (by simpa using h)]; simp
theorem refIn_ev (A C : List (List UInt8)) (hA : ∀ x ∈ A, goodP x) (hs : szS A < 4294967000) (hC : ∀ x ∈ C, goodP x) (hsC : szS C < 4294967000) : Ev (fun k => flatironref01_In.f k (B (textS A)) (B (textS C))) (preS C A) := by
  have hl := szS_len A
  have hlC := szS_len C
  have key : ∀ i, i ≤ C.length → Ev (fun k => flatironref01_In.l0 k (A.map B) (C.map B) (i : Int)) (preS (C.drop i) (A.drop i)) := by
    refine upto_ind ?_ ?_
    · refine Ev.step (fun k => by rw [flatironref01_In.l0]) ?_
      rw [List.length_map, List.length_map, List.drop_length]
      exact Ev.neg (by omega) (Ev.ret _)
    · intro i hi ih
      refine Ev.step (fun k => by rw [flatironref01_In.l0]) ?_
      rw [List.length_map, List.length_map, drop_get C i hi]
      refine Ev.pos (by omega) (Ev.ite (fun h => ?_) (fun h => ?_))
      · rw [List.drop_eq_nil_of_le (show A.length ≤ i by omega)]
        exact Ev.ret _
      · have h1 : i < A.length := by omega
        rw [drop_get A i h1, preS_cons, rdOf_get _ _ _ (by simpa using h1), rdOf_get _ _ _ (by simpa using hi), List.getElem_map, List.getElem_map, B_toList, B_toList, wrap_succ i (by omega)]
        refine Ev.pos (by omega) (Ev.pos (by omega) (Ev.ite (fun e => ?_) (fun e => ?_)))
        · rw [if_pos e]; exact ih
        · rw [if_neg e]; exact Ev.ret _
  refine Ev.congr (fun k => by rw [flatironref01_In.f]) ?_
  exact Ev.bind (refSplit_text A hA hs) (Ev.bind (refSplit_text C hC hsC) (key 0 (by omega)))
theorem Equal_ev (A C : List (List UInt8)) (h : A.length = C.length) (hl : A.length < 4294967000) : Ev (fun k => slices_Equal_string_string.f k (A.map B) (C.map B)) (preS C A) := by
  have key : ∀ i, i ≤ C.length → Ev (fun k => slices_Equal_string_string.l0 k (A.map B) (C.map B) (C.length : Int) (i : Int)) (preS (C.drop i) (A.drop i)) := by
    refine upto_ind ?_ ?_
    · refine Ev.step (fun k => by rw [slices_Equal_string_string.l0]) ?_
      rw [List.drop_length]
      exact Ev.neg (by omega) (Ev.ret _)
    · intro i hi ih
      refine Ev.step (fun k => by rw [slices_Equal_string_string.l0]) ?_
      have h1 : i < A.length := by omega
      rw [List.length_map, List.length_map, drop_get C i hi, drop_get A i h1, preS_cons, rdOf_get _ _ _ (by simpa using h1), rdOf_get _ _ _ (by simpa using hi), List.getElem_map, List.getElem_map, B_toList, B_toList, wrap_succ i (by omega)]
      refine Ev.pos (by omega) (Ev.pos (by omega) (Ev.pos (by omega) (Ev.pos (by omega) (Ev.ite (fun e => ?_) (fun e => ?_)))))
      · rw [if_pos e]; exact ih
      · rw [if_neg e]; exact Ev.ret _
  refine Ev.congr (fun k => by rw [slices_Equal_string_string.f]) ?_
  rw [List.length_map, List.length_map, h]
  exact Ev.pos rfl (key 0 (by omega))
theorem In_ev (A C : List (List UInt8)) (hA : ∀ x ∈ A, goodP x) (hs : szS A < 4294967000) (hC : ∀ x ∈ C, goodP x) (hsC : szS C < 4294967000) : Ev (fun k => path_In.f k (B (textS A)) (B (textS C))) (preS C A) := by
  have hl := szS_len A
  have hlC := szS_len C
  refine Ev.congr (fun k => by rw [path_In.f]) ?_
  refine Ev.bind' (parts_textB A hA hs) (Ev.bind' (parts_textB C hC hsC) ?_)
  rw [List.length_map, List.length_map]
  refine Ev.ite (fun h => ?_) (fun h => ?_)
  · refine Ev.pos (by omega) (Ev.pos (by omega) ?_)
    rw [Int.toNat_natCast, ← List.map_take]
    exact Ev.bind (Ev.eq (Equal_ev (A.take C.length) C (by simp; omega) (by simp; omega)) (preS_take C A)) (Ev.ret _)
  · rw [preS_short C A (by omega)]
    exact Ev.ret _

end Go.Proofs.YtcadgnaejjgdnaaDoor.X
