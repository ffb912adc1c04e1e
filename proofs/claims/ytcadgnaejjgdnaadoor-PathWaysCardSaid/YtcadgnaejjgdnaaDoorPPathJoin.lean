/- path.Join, Clean, To and the reference's Join, as plain functions on lists of bytes. -/
import Derived.Test.YtcadgnaejjgdnaaDoorPPath
namespace Go.Proofs.YtcadgnaejjgdnaaDoor.X
open Go.RowKit Go.Proofs.YtcadgnaejjgdnaaDoorW.PrintWords Go.Proofs.YtcadgnaejjgdnaaDoorW.PrintLast Go.Proofs.YtcadgnaejjgdnaaDoorW.PrintMore Go.Proofs.YtcadgnaejjgdnaaDoor.XW01
set_option linter.unusedSimpArgs false
set_option linter.unusedVariables false

/-- Where parts lead, from out. -/
def walkS (out : List (List UInt8)) : List (List UInt8) → Option (List (List UInt8))
  | [] => some out
  | p :: ps => if p = [46, 46] then (if out = [] then none else walkS out.dropLast ps) else walkS (out ++ [p]) ps
theorem walkS_nil (out : List (List UInt8)) : walkS out [] = some out := rfl
theorem walkS_cons (out : List (List UInt8)) (p : List UInt8) (ps : List (List UInt8)) : walkS out (p :: ps) = if p = [46, 46] then (if out = [] then none else walkS out.dropLast ps) else walkS (out ++ [p]) ps := rfl
def joinS (xs : List (List UInt8)) : Option (List (List UInt8)) := walkS [] (xs.flatMap partsS)

theorem szS_dropLast (a : List (List UInt8)) : szS a.dropLast ≤ szS a := by
  rw [List.dropLast_eq_take]; exact szS_take _ _
theorem szS_flat (xs : List (List UInt8)) : szS (xs.flatMap partsS) ≤ szS xs := by
  induction xs with
  | nil => simp
  | cons x r ih => rw [List.flatMap_cons, szS_append, szS_cons]; have := szS_parts x; omega
theorem walkS_sz (ps : List (List UInt8)) : ∀ (out o : List (List UInt8)), walkS out ps = some o → szS o ≤ szS out + szS ps := by
  induction ps with
  | nil => intro out o h; rw [walkS_nil] at h; injection h with h; subst h; omega
  | cons p ps ih =>
    intro out o h
    rw [walkS_cons] at h
    rw [szS_cons]
    split at h
    · split at h
      · simp at h
      · have := ih _ _ h; have := szS_dropLast out; omega
    · have := ih _ _ h; rw [szS_append, szS_cons, szS_nil] at this; omega
/-- What parts of a text are. -/
def goodP (x : List UInt8) : Prop := keepP x = true ∧ (47 : UInt8) ∉ x
theorem goodP_ne {x : List UInt8} (h : goodP x) : x ≠ [] := by
  rintro rfl
  exact absurd h.1 (by decide)
theorem segA_no (l : List UInt8) : ∀ cur, (47 : UInt8) ∉ cur → ∀ x ∈ segA cur l, (47 : UInt8) ∉ x := by
  induction l with
  | nil => intro cur hc x hx; rw [segA_nil, List.mem_singleton] at hx; subst hx; exact hc
  | cons b l ih =>
    intro cur hc x hx
    rw [segA_cons] at hx
    split at hx
    · rcases List.mem_cons.1 hx with rfl | hx
      · exact hc
      · exact ih [] (by simp) x hx
    · rename_i hb
      refine ih (cur ++ [b]) ?_ x hx
      intro hm
      rcases List.mem_append.1 hm with hm | hm
      · exact hc hm
      · exact hb (by simpa using (List.mem_singleton.1 hm).symm)
theorem parts_good (l : List UInt8) : ∀ x ∈ partsS l, goodP x := by
  intro x hx
  unfold partsS at hx
  rw [List.mem_filter] at hx
  exact ⟨hx.2, segA_no l [] (by simp) x hx.1⟩
theorem flat_good (xs : List (List UInt8)) : ∀ x ∈ xs.flatMap partsS, goodP x := by
  intro x hx
  rw [List.mem_flatMap] at hx
  obtain ⟨y, _, hx⟩ := hx
  exact parts_good y x hx
theorem walkS_good (ps : List (List UInt8)) : ∀ (out o : List (List UInt8)), (∀ x ∈ ps, goodP x) → (∀ x ∈ out, goodP x ∧ x ≠ [46, 46]) → walkS out ps = some o → ∀ x ∈ o, goodP x ∧ x ≠ [46, 46] := by
  induction ps with
  | nil => intro out o _ h0 h; rw [walkS_nil] at h; injection h with h; subst h; exact h0
  | cons p ps ih =>
    intro out o hp h0 h
    rw [walkS_cons] at h
    have hp' : ∀ x ∈ ps, goodP x := fun x hx => hp x (by simp [hx])
    split at h
    · split at h
      · simp at h
      · exact ih _ _ hp' (fun x hx => h0 x (List.dropLast_subset _ hx)) h
    · rename_i hne
      refine ih _ _ hp' ?_ h
      intro x hx
      rcases List.mem_append.1 hx with hx | hx
      · exact h0 x hx
      · rw [List.mem_singleton] at hx; subst hx; exact ⟨hp _ (by simp), hne⟩
theorem walkS_plain (ps : List (List UInt8)) : ∀ out, (∀ x ∈ ps, x ≠ [46, 46]) → walkS out ps = some (out ++ ps) := by
  induction ps with
  | nil => intro out _; simp [walkS_nil]
  | cons p ps ih =>
    intro out h
    rw [walkS_cons, if_neg (h p (by simp)), ih _ (fun x hx => h x (by simp [hx]))]
    simp
theorem segA_pass (x l : List UInt8) : ∀ cur, (47 : UInt8) ∉ x → segA cur (x ++ l) = segA (cur ++ x) l := by
  induction x with
  | nil => intro cur _; simp
  | cons b x ih =>
    intro cur h
    rw [List.cons_append, segA_cons, if_neg (fun e => h (by simp [e])), ih _ (fun e => h (by simp [e]))]
    simp
theorem segA_tail (r : List (List UInt8)) : ∀ cur, (∀ x ∈ r, (47 : UInt8) ∉ x) → segA cur (Lib.joinTail [47] r) = cur :: r := by
  induction r with
  | nil => intro cur _; rfl
  | cons y r ih =>
    intro cur h
    rw [tail_cons, segA_cons, if_pos rfl, segA_pass _ _ _ (h y (by simp)), ih _ (fun x hx => h x (by simp [hx]))]
    simp
theorem parts_text (o : List (List UInt8)) (h : ∀ x ∈ o, goodP x) : partsS (textS o) = o := by
  unfold textS partsS
  cases o with
  | nil => rw [if_pos rfl]; decide
  | cons x r =>
    rw [if_neg (by simp), Lib.join_cons, segA_pass _ _ _ (h x (by simp)).2, segA_tail _ _ (fun y hy => (h y (by simp [hy])).2)]
    rw [List.nil_append]
    exact List.filter_eq_self.2 (fun y hy => (h y hy).1)

def resP (o : Option (List (List UInt8))) : ByteArray × Int := match o with | some o => (B (textS o), 0) | none => (B [], 2)
def resR (o : Option (List (List UInt8))) : ByteArray × Bool := match o with | some o => (B (textS o), true) | none => (B [], false)

theorem take_last (out : List (List UInt8)) (h : out ≠ []) : (out.map B).take (((out.length - 1 : Nat) : Int)).toNat = out.dropLast.map B := by
  rw [Int.toNat_natCast, List.dropLast_eq_take, List.map_take]

theorem Join_ev (xs : List (List UInt8)) (hx : ∀ x ∈ xs, x.length < 4294967280) (hs : szS xs < 1099511627776) : Ev (fun k => path_Join.f k (xs.map B)) (resP (joinS xs)) := by
  have hl := szS_len xs
  have inner : ∀ (i : Nat) (rest : List (List UInt8)), i < xs.length →
      (∀ out, szS out + szS rest < 1099511627776 → Ev (fun k => path_Join.l0 k (out.map B) (xs.map B) (xs.length : Int) ((i + 1 : Nat) : Int)) (resP (walkS out rest))) →
      ∀ ps : List (List UInt8), ps.length < 1099511627776 → ∀ j, j ≤ ps.length → ∀ out, szS out + szS (ps.drop j) + szS rest < 1099511627776 →
        Ev (fun k => path_Join.l1 k (out.map B) (xs.map B) (xs.length : Int) (i : Int) (ps.map B) (ps.length : Int) (j : Int)) (resP (walkS out (ps.drop j ++ rest))) := by
    intro i rest hi hr ps hps
    refine upto_ind ?_ ?_
    · intro out ho
      refine Ev.step (fun k => by rw [path_Join.l1]) ?_
      rw [wrap_succ i (by omega)]
      rw [List.drop_length, szS_nil] at ho
      refine Ev.neg (by omega) ?_
      rw [List.drop_length, List.nil_append]
      exact hr out (by omega)
    · intro j hj ih out ho
      refine Ev.step (fun k => by rw [path_Join.l1]) ?_
      rw [drop_get ps j hj, szS_cons] at ho
      have h1 := szS_len out
      rw [List.length_map, List.length_map, rdOf_get _ _ _ (by simpa using hj), List.getElem_map, wrap_succ j (by omega), B_toList, drop_get ps j hj, List.cons_append, walkS_cons]
      refine Ev.pos (by omega) (Ev.pos (by omega) (Ev.pos (by omega) (Ev.ite (fun e => ?_) (fun e => ?_))))
      · rw [if_pos e]
        by_cases h0 : out = []
        · rw [if_pos h0]
          subst h0
          exact Ev.pos rfl (Ev.ret _)
        · have : 0 < out.length := List.length_pos_iff.2 h0
          rw [if_neg h0, wrap_pred _ this (by omega), take_last _ h0]
          refine Ev.neg (by omega) (Ev.pos (by omega) (Ev.pos (by omega) ?_))
          refine ih _ ?_
          have := szS_dropLast out
          omega
      · rw [if_neg e]
        refine Ev.pos (by omega) ?_
        have := ih (out ++ [ps[j]]) (by rw [szS_append, szS_cons, szS_nil]; omega)
        rw [List.map_append, List.map_cons, List.map_nil] at this
        exact this
  have key : ∀ i, i ≤ xs.length → ∀ out, szS out + szS ((xs.drop i).flatMap partsS) < 1099511627776 →
      Ev (fun k => path_Join.l0 k (out.map B) (xs.map B) (xs.length : Int) (i : Int)) (resP (walkS out ((xs.drop i).flatMap partsS))) := by
    refine upto_ind ?_ ?_
    · intro out ho
      refine Ev.step (fun k => by rw [path_Join.l0]) ?_
      rw [List.drop_length] at ho ⊢
      refine Ev.neg (by omega) (Ev.bind' (text_eq out (by omega)) (Ev.ret _))
    · intro i hi ih out ho
      refine Ev.step (fun k => by rw [path_Join.l0]) ?_
      rw [drop_get xs i hi, List.flatMap_cons, szS_append] at ho
      rw [List.length_map, rdOf_get _ _ _ (by simpa using hi), List.getElem_map, drop_get xs i hi, List.flatMap_cons]
      refine Ev.pos (by omega) (Ev.pos (by omega) (Ev.pos (by omega) ?_))
      refine Ev.bind' (parts_eq xs[i] (hx _ (List.getElem_mem hi))) ?_
      have h1 := szS_len (partsS xs[i])
      have := inner i ((xs.drop (i + 1)).flatMap partsS) hi (fun out h => ih out h) (partsS xs[i]) (by omega) 0 (by omega) out (by rw [List.drop_zero]; omega)
      rw [List.drop_zero] at this
      rw [List.length_map]
      exact this
  refine Ev.congr (fun k => by rw [path_Join.f, List.length_map]) ?_
  have := key 0 (by omega) [] (by have := szS_flat xs; rw [szS_nil, List.drop_zero]; omega)
  rw [List.drop_zero] at this
  exact this

theorem refJoin_ev (xs : List (List UInt8)) (hx : ∀ x ∈ xs, x.length < 4294967280) (hs : szS xs < 1099511627776) : Ev (fun k => flatironref01_Join.f k (xs.map B)) (resR (joinS xs)) := by
  have hl := szS_len xs
  have inner : ∀ (i : Nat) (rest : List (List UInt8)), i < xs.length →
      (∀ out, szS out + szS rest < 1099511627776 → (∀ x ∈ out, x ≠ []) → Ev (fun k => flatironref01_Join.l0 k (xs.map B) (out.map B) ((i + 1 : Nat) : Int)) (resR (walkS out rest))) →
      ∀ ps : List (List UInt8), ps.length < 1099511627776 → (∀ x ∈ ps, x ≠ []) → ∀ j, j ≤ ps.length → ∀ out, szS out + szS (ps.drop j) + szS rest < 1099511627776 → (∀ x ∈ out, x ≠ []) →
        Ev (fun k => flatironref01_Join.l1 k (xs.map B) (out.map B) (i : Int) (ps.map B) (j : Int)) (resR (walkS out (ps.drop j ++ rest))) := by
    intro i rest hi hr ps hps hpn
    refine upto_ind ?_ ?_
    · intro out ho hn
      refine Ev.step (fun k => by rw [flatironref01_Join.l1]) ?_
      rw [wrap_succ i (by omega), List.length_map]
      rw [List.drop_length, szS_nil] at ho
      refine Ev.neg (by omega) ?_
      rw [List.drop_length, List.nil_append]
      exact hr out (by omega) hn
    · intro j hj ih out ho hn
      refine Ev.step (fun k => by rw [flatironref01_Join.l1]) ?_
      rw [drop_get ps j hj, szS_cons] at ho
      have h1 := szS_len out
      rw [List.length_map, List.length_map, rdOf_get _ _ _ (by simpa using hj), List.getElem_map, wrap_succ j (by omega), B_toList, drop_get ps j hj, List.cons_append, walkS_cons]
      refine Ev.pos (by omega) (Ev.pos (by omega) (Ev.ite (fun e => ?_) (fun e => ?_)))
      · rw [if_pos e]
        by_cases h0 : out = []
        · rw [if_pos h0]
          subst h0
          exact Ev.pos rfl (Ev.ret _)
        · have : 0 < out.length := List.length_pos_iff.2 h0
          rw [if_neg h0, wrap_pred _ this (by omega), take_last _ h0]
          refine Ev.neg (by omega) (Ev.pos (by omega) (Ev.pos (by omega) ?_))
          refine ih _ ?_ (fun x hx => hn x (List.dropLast_subset _ hx))
          have := szS_dropLast out
          omega
      · rw [if_neg e]
        refine Ev.pos (by omega) ?_
        have := ih (out ++ [ps[j]]) (by rw [szS_append, szS_cons, szS_nil]; omega) (by
          intro x hx
          rcases List.mem_append.1 hx with hx | hx
          · exact hn x hx
          · rw [List.mem_singleton] at hx; subst hx; exact hpn _ (List.getElem_mem hj))
        rw [List.map_append, List.map_cons, List.map_nil] at this
        exact this
  have key : ∀ i, i ≤ xs.length → ∀ out, szS out + szS ((xs.drop i).flatMap partsS) < 1099511627776 → (∀ x ∈ out, x ≠ []) →
      Ev (fun k => flatironref01_Join.l0 k (xs.map B) (out.map B) (i : Int)) (resR (walkS out ((xs.drop i).flatMap partsS))) := by
    refine upto_ind ?_ ?_
    · intro out ho hn
      refine Ev.step (fun k => by rw [flatironref01_Join.l0]) ?_
      rw [List.drop_length] at ho ⊢
      rw [List.length_map]
      refine Ev.neg (by omega) (Ev.bind (refText_ev out (by omega) hn) (Ev.ret _))
    · intro i hi ih out ho hn
      refine Ev.step (fun k => by rw [flatironref01_Join.l0]) ?_
      rw [drop_get xs i hi, List.flatMap_cons, szS_append] at ho
      rw [List.length_map, rdOf_get _ _ _ (by simpa using hi), List.getElem_map, drop_get xs i hi, List.flatMap_cons]
      refine Ev.pos (by omega) (Ev.pos (by omega) ?_)
      refine Ev.bind (refSplit_ev xs[i] (hx _ (List.getElem_mem hi))) ?_
      have h1 := szS_len (partsS xs[i])
      have := inner i ((xs.drop (i + 1)).flatMap partsS) hi (fun out h h' => ih out h h') (partsS xs[i]) (by omega) (fun x hx => goodP_ne (parts_good _ x hx)) 0 (by omega) out (by rw [List.drop_zero]; omega) hn
      rw [List.drop_zero] at this
      exact this
  refine Ev.congr (fun k => by rw [flatironref01_Join.f]) ?_
  have := key 0 (by omega) [] (by have := szS_flat xs; rw [szS_nil, List.drop_zero]; omega) (by simp)
  rw [List.drop_zero] at this
  exact this

def cleanS (s : List UInt8) : Bool := match joinS [s] with | some o => decide (textS o = s) | none => false
theorem Clean_ev (s : List UInt8) (hs : s.length < 4294967280) : Ev (fun k => path_Clean.f k (B s)) (cleanS s) := by
  refine Ev.congr (fun k => by rw [path_Clean.f]) ?_
  refine Ev.bind (Join_ev [s] (by simpa using hs) (by rw [szS_cons, szS_nil]; omega)) ?_
  unfold cleanS
  cases joinS [s] with
  | none => exact Ev.neg (by simp [resP]) (Ev.ret _)
  | some o =>
    refine Ev.pos rfl (Ev.of ?_)
    show some ((B (textS o)).toList == (B s).toList) = _
    rw [B_toList, B_toList]
    congr 1
    rw [Bool.eq_iff_iff]; simp

/-- How many parts two ways have in common. -/
def commS : List (List UInt8) → List (List UInt8) → Nat
  | a :: r, b :: t => if a = b then commS r t + 1 else 0
  | _, _ => 0
def toS (A C : List (List UInt8)) : List (List UInt8) := List.replicate (C.length - commS A C) [46, 46] ++ A.drop (commS A C)
theorem szS_rep (n : Nat) : szS (List.replicate n [46, 46]) = 3 * n := by
  induction n with
  | zero => rfl
  | succ n ih => rw [List.replicate_succ, szS_cons, ih]; simp; omega
theorem szS_drop (a : List (List UInt8)) (n : Nat) : szS (a.drop n) ≤ szS a := by
  conv => rhs; rw [← List.take_append_drop n a, szS_append]
  omega
theorem To_ev (a b : List UInt8) (ha : a.length < 4294967280) (hb : b.length < 4294967280) : Ev (fun k => path_To.f k (B a) (B b)) (B (textS (toS (partsS a) (partsS b)))) := by
  obtain ⟨A, hA⟩ : ∃ A, A = partsS a := ⟨_, rfl⟩
  obtain ⟨C, hC⟩ : ∃ C, C = partsS b := ⟨_, rfl⟩
  have sA := szS_parts a
  have sC := szS_parts b
  refine Ev.congr (fun k => by rw [path_To.f]) ?_
  refine Ev.bind' (parts_eq a ha) (Ev.bind' (parts_eq b hb) ?_)
  rw [← hA, ← hC] at *
  clear hA hC
  have lA := szS_len A
  have lC := szS_len C
  have rep : ∀ i, i ≤ C.length → slices_Repeat_string.f ([(⟨#[46, 46]⟩ : ByteArray)] : List ByteArray) (wrap64 ((C.length : Int) - (i : Int))) = some ((List.replicate (C.length - i) [46, 46]).map B) := by
    intro i hi
    rw [wrap_sub _ _ hi (by omega)]
    unfold slices_Repeat_string.f
    rw [if_pos ⟨rfl, by omega, by omega⟩, Int.toNat_natCast, List.map_replicate]
    rfl
  have fin : ∀ i, i ≤ C.length → i ≤ A.length → path_text.f ((List.replicate (C.length - i) [46, 46]).map B ++ (A.map B).drop i) = some (B (textS (List.replicate (C.length - i) [46, 46] ++ A.drop i))) := by
    intro i hi hi'
    rw [← List.map_drop, ← List.map_append]
    refine text_eq _ ?_
    rw [szS_append, szS_rep]
    have := szS_drop A i
    omega
  have key : ∀ i, i ≤ min A.length C.length → Ev (fun k => path_To.l0 k (A.map B) (C.map B) (i : Int)) (B (textS (List.replicate (C.length - (i + commS (A.drop i) (C.drop i))) [46, 46] ++ A.drop (i + commS (A.drop i) (C.drop i))))) := by
    refine upto_ind ?_ ?_
    · have h0 : commS (A.drop (min A.length C.length)) (C.drop (min A.length C.length)) = 0 := by
        by_cases h : A.length ≤ C.length
        · rw [Nat.min_eq_left h, List.drop_length]; rfl
        · rw [Nat.min_eq_right (by omega), List.drop_length]
          cases A.drop C.length <;> rfl
      rw [h0, Nat.add_zero]
      obtain ⟨m, hm⟩ : ∃ m, m = min A.length C.length := ⟨_, rfl⟩
      rw [← hm]
      refine Ev.step (fun k => by rw [path_To.l0]) ?_
      rw [List.length_map, List.length_map, rep m (by omega)]
      refine Ev.ite (fun h1 => Ev.neg (by omega) ?_) (fun h1 => ?_)
      · refine Ev.bind' rfl (Ev.pos (by omega) (Ev.pos (by omega) (Ev.bind' rfl (Ev.pos ?_ ?_))))
        · simp; omega
        · exact Ev.bind' (fin m (by omega) (by omega)) (Ev.ret _)
      · refine Ev.bind' rfl (Ev.pos (by omega) (Ev.pos (by omega) (Ev.bind' rfl (Ev.pos ?_ ?_))))
        · simp; omega
        · exact Ev.bind' (fin m (by omega) (by omega)) (Ev.ret _)
    · intro i hi ih
      have h1 : i < A.length := by omega
      have h2 : i < C.length := by omega
      rw [drop_get A i h1, drop_get C i h2]
      refine Ev.step (fun k => by rw [path_To.l0]) ?_
      rw [List.length_map, List.length_map, rep i (by omega), rdOf_get _ _ _ (by simpa using h1), rdOf_get _ _ _ (by simpa using h2), List.getElem_map, List.getElem_map, B_toList, B_toList, wrap_succ i (by omega)]
      refine Ev.pos (by omega) (Ev.pos (by omega) (Ev.pos (by omega) (Ev.ite (fun e => ?_) (fun e => ?_))))
      · refine Ev.eq ih ?_
        rw [commS, if_pos e]
        rw [show i + 1 + commS (A.drop (i + 1)) (C.drop (i + 1)) = i + (commS (A.drop (i + 1)) (C.drop (i + 1)) + 1) by omega]
      · rw [commS, if_neg e, Nat.add_zero]
        refine Ev.bind' rfl (Ev.pos (by omega) (Ev.bind' rfl (Ev.pos ?_ ?_)))
        · simp; omega
        · exact Ev.bind' (fin i (by omega) (by omega)) (Ev.ret _)
  have := key 0 (by omega)
  rw [List.drop_zero, List.drop_zero, Nat.zero_add] at this
  exact this

theorem lives01 : Ev (fun k => flatironlaw01_lives.f k) true := by
  refine Ev.congr (fun k => by rw [flatironlaw01_lives.f]) ?_
  refine Ev.bind (Join_ev [[97, 47, 98], [46, 46, 47, 99, 47, 47, 46, 47, 100]] (by decide) (by decide)) ?_
  have e : joinS [[97, 47, 98], [46, 46, 47, 99, 47, 47, 46, 47, 100]] = some [[97], [99], [100]] := by decide
  rw [e]
  refine Ev.pos rfl (Ev.pos ?_ ?_)
  · show (B (textS [[97], [99], [100]])).toList = _
    rw [B_toList]; decide
  · refine Ev.bind (To_ev [97, 47, 120] [97, 47, 98, 47, 99] (by decide) (by decide)) (Ev.pos ?_ (Ev.ret _))
    rw [B_toList]; decide
end Go.Proofs.YtcadgnaejjgdnaaDoor.X
