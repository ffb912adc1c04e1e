/- words.Trim and the reference's Trim; Split of words put together is the words again: plain Lean. -/
import Derived.Test.YtcadgnaejjgdnaaDoorPSplit
import Derived.Test.YtcadgnaejjgdnaaDoorXE04x2
import Derived.Lib.SlTrimSet
namespace Go.Proofs.YtcadgnaejjgdnaaDoor.X
open Go.RowKit Go.Proofs.YtcadgnaejjgdnaaDoorW.PrintWords Go.Proofs.YtcadgnaejjgdnaaDoorW.PrintLast Go.Proofs.YtcadgnaejjgdnaaDoorW.PrintMore Go.Proofs.YtcadgnaejjgdnaaDoor.XE04
set_option linter.unusedSimpArgs false
set_option linter.unusedVariables false

def trimR (l : List UInt8) : List UInt8 := (l.reverse.dropWhile blankU).reverse
theorem trimR_nil : trimR [] = [] := rfl
theorem trimR_snoc (m : List UInt8) (c : UInt8) : trimR (m ++ [c]) = if blankU c = true then trimR m else m ++ [c] := by
  unfold trimR
  rw [List.reverse_append, List.reverse_singleton, List.singleton_append, List.dropWhile_cons]
  split <;> simp
theorem trimR_cons (b : UInt8) (r : List UInt8) : trimR (b :: r) = if trimR r = [] then (if blankU b = true then [] else [b]) else b :: trimR r := by
  unfold trimR
  rw [List.reverse_cons, List.dropWhile_append]
  by_cases h : r.reverse.dropWhile blankU = []
  · rw [h]; simp [List.dropWhile_cons]; split <;> simp
  · rw [if_neg (by simpa using h), if_neg (by simpa using h)]; simp
theorem trim_comm (l : List UInt8) : trimR (l.dropWhile blankU) = (trimR l).dropWhile blankU := by
  induction l with
  | nil => rfl
  | cons b r ih =>
    rw [List.dropWhile_cons]
    by_cases hb : blankU b = true
    · rw [if_pos hb, ih, trimR_cons]
      by_cases h : trimR r = []
      · rw [if_pos h, if_pos hb, h]
      · rw [if_neg h, List.dropWhile_cons, if_pos hb]
    · rw [if_neg hb, trimR_cons]
      by_cases h : trimR r = []
      · rw [if_pos h, if_neg hb, List.dropWhile_cons, if_neg hb]
      · rw [if_neg h, List.dropWhile_cons, if_neg hb]
def trimB (l : List UInt8) : List UInt8 := trimR (l.dropWhile blankU)
theorem contains_blank (b : UInt8) : ([32, 9, 10] : List UInt8).contains b = blankU b := by
  unfold blankU
  rw [Bool.eq_iff_iff]; simp
theorem trimS_blank (l : List UInt8) : Lib.trimS l [32, 9, 10] = trimB l := by
  unfold Lib.trimS Lib.trimLeftS Lib.trimRightS trimB
  have e : (fun x : UInt8 => ([32, 9, 10] : List UInt8).contains x) = blankU := funext contains_blank
  rw [e, trim_comm]; rfl

theorem Trim_eq (l : List UInt8) (hl : l.length < 4294967281) : words_Trim.f (B l) = some (B (trimB l)) := by
  unfold words_Trim.f strings_Trim.f
  rw [if_pos ⟨by rw [B_size]; omega, by decide, by decide⟩, B_data]
  simp only [Option.bind_some]
  rw [trimS_blank]; rfl

theorem refTrim_ev (l : List UInt8) (hl : l.length < 4294967281) : Ev (fun k => flatironref04_Trim.f k (B l)) (B (trimB l)) := by
  have right : ∀ d b a : Nat, b = a + d → b ≤ l.length → Ev (fun k => flatironref04_Trim.l1 k (B l) (a : Int) (b : Int)) (B (trimR ((l.take b).drop a))) := by
    intro d
    induction d with
    | zero =>
      intro b a hb hbl
      obtain rfl : b = a := by omega
      refine Ev.step (fun k => by rw [flatironref04_Trim.l1]) ?_
      rw [B_size, B_extract, Int.toNat_natCast]
      refine Ev.neg (by omega) (Ev.pos (by omega) (Ev.pos (by omega) (Ev.pos (by omega) (Ev.of ?_))))
      rw [List.drop_eq_nil_of_le (by simp; omega)]; rfl
    | succ d ih =>
      intro b a hb hbl
      obtain ⟨c, rfl⟩ : ∃ c, b = c + 1 := ⟨b - 1, by omega⟩
      refine Ev.step (fun k => by rw [flatironref04_Trim.l1]) ?_
      have hc : c < l.length := by omega
      rw [wrap_pred (c + 1) (by omega) (by omega), show c + 1 - 1 = c by omega, B_size, B_extract, Int.toNat_natCast, Int.toNat_natCast, bt_B l c hc]
      have e : (l.take (c + 1)).drop a = (l.take c).drop a ++ [l[c]] := by
        rw [List.take_succ_eq_append_getElem hc, List.drop_append_of_le_length (by simp; omega)]
      rw [e, trimR_snoc]
      refine Ev.pos (by omega) (Ev.pos (by omega) (Ev.pos (by omega) (Ev.bind' (refBlank_eq l[c]) (Ev.ite (fun h => ?_) (fun h => ?_)))))
      · rw [if_pos h]; exact ih c a (by omega) (by omega)
      · rw [if_neg h]; exact Ev.pos (by omega) (Ev.pos (by omega) (Ev.pos (by omega) (Ev.ret _)))
  have left : ∀ a : Nat, a ≤ l.length → Ev (fun k => flatironref04_Trim.l0 k (B l) (a : Int) (l.length : Int)) (B (trimB (l.drop a))) := by
    have go : ∀ a : Nat, a ≤ l.length → Ev (fun k => flatironref04_Trim.j1 k (B l) (a : Int) (l.length : Int)) (B (trimR (l.drop a))) := by
      intro a ha
      refine Ev.step (fun k => by rw [flatironref04_Trim.j1]) ?_
      have := right (l.length - a) l.length a (by omega) (Nat.le_refl _)
      rw [List.take_length] at this
      exact this
    refine upto_ind ?_ ?_
    · refine Ev.step (fun k => by rw [flatironref04_Trim.l0]) ?_
      refine Ev.neg (by omega) (Ev.eq (go _ (Nat.le_refl _)) ?_)
      rw [List.drop_length]; rfl
    · intro a ha ih
      refine Ev.step (fun k => by rw [flatironref04_Trim.l0]) ?_
      rw [B_size, bt_B l a ha, wrap_succ a (by omega)]
      refine Ev.pos (by omega) (Ev.pos (by omega) (Ev.pos (by omega) (Ev.bind' (refBlank_eq l[a]) (Ev.ite (fun h => ?_) (fun h => ?_)))))
      · refine Ev.eq ih ?_
        unfold trimB
        rw [drop_get l a ha, List.dropWhile_cons, if_pos h]
      · refine Ev.eq (go a (by omega)) ?_
        unfold trimB
        rw [drop_get l a ha, List.dropWhile_cons, if_neg h]
  refine Ev.congr (fun k => by rw [flatironref04_Trim.f, B_size]) ?_
  have := left 0 (by omega)
  rw [List.drop_zero] at this
  exact this

/-- A word: not empty, no blank in it. -/
def wordU (x : List UInt8) : Prop := x ≠ [] ∧ ∀ b ∈ x, blankU b = false
theorem eachA_words (l : List UInt8) : ∀ (beg : Nat) (cur : List UInt8) (i : Nat), (∀ b ∈ cur, blankU b = false) → ∀ x ∈ eachA beg cur i l, ∃ y, x.2 = B y ∧ wordU y := by
  induction l with
  | nil =>
    intro beg cur i hc x hx
    rw [eachA] at hx
    split at hx
    · simp at hx
    · rename_i h
      rw [List.mem_singleton] at hx; subst hx; exact ⟨cur, rfl, h, hc⟩
  | cons b r ih =>
    intro beg cur i hc x hx
    rw [eachA] at hx
    split at hx
    · split at hx
      · exact ih _ [] _ (by simp) x hx
      · rename_i h
        rcases List.mem_cons.1 hx with rfl | hx
        · exact ⟨cur, rfl, h, hc⟩
        · exact ih _ [] _ (by simp) x hx
    · rename_i hb
      refine ih _ (cur ++ [b]) _ ?_ x hx
      intro c hcm
      rcases List.mem_append.1 hcm with h | h
      · exact hc c h
      · rw [List.mem_singleton] at h; subst h; simpa using hb
theorem eachA_pass (x : List UInt8) : ∀ (beg : Nat) (cur : List UInt8) (i : Nat) (l : List UInt8), (∀ b ∈ x, blankU b = false) → eachA beg cur i (x ++ l) = eachA beg (cur ++ x) (i + x.length) l := by
  induction x with
  | nil => intro beg cur i l _; simp
  | cons b x ih =>
    intro beg cur i l h
    rw [List.cons_append, eachA, if_neg (by rw [h b (by simp)]; simp), ih _ _ _ _ (fun c hc => h c (by simp [hc]))]
    congr 1
    · simp
    · simp; omega
theorem eachA_tail (ws : List (List UInt8)) : ∀ (beg : Nat) (cur : List UInt8) (i : Nat), cur ≠ [] → (∀ w ∈ ws, wordU w) → (eachA beg cur i (Lib.joinTail [32] ws)).map (·.2) = B cur :: ws.map B := by
  induction ws with
  | nil => intro beg cur i hc _; show (eachA beg cur i []).map _ = _; rw [eachA, if_neg hc]; rfl
  | cons w ws ih =>
    intro beg cur i hc hw
    have e : Lib.joinTail [32] (w :: ws) = 32 :: (w ++ Lib.joinTail [32] ws) := by simp [Lib.joinTail]
    rw [e, eachA, if_pos (by decide), if_neg hc, List.map_cons, eachA_pass _ _ _ _ _ (hw w (by simp)).2, ih _ _ _ (by simpa using (hw w (by simp)).1) (fun v hv => hw v (by simp [hv]))]
    simp
theorem each_join (ws : List (List UInt8)) (hw : ∀ w ∈ ws, wordU w) : (eachS (Lib.join ws [32])).map (·.2) = ws.map B := by
  cases ws with
  | nil => rfl
  | cons w r =>
    rw [Lib.join_cons]
    unfold eachS
    rw [eachA_pass _ _ _ _ _ (hw w (by simp)).2, eachA_tail _ _ _ _ (by simpa using (hw w (by simp)).1) (fun v hv => hw v (by simp [hv]))]
    simp
end Go.Proofs.YtcadgnaejjgdnaaDoor.X
