/- Trim, the cut of a backslash, parts put together, the reference's Rows and bare, on lists of bytes; plain Lean. -/
import Derived.Test.YtgpabkdmagifjaaDoorXL08x
import Derived.Test.YtgpabkdmagifjaaDoorHBase
import Derived.Lib.SlTrimSet
namespace Go.Proofs.YtgpabkdmagifjaaDoor.X
open Go.RowKit Go.Proofs.YtgpabkdmagifjaaDoorW.PrintWords Go.Proofs.YtgpabkdmagifjaaDoorW.PrintLast Go.Proofs.YtgpabkdmagifjaaDoorW.PrintMore Go.Proofs.YtgpabkdmagifjaaDoor.XL08
set_option linter.unusedSimpArgs false
set_option linter.unusedVariables false

def blankU (b : UInt8) : Bool := decide (b = 32) || (decide (b = 9) || decide (b = 10))
theorem refBlank_eq (b : UInt8) : flatironref04_Blank.f (b.toNat : Int) = some (blankU b) := by
  unfold flatironref04_Blank.f blankU
  have e1 : ((b.toNat : Int) = 32) = (b = 32) := u8_num b 32 (by decide)
  have e2 : ((b.toNat : Int) = 9) = (b = 9) := u8_num b 9 (by decide)
  have e3 : ((b.toNat : Int) = 10) = (b = 10) := u8_num b 10 (by decide)
  by_cases h1 : b = 32
  · rw [if_pos (Eq.mpr e1 h1)]; simp [h1]
  · rw [if_neg (fun e => h1 (Eq.mp e1 e))]
    by_cases h2 : b = 9
    · rw [if_pos (Eq.mpr e2 h2)]; simp [h2]
    · rw [if_neg (fun e => h2 (Eq.mp e2 e))]
      by_cases h3 : b = 10
      · have : ((b.toNat : Int) == 10) = true := beq_iff_eq.2 (Eq.mpr e3 h3)
        rw [this]; simp [h3]
      · have : ((b.toNat : Int) == 10) = false := beq_false_of_ne (fun e => h3 (Eq.mp e3 e))
        rw [this]; simp [h1, h2, h3]

def trimR (l : List UInt8) : List UInt8 := (l.reverse.dropWhile blankU).reverse
theorem trimR_nil : trimR [] = [] := rfl
theorem trimR_snoc (m : List UInt8) (c : UInt8) : trimR (m ++ [c]) = if blankU c = true then trimR m else m ++ [c] := by
  unfold trimR
  rw [List.reverse_append, List.reverse_singleton, List.singleton_append, List.dropWhile_cons]
  split <;> simp
theorem trimR_cons (b : UInt8) (r : List UInt8) : trimR (b :: r) = if trimR r = [] then (if blankU b = true then [] else [b]) else b :: trimR r := by
  unfold trimR
  rw [List.reverse_cons, List.dropWhile_append]
  by_cases h : r.reverse.dropWhile blankU = []
  · rw [h]; simp [List.dropWhile_cons]; split <;> simp
  · rw [if_neg (by simpa using h), if_neg (by simpa using h)]; simp
theorem trim_comm (l : List UInt8) : trimR (l.dropWhile blankU) = (trimR l).dropWhile blankU := by
  induction l with
  | nil => rfl
  | cons b r ih =>
    rw [List.dropWhile_cons]
    by_cases hb : blankU b = true
    · rw [if_pos hb, ih, trimR_cons]
      by_cases h : trimR r = []
      · rw [if_pos h, if_pos hb, h]
      · rw [if_neg h, List.dropWhile_cons, if_pos hb]
    · rw [if_neg hb, trimR_cons]
      by_cases h : trimR r = []
      · rw [if_pos h, if_neg hb, List.dropWhile_cons, if_neg hb]
      · rw [if_neg h, List.dropWhile_cons, if_neg hb]
def trimB (l : List UInt8) : List UInt8 := trimR (l.dropWhile blankU)
theorem contains_blank (b : UInt8) : ([32, 9, 10] : List UInt8).contains b = blankU b := by
  unfold blankU
  rw [Bool.eq_iff_iff]; simp
theorem trimS_blank (l : List UInt8) : Lib.trimS l [32, 9, 10] = trimB l := by
  unfold Lib.trimS Lib.trimLeftS Lib.trimRightS trimB
  have e : (fun x : UInt8 => ([32, 9, 10] : List UInt8).contains x) = blankU := funext contains_blank
  rw [e, trim_comm]; rfl

theorem Trim_eq (l : List UInt8) (hl : l.length < 4294967281) : words_Trim.f (B l) = some (B (trimB l)) := by
  unfold words_Trim.f strings_Trim.f
  rw [if_pos ⟨by rw [B_size]; omega, by decide, by decide⟩, B_data]
  simp only [Option.bind_some]
  rw [trimS_blank]; rfl

theorem refTrim_ev (l : List UInt8) (hl : l.length < 4294967281) : Ev (fun k => flatironref04_Trim.f k (B l)) (B (trimB l)) := by
  have right : ∀ d b a : Nat, b = a + d → b ≤ l.length → Ev (fun k => flatironref04_Trim.l1 k (B l) (a : Int) (b : Int)) (B (trimR ((l.take b).drop a))) := by
    intro d
    induction d with
    | zero =>
      intro b a hb hbl
      obtain rfl : b = a := by omega
      refine Ev.step (fun k => by rw [flatironref04_Trim.l1]) ?_
      rw [B_size, B_extract, Int.toNat_natCast]
      refine Ev.neg (by omega) (Ev.pos (by omega) (Ev.pos (by omega) (Ev.pos (by omega) (Ev.of ?_))))
      rw [List.drop_eq_nil_of_le (by simp; omega)]; rfl
    | succ d ih =>
      intro b a hb hbl
      obtain ⟨c, rfl⟩ : ∃ c, b = c + 1 := ⟨b - 1, by omega⟩
      refine Ev.step (fun k => by rw [flatironref04_Trim.l1]) ?_
      have hc : c < l.length := by omega
      rw [wrap_pred (c + 1) (by omega) (by omega), show c + 1 - 1 = c by omega, B_size, B_extract, Int.toNat_natCast, Int.toNat_natCast, bt_B l c hc]
      have e : (l.take (c + 1)).drop a = (l.take c).drop a ++ [l[c]] := by
        rw [List.take_succ_eq_append_getElem hc, List.drop_append_of_le_length (by simp; omega)]
      rw [e, trimR_snoc]
      refine Ev.pos (by omega) (Ev.pos (by omega) (Ev.pos (by omega) (Ev.bind' (refBlank_eq l[c]) (Ev.ite (fun h => ?_) (fun h => ?_)))))
      · rw [if_pos h]; exact ih c a (by omega) (by omega)
      · rw [if_neg h]; exact Ev.pos (by omega) (Ev.pos (by omega) (Ev.pos (by omega) (Ev.ret _)))
  have left : ∀ a : Nat, a ≤ l.length → Ev (fun k => flatironref04_Trim.l0 k (B l) (a : Int) (l.length : Int)) (B (trimB (l.drop a))) := by
    have go : ∀ a : Nat, a ≤ l.length → Ev (fun k => flatironref04_Trim.j1 k (B l) (a : Int) (l.length : Int)) (B (trimR (l.drop a))) := by
      intro a ha
      refine Ev.step (fun k => by rw [flatironref04_Trim.j1]) ?_
      have := right (l.length - a) l.length a (by omega) (Nat.le_refl _)
      rw [List.take_length] at this
      exact this
    refine upto_ind ?_ ?_
    · refine Ev.step (fun k => by rw [flatironref04_Trim.l0]) ?_
      refine Ev.neg (by omega) (Ev.eq (go _ (Nat.le_refl _)) ?_)
      rw [List.drop_length]; rfl
    · intro a ha ih
      refine Ev.step (fun k => by rw [flatironref04_Trim.l0]) ?_
      rw [B_size, bt_B l a ha, wrap_succ a (by omega)]
      refine Ev.pos (by omega) (Ev.pos (by omega) (Ev.pos (by omega) (Ev.bind' (refBlank_eq l[a]) (Ev.ite (fun h => ?_) (fun h => ?_)))))
      · refine Ev.eq ih ?_
        unfold trimB
        rw [drop_get l a ha, List.dropWhile_cons, if_pos h]
      · refine Ev.eq (go a (by omega)) ?_
        unfold trimB
        rw [drop_get l a ha, List.dropWhile_cons, if_neg h]
  refine Ev.congr (fun k => by rw [flatironref04_Trim.f, B_size]) ?_
  have := left 0 (by omega)
  rw [List.drop_zero] at this
  exact this

theorem trimB_le (l : List UInt8) : (trimB l).length ≤ l.length := by
  unfold trimB trimR
  rw [List.length_reverse]
  have h1 := (List.dropWhile_suffix blankU (l := (l.dropWhile blankU).reverse)).length_le
  have h2 := (List.dropWhile_suffix blankU (l := l)).length_le
  rw [List.length_reverse] at h1
  omega
/-- A row without a backslash at its end, and whether there was one. -/
def cutB (row : List UInt8) : List UInt8 × Bool := if row.getLast? = some 92 then (row.dropLast, true) else (row, false)
theorem CutSuffix_eq (row : List UInt8) (h : row.length < 4294967281) : strings_CutSuffix.f (B row) (B [92]) = some (B (cutB row).1, (cutB row).2) := by
  unfold strings_CutSuffix.f stringslite_CutSuffix.f stringslite_HasSuffix.f
  rw [B_size, B_size]
  cases hr : row.reverse with
  | nil =>
    have : row = [] := by simpa using hr
    subst this
    rfl
  | cons c m =>
    have hrow : row = m.reverse ++ [c] := by
      have := congrArg List.reverse hr
      simpa using this
    have hl : row.length = m.length + 1 := by rw [hrow]; simp
    have w1 : wrap64 ((row.length : Int) - (([92] : List UInt8).length : Int)) = ((m.length : Nat) : Int) := by
      rw [hl]; show wrap64 (((m.length + 1 : Nat) : Int) - ((1 : Nat) : Int)) = _
      rw [wrap_sub _ _ (by omega) (by omega)]; rfl
    rw [w1]
    have e1 : (B row).extract ((m.length : Nat) : Int).toNat (B row).size = B [c] := by
      rw [B_size, B_extract, List.take_of_length_le (Nat.le_refl _), hrow]
      rw [show ((m.length : Nat) : Int).toNat = m.reverse.length by simp]
      simp
    have e2 : (B row).extract 0 ((m.length : Nat) : Int).toNat = B m.reverse := by
      rw [B_extract, hrow, show ((m.length : Nat) : Int).toNat = m.reverse.length by simp]
      simp
    have hlast : row.getLast? = some c := by rw [hrow]; simp
    have hdrop : row.dropLast = m.reverse := by rw [hrow]; simp
    have hge : (row.length : Int) ≥ (([92] : List UInt8).length : Int) := by rw [hl]; show ((m.length + 1 : Nat) : Int) ≥ ((1 : Nat) : Int); omega
    rw [if_pos hge, if_pos (by omega), if_pos (by rw [hl]; omega)]
    unfold cutB
    rw [hlast, hdrop]
    rw [B_size] at e1
    rw [e1, e2]
    by_cases hc : c = 92
    · subst hc
      simp [B_toList, show m.length ≤ row.length by omega]
    · have : ((B [c]).toList == (B [92]).toList) = false := by
        rw [B_toList, B_toList]; simp [hc]
      rw [this]
      simp [hc]
def neU (t : List UInt8) : Bool := decide (t ≠ [])
def putU (parts : List (List UInt8)) : List UInt8 := Lib.join ((parts.map trimB).filter neU) [32]
theorem joinTail_len (sep : List UInt8) : ∀ A : List (List UInt8), (Lib.joinTail sep A).length = (A.map List.length).sum + A.length * sep.length := by
  intro A
  induction A with
  | nil => simp [Lib.joinTail]
  | cons x A ih =>
    have e : Lib.joinTail sep (x :: A) = (sep ++ x) ++ Lib.joinTail sep A := by simp [Lib.joinTail]
    rw [e, List.length_append, List.length_append, ih, List.map_cons, List.sum_cons, List.length_cons, Nat.succ_mul]
    omega
theorem join_len_le (sep : List UInt8) (A : List (List UInt8)) : (Lib.join A sep).length ≤ (A.map List.length).sum + A.length * sep.length := by
  cases A with
  | nil => simp [Lib.join_nil]
  | cons x A => rw [Lib.join_cons, List.length_append, joinTail_len, List.map_cons, List.sum_cons, List.length_cons, Nat.succ_mul]; omega
theorem sum_filter_le (p : List UInt8 → Bool) (A : List (List UInt8)) : ((A.filter p).map List.length).sum ≤ (A.map List.length).sum := by
  induction A with
  | nil => simp
  | cons x A ih => rw [List.filter_cons]; split <;> simp <;> omega
theorem sum_trim_le (A : List (List UInt8)) : ((A.map trimB).map List.length).sum ≤ (A.map List.length).sum := by
  induction A with
  | nil => simp
  | cons x A ih => have := trimB_le x; simp at ih ⊢; omega
theorem putU_len (parts : List (List UInt8)) : (putU parts).length ≤ (parts.map List.length).sum + parts.length := by
  unfold putU
  have h1 := join_len_le [32] ((parts.map trimB).filter neU)
  have h2 := sum_filter_le neU (parts.map trimB)
  have h3 := sum_trim_le parts
  have h4 : ((parts.map trimB).filter neU).length ≤ parts.length := by
    have := List.length_filter_le neU (parts.map trimB)
    simpa using this
  simp only [List.length_singleton, Nat.mul_one] at h1
  omega
theorem le_sum_len (A : List (List UInt8)) : ∀ x ∈ A, x.length ≤ (A.map List.length).sum := by
  induction A with
  | nil => intro x hx; cases hx
  | cons y A ih =>
    intro x hx
    rw [List.map_cons, List.sum_cons]
    rcases List.mem_cons.1 hx with rfl | hx
    · omega
    · have := ih x hx; omega
theorem put_ev (parts : List (List UInt8)) (hn : parts.length < 4294967281) (hs : (parts.map List.length).sum + parts.length ≤ 4294967281) : Ev (fun k => lines_put.f k (parts.map B)) (B (putU parts)) := by
  have hle : ∀ x ∈ parts, x.length ≤ (parts.map List.length).sum := le_sum_len parts
  have main : ∀ i, i ≤ parts.length → Ev (fun k => lines_put.l0 k ((((parts.take i).map trimB).filter neU).map B) (parts.map B) (parts.length : Int) (i : Int)) (B (putU parts)) := by
    refine upto_ind ?_ ?_
    · refine Ev.step (fun k => by rw [lines_put.l0]) ?_
      refine Ev.neg (by omega) ?_
      rw [List.take_length]
      have hp := putU_len parts
      have e : strings_Join.f ((((parts.map trimB).filter neU).map B)) (⟨#[32]⟩ : ByteArray) = some (B (putU parts)) := by
        have em : ((((parts.map trimB).filter neU).map B)).map (fun x => x.data.toList) = (parts.map trimB).filter neU := by
          rw [List.map_map]
          conv => rhs; rw [← List.map_id ((parts.map trimB).filter neU)]
          apply List.map_congr_left
          intro x _
          simp [B_data]
        have e2 : Lib.join (((((parts.map trimB).filter neU).map B)).map (fun x => x.data.toList)) (⟨#[32]⟩ : ByteArray).data.toList = putU parts := by rw [em]; rfl
        have h4 : ((parts.map trimB).filter neU).length ≤ parts.length := by
          have := List.length_filter_le neU (parts.map trimB)
          simpa using this
        unfold strings_Join.f
        rw [if_pos ⟨by rw [List.length_map]; omega, by rw [e2]; omega⟩]
        unfold joined
        rw [e2]
        rfl
      have e3 : words_Join.f ((((parts.map trimB).filter neU).map B)) = some (B (putU parts)) := by
        unfold words_Join.f; rw [e]; rfl
      refine Ev.bind (Ev.of e3) ?_
      exact Ev.ret _
    · intro i hi ih
      have r : rdOf ByteArray.empty (parts.map B) (i : Int) = B parts[i] := by rw [rdOf_get _ _ i (by simpa using hi)]; simp
      have hx := hle parts[i] (List.getElem_mem hi)
      refine Ev.step (fun k => by rw [lines_put.l0]) ?_
      rw [r, wrap_succ i (by omega)]
      refine Ev.pos (by omega) ?_
      refine Ev.pos (by omega) ?_
      refine Ev.pos (by rw [List.length_map]; omega) ?_
      refine Ev.bind (Ev.of (Trim_eq _ (by omega))) ?_
      rw [List.take_succ_eq_append_getElem hi, List.map_append, List.filter_append, List.map_append] at ih
      refine Ev.iff (show ((B (trimB parts[i])).toList = ([] : List UInt8)) = (trimB parts[i] = []) by rw [B_toList]) ?_ ?_
      · intro h
        rw [show ([parts[i]].map trimB).filter neU = [] by simp [neU, h]] at ih
        simpa using ih
      · intro h
        rw [show ([parts[i]].map trimB).filter neU = [trimB parts[i]] by simp [neU, h]] at ih
        refine Ev.pos ?_ ih
        rw [List.length_map]
        have h4 := List.length_filter_le neU ((parts.take i).map trimB)
        simp only [List.length_map, List.length_take] at h4
        omega
  refine Ev.congr (fun k => by rw [lines_put.f]) ?_
  rw [List.length_map]
  have := main 0 (Nat.zero_le _)
  simpa using this
end Go.Proofs.YtgpabkdmagifjaaDoor.X
