/- package stem and its reference, as plain functions on lists of bytes. -/
import Derived.Test.YtcadgnaejjgdnaaDoorHBase
import Derived.Test.YtcadgnaejjgdnaaDoorHStr
import Derived.Test.YtcadgnaejjgdnaaDoorXW12x
namespace Go.Proofs.YtcadgnaejjgdnaaDoor.X
open Go.RowKit Go.Proofs.YtcadgnaejjgdnaaDoorW.PrintWords Go.Proofs.YtcadgnaejjgdnaaDoorW.PrintLast Go.Proofs.YtcadgnaejjgdnaaDoorW.PrintMore Go.Proofs.YtcadgnaejjgdnaaDoor.XW12
set_option linter.unusedSimpArgs false
set_option linter.unusedVariables false

/-- The place of the first byte c. -/
def pos (c : UInt8) : List UInt8 → Option Nat
  | [] => none
  | b :: l => if b = c then some 0 else (pos c l).map (· + 1)
def posI (o : Option Nat) : Int := match o with | some i => (i : Int) | none => -1
theorem pos_lt {c : UInt8} {l : List UInt8} : ∀ {i : Nat}, pos c l = some i → i < l.length := by
  induction l with
  | nil => intro i h; simp [pos] at h
  | cons b l ih =>
    intro i h
    unfold pos at h
    split at h
    · injection h with h; subst h; simp
    · cases hp : pos c l with
      | none => rw [hp] at h; simp at h
      | some j => rw [hp] at h; simp at h; have := ih hp; simp; omega
theorem pos_get {c : UInt8} {l : List UInt8} : ∀ {i : Nat} (h : pos c l = some i), l[i]'(pos_lt h) = c := by
  induction l with
  | nil => intro i h; simp [pos] at h
  | cons b l ih =>
    intro i h
    have h0 := h
    unfold pos at h
    split at h
    · rename_i hb; injection h with h; subst h; simpa using hb
    · cases hp : pos c l with
      | none => rw [hp] at h; simp at h
      | some j => rw [hp] at h; simp at h; subst h; simpa using ih hp
theorem pos_split {c : UInt8} {l : List UInt8} {i : Nat} (h : pos c l = some i) : l = l.take i ++ c :: l.drop (i + 1) := by
  have h1 := pos_lt h
  have h2 := pos_get h
  conv => lhs; rw [← List.take_append_drop i l, drop_get l i h1, h2]
theorem index_pos (c : UInt8) (l : List UInt8) : Lib.index l [c] = posI (pos c l) := by
  induction l with
  | nil => simp [Lib.index, pos, posI]
  | cons b l ih =>
    unfold Lib.index pos
    rw [ih]
    by_cases h : b = c
    · subst h; simp [posI]
    · have h1 : ([c].isPrefixOf (b :: l)) = false := by simp [List.isPrefixOf, Ne.symm h]
      rw [h1, if_neg h]
      cases hp : pos c l with
      | none => simp [posI]
      | some j =>
        have : ((j : Int) == -1) = false := by simp
        simp [posI, this]
theorem posI_neg (o : Option Nat) : posI o < 0 ↔ o = none := by cases o <;> simp [posI]
theorem posI_ge (o : Option Nat) : posI o ≥ 0 ↔ o.isSome = true := by cases o <;> simp [posI]

/-- The stem of a word, and whether it is of the pattern. -/
def matchS (p word : List UInt8) : List UInt8 × Bool :=
  match pos 37 p with
  | none => ([], decide (p = word))
  | some i =>
    if i + (p.length - (i + 1)) < word.length ∧ word.take i = p.take i ∧ word.drop (word.length - (p.length - (i + 1))) = p.drop (i + 1) then ((word.take (word.length - (p.length - (i + 1)))).drop i, true) else ([], false)
def putS (p s : List UInt8) : List UInt8 :=
  match pos 37 p with
  | none => p
  | some i => p.take i ++ s ++ p.drop (i + 1)
def changeS (word a b : List UInt8) : List UInt8 :=
  if (matchS a word).2 = true then (if (pos 37 a).isSome = true then putS b (matchS a word).1 else b) else word
def pairB (x : List UInt8 × Bool) : ByteArray × Bool := (B x.1, x.2)

theorem Has_eq (p : List UInt8) (hp : p.length < 4294967281) : stem_Has.f (B p) = some ((pos 37 p).isSome) := by
  unfold stem_Has.f strings_Contains.f strings_Index.f stringslite_Index.f
  rw [if_pos (by rw [B_size]; exact hp), B_data]
  simp only [Option.bind_some]
  rw [index_pos]
  cases hq : pos 37 p <;> simp [posI]

theorem Cut_eq (p : List UInt8) (hp : p.length < 4294967281) : strings_Cut.f (B p) (⟨#[37]⟩ : ByteArray) = some (match pos 37 p with | some i => (B (p.take i), B (p.drop (i + 1)), true) | none => (B p, B [], false)) := by
  have h1 : stringslite_Index.f (B p) (⟨#[37]⟩ : ByteArray) = some (Lib.index p [37]) := by
    unfold stringslite_Index.f
    rw [if_pos (by rw [B_size]; exact hp), B_data]
  have h2 : ((⟨#[37]⟩ : ByteArray).size : Int) = ((1 : Nat) : Int) := rfl
  unfold strings_Cut.f stringslite_Cut.f
  rw [h1, h2]
  simp only [Option.bind_some]
  have hI := index_pos 37 p
  cases hq : pos 37 p with
  | none =>
    have hI' : Lib.index p [37] = -1 := by rw [hI, hq]; rfl
    rw [hI', if_neg (by omega)]; rfl
  | some i =>
    have hI' : Lib.index p [37] = (i : Int) := by rw [hI, hq]; rfl
    have hi := pos_lt hq
    rw [hI', wrap_add i 1 (by omega), B_size, if_pos (by omega), if_pos (by omega), if_pos (by omega), if_pos (by omega), if_pos (by omega), B_extract, B_extract]
    rw [show ((i : Nat) : Int).toNat = i from by omega, show ((i + 1 : Nat) : Int).toNat = i + 1 from by omega, List.take_length]; rfl

theorem prefix_iff (a b : List UInt8) : Lib.hasPrefix a b = true ↔ a.take b.length = b := by
  unfold Lib.hasPrefix
  rw [List.isPrefixOf_iff_prefix, List.prefix_iff_eq_take]
  exact eq_comm
theorem suffix_iff (a b : List UInt8) (h : b.length ≤ a.length) : Lib.hasSuffix a b = true ↔ a.drop (a.length - b.length) = b := by
  unfold Lib.hasSuffix
  rw [List.isSuffixOf_iff_suffix, List.suffix_iff_eq_drop]
  exact eq_comm

theorem Match_eq (p word : List UInt8) (hp : p.length < 4294967281) (hw : word.length < 4294967281) : stem_Match.f (B p) (B word) = some (pairB (matchS p word)) := by
  unfold stem_Match.f
  rw [Cut_eq p hp]
  simp only [Option.bind_some]
  cases hq : pos 37 p with
  | none =>
    unfold matchS pairB
    rw [hq]
    simp only [B_toList]
    simp only [if_neg (show ¬ (false = true) by simp)]
    rw [show (p == word) = decide (p = word) from by rw [Bool.eq_iff_iff]; simp]; rfl
  | some i =>
    have hi := pos_lt hq
    unfold matchS pairB
    rw [hq]
    simp only [if_true, B_size, B_toList]
    have l1 : (p.take i).length = i := by simp; omega
    have l2 : (p.drop (i + 1)).length = p.length - (i + 1) := by simp
    rw [l1, l2, wrap_add i (p.length - (i + 1)) (by omega)]
    have hP : strings_HasPrefix.f (B word) (B (p.take i)) = some (Lib.hasPrefix word (p.take i)) := by unfold strings_HasPrefix.f; rw [B_data, B_data]
    have hS : strings_HasSuffix.f (B word) (B (p.drop (i + 1))) = some (Lib.hasSuffix word (p.drop (i + 1))) := by unfold strings_HasSuffix.f; rw [if_pos (by rw [B_size]; omega), B_data, B_data]
    simp only [hP, hS, Option.bind_some]
    by_cases h1 : i + (p.length - (i + 1)) < word.length
    · rw [if_neg (by omega)]
      have e1 := prefix_iff word (p.take i)
      rw [l1] at e1
      have e2 := suffix_iff word (p.drop (i + 1)) (by rw [l2]; omega)
      rw [l2] at e2
      by_cases h2 : word.take i = p.take i
      · rw [if_pos (e1.2 h2)]
        by_cases h3 : word.drop (word.length - (p.length - (i + 1))) = p.drop (i + 1)
        · rw [if_pos (e2.2 h3), wrap_sub word.length (p.length - (i + 1)) (by omega) (by omega), if_pos (by omega), if_pos (by omega), if_pos (by omega), if_pos ⟨h1, h2, h3⟩, B_extract]
          simp
        · rw [if_neg (fun h => h3 (e2.1 h)), if_neg (fun h => h3 h.2.2)]; rfl
      · rw [if_neg (fun h => h2 (e1.1 h)), if_neg (fun h => h2 h.2.1)]; rfl
    · rw [if_pos (by omega), if_neg (fun h => h1 h.1)]; rfl

theorem count_zero {p s : List UInt8} (h : Lib.index p s = -1) : Lib.count p s = 0 := Lib.count_miss h
theorem replace_one (p s : List UInt8) : Lib.replace p [37] s 1 = putS p s := by
  unfold Lib.replace putS
  have hI := index_pos 37 p
  cases hq : pos 37 p with
  | none =>
    rw [hq] at hI
    have hn : Lib.replaceNum p [37] 1 = 0 := by
      unfold Lib.replaceNum
      rw [count_zero hI]; simp
    rw [hn]
    split <;> rfl
  | some i =>
    rw [hq] at hI
    have hI' : Lib.index p [37] = (i : Int) := hI
    have hc := Lib.count_hit (by simp) hI'
    have hn : Lib.replaceNum p [37] 1 = 1 := by
      unfold Lib.replaceNum
      rw [if_neg (by omega)]; rfl
    rw [hn]
    split
    · rename_i he
      have he' : s = [37] := (beq_iff_eq.1 he).symm
      subst he'
      have := pos_split hq
      simp only [List.append_assoc, List.singleton_append]
      exact this
    · rw [Lib.replaceK_hit [37] s 0 p i hI']
      simp [Lib.replaceK]
theorem countB_le' (p : List UInt8) : Lib.countB (B p) (⟨#[37]⟩ : ByteArray) ≤ p.length + 1 := by
  unfold Lib.countB
  rw [B_data]; exact Lib.count_le _ _
theorem Put_eq (p s : List UInt8) (hp : p.length < 4000000) (hs : s.length < 4000000) : stem_Put.f (B p) (B s) = some (B (putS p s)) := by
  unfold stem_Put.f strings_Replace.f
  have h1 := countB_le' p
  have h2 : Lib.countB (B p) (⟨#[37]⟩ : ByteArray) * s.length ≤ 4000001 * 4000000 := Nat.mul_le_mul (by omega) (by omega)
  rw [if_pos ⟨by rw [B_size]; omega, by decide, by rw [B_size, B_size]; omega⟩, B_data, B_data, show (⟨#[37]⟩ : ByteArray).data.toList = [37] from rfl, replace_one]
  rfl
theorem putS_len (p s : List UInt8) : (putS p s).length ≤ p.length + s.length := by
  unfold putS
  cases hq : pos 37 p with
  | none => simp
  | some i => simp; omega
theorem matchS_len (p w : List UInt8) : (matchS p w).1.length ≤ w.length := by
  unfold matchS
  cases hq : pos 37 p with
  | none => simp
  | some i => simp only; split <;> simp; omega
theorem Change_eq (w a b : List UInt8) (hw : w.length < 4000000) (ha : a.length < 4000000) (hb : b.length < 4000000) : stem_Change.f (B w) (B a) (B b) = some (B (changeS w a b)) := by
  unfold stem_Change.f changeS
  rw [Match_eq a w (by omega) (by omega)]
  have := matchS_len a w
  simp only [Option.bind_some, pairB]
  split
  · rw [Has_eq a (by omega)]
    simp only [Option.bind_some]
    split
    · rw [Put_eq b _ hb (by omega)]; rfl
    · rfl
  · rfl
theorem lives12 : flatironlaw12_lives.f = some true := by
  unfold flatironlaw12_lives.f
  have e := Change_eq [120, 46, 99] [37, 46, 99] [37, 46, 111] (by simp) (by simp) (by simp)
  have e2 := Has_eq [37] (by simp)
  have e3 : changeS [120, 46, 99] [37, 46, 99] [37, 46, 111] = [120, 46, 111] := by decide
  rw [e3] at e
  rw [show stem_Change.f ⟨#[120, 46, 99]⟩ ⟨#[37, 46, 99]⟩ ⟨#[37, 46, 111]⟩ = _ from e]
  simp only [Option.bind_some, B_toList]
  rw [if_pos trivial, show stem_Has.f ⟨#[37]⟩ = _ from e2]
  rfl

theorem At_ev (p : List UInt8) (hp : p.length < 4611686018427387904) : Ev (fun k => flatironref12_At.f k (B p)) (posI (pos 37 p)) := by
  have key : ∀ i, i ≤ p.length → Ev (fun k => flatironref12_At.l0 k (B p) (i : Int)) (posI ((pos 37 (p.drop i)).map (· + i))) := by
    refine upto_ind ?_ ?_
    · refine Ev.step (fun k => by rw [flatironref12_At.l0]) ?_
      rw [B_size, List.drop_length]
      exact Ev.neg (by omega) (Ev.ret _)
    · intro i hi ih
      refine Ev.step (fun k => by rw [flatironref12_At.l0]) ?_
      rw [B_size, bt_B p i hi, wrap_succ i (by omega), drop_get p i hi]
      refine Ev.pos (by omega) (Ev.pos (by omega) (Ev.iff (d := p[i] = 37) (u8_num _ 37 (by omega)) (fun h => ?_) (fun h => ?_)))
      · refine Ev.of ?_
        rw [pos, if_pos h]; simp [posI]
      · refine Ev.eq ih ?_
        conv => rhs; rw [pos, if_neg h]
        cases pos 37 (p.drop (i + 1)) <;> simp [posI]; omega
  have := key 0 (by omega)
  refine Ev.eq (Ev.congr (fun k => by rw [flatironref12_At.f]; rfl) this) ?_
  rw [List.drop_zero]
  cases pos 37 p <;> simp

theorem refMatch_ev (p word : List UInt8) (hp : p.length < 4294967281) (hw : word.length < 4294967281) : Ev (fun k => flatironref12_Match.f k (B p) (B word)) (pairB (matchS p word)) := by
  refine Ev.congr (fun k => by rw [flatironref12_Match.f]) ?_
  refine Ev.bind (At_ev p (by omega)) ?_
  cases hq : pos 37 p with
  | none =>
    refine Ev.pos ((posI_neg _).2 rfl) (Ev.of ?_)
    unfold matchS pairB
    rw [hq]
    simp only [B_toList]
    rw [show (p == word) = decide (p = word) from by rw [Bool.eq_iff_iff]; simp]; rfl
  | some i =>
    have hi := pos_lt hq
    simp only [posI, B_size]
    rw [wrap_succ i (by omega)]
    have t1 : ((i + 1 : Nat) : Int).toNat = i + 1 := by omega
    have t2 : ((i : Nat) : Int).toNat = i := by omega
    simp only [t1, t2, B_extract, B_toList]
    refine Ev.neg (by omega) (Ev.pos (by omega) (Ev.pos (by omega) ?_))
    have hm : matchS p word = if i + (p.length - (i + 1)) < word.length ∧ word.take i = p.take i ∧ word.drop (word.length - (p.length - (i + 1))) = p.drop (i + 1) then ((word.take (word.length - (p.length - (i + 1)))).drop i, true) else ([], false) := by
      unfold matchS; rw [hq]
    have good : (h : i + (p.length - (i + 1)) < word.length ∧ word.take i = p.take i ∧ word.drop (word.length - (p.length - (i + 1))) = p.drop (i + 1)) → pairB (matchS p word) = (B ((word.take (word.length - (p.length - (i + 1)))).drop i), true) := fun h => by rw [hm, if_pos h]; rfl
    have bad : ¬ (i + (p.length - (i + 1)) < word.length ∧ word.take i = p.take i ∧ word.drop (word.length - (p.length - (i + 1))) = p.drop (i + 1)) → pairB (matchS p word) = (B [], false) := fun h => by rw [hm, if_neg h]; rfl
    by_cases h1 : i + (p.length - (i + 1)) < word.length
    · have w1 : wrap64 (wrap64 ((word.length : Int) - (i : Int)) - ((p.length - (i + 1) : Nat) : Int)) = ((word.length - i - (p.length - (i + 1)) : Nat) : Int) := by
        rw [wrap_sub word.length i (by omega) (by omega), wrap_sub _ _ (by omega) (by omega)]
      have w2 : wrap64 ((i : Int) + ((word.length - i - (p.length - (i + 1)) : Nat) : Int)) = ((word.length - (p.length - (i + 1)) : Nat) : Int) := by
        rw [wrap_add _ _ (by omega)]; congr 1; omega
      have t3 : ((word.length - (p.length - (i + 1)) : Nat) : Int).toNat = word.length - (p.length - (i + 1)) := by omega
      simp only [w1, w2, t3]
      refine Ev.neg (by omega) (Ev.pos (by omega) (Ev.pos (by omega) (Ev.pos (by omega) ?_)))
      have hd : ∀ l : List UInt8, l.take l.length = l := fun l => List.take_length
      simp only [List.drop_zero, hd]
      refine Ev.ite (fun h2 => ?_) (fun h2 => ?_)
      · refine Ev.pos (by omega) (Ev.pos (by omega) (Ev.ite (fun h3 => ?_) (fun h3 => ?_)))
        · rw [good ⟨h1, h2, h3⟩]
          exact Ev.pos (by omega) (Ev.ret _)
        · rw [bad (fun h => h3 h.2.2)]
          exact Ev.ret _
      · rw [bad (fun h => h2 h.2.1)]
        exact Ev.ret _
    · rw [bad (fun h => h1 h.1)]
      have w1 : wrap64 (wrap64 ((word.length : Int) - (i : Int)) - ((p.length - (i + 1) : Nat) : Int)) < 1 := by unfold wrap64; omega
      exact Ev.pos w1 (Ev.ret _)

theorem refPut_ev (p s : List UInt8) (hp : p.length < 4294967281) (hs : s.length < 4294967281) : Ev (fun k => flatironref12_Put.f k (B p) (B s)) (B (putS p s)) := by
  refine Ev.congr (fun k => by rw [flatironref12_Put.f]) ?_
  refine Ev.bind (At_ev p (by omega)) ?_
  unfold putS
  cases hq : pos 37 p with
  | none => exact Ev.pos ((posI_neg _).2 rfl) (Ev.ret _)
  | some i =>
    have hi := pos_lt hq
    simp only [posI, B_size]
    rw [wrap_succ i (by omega)]
    have t1 : ((i + 1 : Nat) : Int).toNat = i + 1 := by omega
    have t2 : ((i : Nat) : Int).toNat = i := by omega
    simp only [t1, t2, B_extract, B_append]
    refine Ev.neg (by omega) (Ev.pos (by omega) (Ev.pos (by omega) (Ev.pos (by omega) (Ev.pos (by omega) (Ev.pos (by omega) (Ev.pos (by omega) (Ev.of ?_)))))))
    simp

theorem refChange_ev (w a b : List UInt8) (hw : w.length < 4000000) (ha : a.length < 4000000) (hb : b.length < 4000000) : Ev (fun k => flatironref12_Change.f k (B w) (B a) (B b)) (B (changeS w a b)) := by
  refine Ev.congr (fun k => by rw [flatironref12_Change.f]) ?_
  refine Ev.bind (refMatch_ev a w (by omega) (by omega)) ?_
  have := matchS_len a w
  unfold changeS pairB
  refine Ev.ite (fun h => ?_) (fun h => ?_)
  · rw [if_pos h]
    refine Ev.bind (At_ev a (by omega)) ?_
    cases hq : pos 37 a with
    | none => exact Ev.pos ((posI_neg _).2 rfl) (Ev.of (by simp))
    | some i =>
      refine Ev.neg (by simp [posI]) ?_
      rw [if_pos (by simp)]
      exact Ev.bind (refPut_ev b _ (by omega) (by omega)) (Ev.ret _)
  · rw [if_neg h]
    exact Ev.ret _
theorem put_match {p word : List UInt8} (h : (matchS p word).2 = true) (hp : (pos 37 p).isSome = true) : putS p (matchS p word).1 = word := by
  unfold putS
  unfold matchS at h ⊢
  cases hq : pos 37 p with
  | none => rw [hq] at hp; simp at hp
  | some i =>
    rw [hq] at h
    simp only at h ⊢
    split at h
    · rename_i hc
      rw [if_pos hc]
      obtain ⟨h1, h2, h3⟩ := hc
      simp only
      rw [← h2, ← h3]
      have e : word.take i = (word.take (word.length - (p.length - (i + 1)))).take i := by rw [List.take_take]; congr 1; omega
      rw [e, List.take_append_drop, List.take_append_drop]
    · simp at h
theorem put_none {p s : List UInt8} (hp : pos 37 p = none) : putS p s = p := by unfold putS; rw [hp]
end Go.Proofs.YtcadgnaejjgdnaaDoor.X
