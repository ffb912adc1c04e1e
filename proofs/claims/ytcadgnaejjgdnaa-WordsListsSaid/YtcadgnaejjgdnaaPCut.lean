/- words.Cut and the reference's Cut, as one plain function on lists of bytes: the first byte of some that isn't between brackets. -/
import Derived.Test.YtcadgnaejjgdnaaHBase
import Derived.Test.YtcadgnaejjgdnaaHStr
import Derived.Test.YtcadgnaejjgdnaaXW04x
namespace Go.Proofs.Ytcadgnaejjgdnaa.X
open Go.RowKit Go.Proofs.YtcadgnaejjgdnaaW.PrintWords Go.Proofs.YtcadgnaejjgdnaaW.PrintLast Go.Proofs.YtcadgnaejjgdnaaW.PrintMore Go.Proofs.Ytcadgnaejjgdnaa.XW04
set_option linter.unusedSimpArgs false

/-- What a byte makes of the open brackets. -/
def pushB (st : List UInt8) (c : UInt8) : List UInt8 :=
  if c = 40 ∨ c = 123 then st ++ [c]
  else if st.getLast? = some 40 ∧ c = 41 ∨ st.getLast? = some 123 ∧ c = 125 then st.dropLast else st
/-- The place of the first byte of some, from place i on. -/
def cutAt (any : List UInt8) : List UInt8 → Nat → List UInt8 → Option Nat
  | _, _, [] => none
  | st, i, c :: r => if st = [] ∧ c ∈ any then some i else cutAt any (pushB st c) (i + 1) r
def cutOf (s any : List UInt8) : Option Nat := cutAt any [] 0 s

theorem cutAt_lt (any : List UInt8) (s : List UInt8) : ∀ st i j, cutAt any st i s = some j → i ≤ j ∧ j < i + s.length := by
  induction s with
  | nil => intro st i j h; simp [cutAt] at h
  | cons c r ih =>
    intro st i j h
    unfold cutAt at h
    split at h
    · injection h with h; subst h; simp
    · have := ih _ _ _ h; simp only [List.length_cons]; omega
theorem cutOf_lt {s any : List UInt8} {j : Nat} (h : cutOf s any = some j) : j < s.length := by
  have := cutAt_lt any s [] 0 j h; omega

theorem indexByte_ge (l : List UInt8) (c : UInt8) : (Lib.indexByte l c ≥ 0) ↔ c ∈ l := by
  induction l with
  | nil => simp [Lib.indexByte]
  | cons a r ih =>
    have hge := Lib.indexByte_ge r c
    unfold Lib.indexByte
    by_cases h : a = c
    · simp [h]
    · have h1 : (a == c) = false := by simpa using h
      rw [h1, List.mem_cons, ← ih]
      by_cases h2 : Lib.indexByte r c = -1
      · simp [h2, Ne.symm h]
      · have h3 : (Lib.indexByte r c == -1) = false := by simpa using h2
        simp only [h3, Ne.symm h, false_or]
        constructor
        · intro _; omega
        · intro _; simp; omega

def numsOf (l : List UInt8) : List Int := l.map fun c => (c.toNat : Int)
theorem numsOf_len (l : List UInt8) : (numsOf l).length = l.length := by simp [numsOf]

/-- What words.Cut answers. -/
def cutRes (s any : List UInt8) : ByteArray × Int × ByteArray :=
  match cutOf s any with
  | some j => (B (s.take j), ((s.getD j 0).toNat : Int), B (s.drop (j + 1)))
  | none => (B s, 0, B [])
def cutResAt (s : List UInt8) : Option Nat → ByteArray × Int × ByteArray
  | some j => (B (s.take j), ((s.getD j 0).toNat : Int), B (s.drop (j + 1)))
  | none => (B s, 0, B [])

theorem closes_ev (a b : UInt8) : words_closes.f (a.toNat : Int) (b.toNat : Int) = some (decide (a = 40 ∧ b = 41 ∨ a = 123 ∧ b = 125)) := by
  unfold words_closes.f
  have e1 : ((a.toNat : Int) = 40) = (a = 40) := u8_num a 40 (by omega)
  have e2 : ((b.toNat : Int) = 41) = (b = 41) := u8_num b 41 (by omega)
  have e3 : ((a.toNat : Int) = 123) = (a = 123) := u8_num a 123 (by omega)
  have e4 : ((b.toNat : Int) = 125) = (b = 125) := u8_num b 125 (by omega)
  have e5 : ((b.toNat : Int) == 125) = decide (b = 125) := by rw [Bool.eq_iff_iff]; simp [e4]
  simp only [e1, e2, e3, e5]
  by_cases h1 : a = 40
  · subst h1; by_cases h2 : b = 41 <;> simp [h2]
  · simp only [if_neg h1]
    by_cases h3 : a = 123 <;> simp [h3, h1]

theorem words_Cut_ev (s any : List UInt8) (hs : s.length < 4611686018427387904) :
    ∀ i, i ≤ s.length → ∀ st : List UInt8, st.length ≤ i → st.length + s.length - i < 140737488355328 →
      Ev (fun k => words_Cut.l0 k (B s) (B any) (numsOf st) (i : Int)) (cutResAt s (cutAt any st i (s.drop i))) := by
  refine upto_ind ?_ ?_
  · intro st h1 h2
    refine Ev.step (fun k => by rw [words_Cut.l0]) ?_
    rw [B_size, List.drop_length]
    simp only [Int.lt_irrefl, if_false]
    exact Ev.ret _
  · intro i hi ih st h1 h2
    have hlt : (i : Int) < ((B s).size : Int) := by rw [B_size]; omega
    rw [drop_get s i hi]
    have hbt := bt_B s i hi
    refine Ev.step (fun k => by rw [words_Cut.l0]) ?_
    refine Ev.pos hlt (Ev.pos (by omega) ?_)
    rw [hbt]
    have hw := wrap_succ i (by omega)
    -- the way on: the byte is pushed, closes a bracket, or neither
    have on : Ev (fun k => words_Cut.j1 k (B s) (B any) (numsOf st) (i : Int) (s[i].toNat : Int) false) (cutResAt s (cutAt any (pushB st s[i]) (i + 1) (s.drop (i + 1)))) := by
      have e1 : ((s[i].toNat : Int) = 40) = (s[i] = 40) := u8_num _ 40 (by omega)
      have e2 : ((s[i].toNat : Int) == 123) = decide (s[i] = 123) := by
        have := u8_num s[i] 123 (by omega)
        rw [Bool.eq_iff_iff]; simpa using Iff.of_eq this
      refine Ev.step (fun k => by rw [words_Cut.j1]) ?_
      refine Ev.neg (by simp) ?_
      by_cases hp : s[i] = 40 ∨ s[i] = 123
      · have hpush : pushB st s[i] = st ++ [s[i]] := by unfold pushB; rw [if_pos hp]
        rw [hpush]
        have two : Ev (fun k => words_Cut.j2 k (B s) (B any) (numsOf st) (i : Int) (s[i].toNat : Int) true) (cutResAt s (cutAt any (st ++ [s[i]]) (i + 1) (s.drop (i + 1)))) := by
          refine Ev.step (fun k => by rw [words_Cut.j2]) ?_
          refine Ev.pos rfl (Ev.pos (by rw [numsOf_len]; omega) ?_)
          rw [hw]
          have := ih (st ++ [s[i]]) (by simp; omega) (by simp; omega)
          simpa [numsOf] using this
        rcases hp with h | h
        · exact Ev.pos (by rw [e1]; exact h) two
        · refine Ev.neg (by rw [e1, h]; decide) ?_
          rw [e2, decide_eq_true h]; exact two
      · have hpush : pushB st s[i] = if st.getLast? = some 40 ∧ s[i] = 41 ∨ st.getLast? = some 123 ∧ s[i] = 125 then st.dropLast else st := by unfold pushB; rw [if_neg hp]
        have hn40 : ¬ s[i] = 40 := fun h => hp (.inl h)
        have hn123 : ¬ s[i] = 123 := fun h => hp (.inr h)
        refine Ev.neg (by rw [e1]; exact hn40) ?_
        rw [e2, decide_eq_false hn123]
        refine Ev.step (fun k => by rw [words_Cut.j2]) ?_
        refine Ev.neg (by simp) ?_
        rw [hw]
        by_cases hz : st = []
        · subst hz
          refine Ev.neg (by simp [numsOf]) ?_
          rw [hpush, if_neg (by simp)]
          exact ih [] (by simp) (by simp; omega)
        · have hl : 0 < st.length := List.length_pos_iff.2 hz
          have hl' : ((numsOf st).length : Int) > 0 := by rw [numsOf_len]; omega
          have hwp : wrap64 (((numsOf st).length : Int) - 1) = ((st.length - 1 : Nat) : Int) := by rw [numsOf_len]; exact wrap_pred _ hl (by omega)
          rw [hwp]
          refine Ev.pos hl' (Ev.pos (by omega) (Ev.pos (by rw [numsOf_len]; omega) ?_))
          have hrd : rd (numsOf st) ((st.length - 1 : Nat) : Int) = ((st[st.length - 1]'(by omega)).toNat : Int) := by
            rw [rd_get _ _ (by rw [numsOf_len]; omega)]; simp [numsOf]
          have hlast : st.getLast? = some (st[st.length - 1]'(by omega)) := by rw [List.getLast?_eq_getElem?, List.getElem?_eq_getElem (by omega)]
          rw [hrd]
          refine Ev.bind' (closes_ev _ _) ?_
          rw [hlast] at hpush
          simp only [Option.some.injEq] at hpush
          by_cases hc : st[st.length - 1]'(by omega) = 40 ∧ s[i] = 41 ∨ st[st.length - 1]'(by omega) = 123 ∧ s[i] = 125
          · rw [hpush, if_pos hc, decide_eq_true hc]
            refine Ev.pos rfl (Ev.pos (by rw [numsOf_len]; omega) ?_)
            have := ih st.dropLast (by simp; omega) (by simp; omega)
            rw [show (numsOf st).take (((st.length - 1 : Nat) : Int)).toNat = numsOf st.dropLast from by simp [numsOf, List.dropLast_eq_take, List.map_take]]
            exact this
          · rw [hpush, if_neg hc, decide_eq_false hc]
            refine Ev.neg (by simp) ?_
            exact ih st (by omega) (by omega)
    unfold cutAt
    by_cases hst : st = []
    · subst hst
      refine Ev.pos rfl (Ev.bind' rfl ?_)
      rw [B_data, u8_back]
      by_cases hm : s[i] ∈ any
      · rw [if_pos ⟨rfl, hm⟩, decide_eq_true ((indexByte_ge any s[i]).2 hm)]
        refine Ev.step (fun k => by rw [words_Cut.j1]) ?_
        rw [hw, B_size]
        refine Ev.pos rfl (Ev.pos (by omega) (Ev.pos (by omega) (Ev.pos (by omega) (Ev.pos (by omega) ?_))))
        refine Ev.of ?_
        rw [B_extract, B_extract]
        simp [cutResAt, hi]
      · rw [if_neg (fun h => hm h.2), decide_eq_false (fun h => hm ((indexByte_ge any s[i]).1 h))]
        exact on
    · have hl : 0 < st.length := List.length_pos_iff.2 hst
      refine Ev.neg (by rw [numsOf_len]; omega) ?_
      rw [if_neg (fun h => hst h.1)]
      exact on

theorem words_Cut_f_ev (s any : List UInt8) (hs : s.length < 70368744177664) : Ev (fun k => words_Cut.f k (B s) (B any)) (cutRes s any) := by
  have := words_Cut_ev s any (by omega) 0 (by omega) [] (by simp) (by simp; omega)
  exact Ev.congr (fun k => by rw [words_Cut.f]; rfl) this

end Go.Proofs.Ytcadgnaejjgdnaa.X
