/- The reference's Cut, as the same plain function; WordsCut's pure statement. -/
import Derived.Test.YtcadgnaejjgdnaaPCut
namespace Go.Proofs.Ytcadgnaejjgdnaa.X
open Go.RowKit Go.Proofs.YtcadgnaejjgdnaaW.PrintWords Go.Proofs.YtcadgnaejjgdnaaW.PrintLast Go.Proofs.YtcadgnaejjgdnaaW.PrintMore Go.Proofs.Ytcadgnaejjgdnaa.XW04
set_option linter.unusedSimpArgs false

theorem refHas_ev (l : List UInt8) (c : UInt8) (hl : l.length < 4611686018427387904) :
    Ev (fun k => flatironref04_Has.f k (B l) (c.toNat : Int)) (decide (c ∈ l)) := by
  have key : ∀ i, i ≤ l.length → Ev (fun k => flatironref04_Has.l0 k (B l) (c.toNat : Int) (i : Int)) (decide (c ∈ l.drop i)) := by
    refine upto_ind ?_ ?_
    · refine Ev.step (fun k => by rw [flatironref04_Has.l0]) ?_
      rw [B_size, List.drop_length]
      exact Ev.neg (by omega) (Ev.of (by simp))
    · intro i hi ih
      refine Ev.step (fun k => by rw [flatironref04_Has.l0]) ?_
      rw [B_size, bt_B l i hi, wrap_succ i (by omega)]
      refine Ev.pos (by omega) (Ev.pos (by omega) (Ev.iff (u8_toNat_eq _ _) (fun h => ?_) (fun h => ?_)))
      · exact Ev.of (by rw [decide_eq_true ((mem_drop_iff l i hi c).2 (.inl h.symm))])
      · refine Ev.eq ih (decide_eq_decide.2 ?_)
        rw [mem_drop_iff l i hi]
        simp [Ne.symm h]
  have := key 0 (by omega)
  exact Ev.congr (fun k => by rw [flatironref04_Has.f]; rfl) this

def refRes : Option Nat → Int
  | some j => (j : Int)
  | none => -1

theorem refCut_ev (s any : List UInt8) (hs : s.length < 70368744177664) (ha : any.length < 70368744177664) :
    ∀ i, i ≤ s.length → ∀ st : List UInt8, st.length ≤ i →
      Ev (fun k => flatironref04_Cut.l0 k (B s) (B any) (B st) (i : Int)) (refRes (cutAt any st i (s.drop i))) := by
  refine upto_ind ?_ ?_
  · intro st h1
    refine Ev.step (fun k => by rw [flatironref04_Cut.l0]) ?_
    rw [B_size, List.drop_length]
    exact Ev.neg (by omega) (Ev.ret _)
  · intro i hi ih st h1
    have hbt := bt_B s i hi
    have hw := wrap_succ i (by omega)
    rw [drop_get s i hi]
    have e1 : ((s[i].toNat : Int) = 40) = (s[i] = 40) := u8_num _ 40 (by omega)
    have e3 : ((s[i].toNat : Int) = 41) = (s[i] = 41) := u8_num _ 41 (by omega)
    have e4 : ((s[i].toNat : Int) = 125) = (s[i] = 125) := u8_num _ 125 (by omega)
    have q1 : ((s[i].toNat : Int) == 40) = decide (s[i] = 40) := by rw [Bool.eq_iff_iff]; simpa using Iff.of_eq e1
    have q2 : ((s[i].toNat : Int) == 123) = decide (s[i] = 123) := by
      have := u8_num s[i] 123 (by omega)
      rw [Bool.eq_iff_iff]; simpa using Iff.of_eq this
    -- a bracket that closes: the last open one, if it fits
    have pop : ∀ (b c : UInt8) (bn : Nat), bn < 256 → b = UInt8.ofNat bn → Ev (fun k => if st = [] then (flatironref04_Cut.l0 k (B s) (B any) (B st) ((i + 1 : Nat) : Int)) else (if 0 ≤ (wrap64 ((st.length : Int) - 1)) then (if (wrap64 ((st.length : Int) - 1)) < (st.length : Int) then (if (bt (B st) (wrap64 ((st.length : Int) - 1))) = (bn : Int) then (if (wrap64 ((st.length : Int) - 1)) ≤ (st.length : Int) then (flatironref04_Cut.l0 k (B s) (B any) ((B st).extract 0 ((wrap64 ((st.length : Int) - 1)) : Int).toNat) ((i + 1 : Nat) : Int)) else (none)) else (flatironref04_Cut.l0 k (B s) (B any) (B st) ((i + 1 : Nat) : Int))) else (none)) else (none)))
        (refRes (cutAt any (if st.getLast? = some b then st.dropLast else st) (i + 1) (s.drop (i + 1)))) := by
      intro b c bn hbn hb
      refine Ev.ite (fun hz => ?_) (fun hz => ?_)
      · subst hz
        rw [if_neg (by simp)]
        exact ih [] (by simp)
      · have hl : 0 < st.length := List.length_pos_iff.2 hz
        rw [wrap_pred _ hl (by omega)]
        refine Ev.pos (by omega) (Ev.pos (by omega) ?_)
        rw [bt_B st _ (by omega)]
        have hlast : st.getLast? = some (st[st.length - 1]'(by omega)) := by rw [List.getLast?_eq_getElem?, List.getElem?_eq_getElem (by omega)]
        rw [hlast]
        simp only [Option.some.injEq]
        refine Ev.iff (u8_num _ bn hbn) (fun h => ?_) (fun h => ?_) <;> rw [← hb] at h
        · rw [if_pos h]
          refine Ev.pos (by omega) ?_
          rw [B_extract, show ((((st.length - 1 : Nat) : Int)).toNat) = st.length - 1 from by omega, List.drop_zero, ← List.dropLast_eq_take]
          exact ih _ (by simp; omega)
        · rw [if_neg h]
          exact ih st (by omega)
    have on : Ev (fun k => flatironref04_Cut.j1 k (B s) (B any) (B st) (i : Int) false) (refRes (cutAt any (pushB st s[i]) (i + 1) (s.drop (i + 1)))) := by
      refine Ev.step (fun k => by rw [flatironref04_Cut.j1]) ?_
      rw [hbt, B_size]
      refine Ev.neg (by simp) (Ev.pos (by omega) (Ev.pos (by omega) ?_))
      have two : ∀ b : Bool, b = decide (s[i] = 40 ∨ s[i] = 123) → Ev (fun k => flatironref04_Cut.j2 k (B s) (B any) (B st) (i : Int) (s[i].toNat : Int) b) (refRes (cutAt any (pushB st s[i]) (i + 1) (s.drop (i + 1)))) := by
        intro b hb
        refine Ev.step (fun k => by rw [flatironref04_Cut.j2]) ?_
        rw [hw, B_size, B_extract, B_size, B_append, B_size, B_toList]
        have hx : (List.drop ((i : Int)).toNat (List.take (((i + 1 : Nat) : Int)).toNat s)) = [s[i]] := by
          rw [show ((i : Int)).toNat = i from by omega, show (((i + 1 : Nat) : Int)).toNat = i + 1 from by omega]
          exact one_at s i hi
        rw [hx]
        by_cases hp : s[i] = 40 ∨ s[i] = 123
        · rw [hb, decide_eq_true hp]
          have hpush : pushB st s[i] = st ++ [s[i]] := by unfold pushB; rw [if_pos hp]
          rw [hpush]
          refine Ev.pos rfl (Ev.pos (by omega) (Ev.pos (by omega) (Ev.pos (by omega) (Ev.pos (by simp; omega) ?_))))
          exact ih _ (by simp; omega)
        · rw [hb, decide_eq_false hp]
          have hpush : pushB st s[i] = if st.getLast? = some 40 ∧ s[i] = 41 ∨ st.getLast? = some 123 ∧ s[i] = 125 then st.dropLast else st := by unfold pushB; rw [if_neg hp]
          refine Ev.neg (by simp) (Ev.iff e3 (fun h => ?_) (fun h => Ev.iff e4 (fun h' => ?_) (fun h' => ?_)))
          · refine Ev.eq (pop 40 s[i] 40 (by omega) rfl) ?_
            rw [hpush]; simp [h]
          · refine Ev.eq (pop 123 s[i] 123 (by omega) rfl) ?_
            rw [hpush]; simp [h']
          · refine Ev.eq (ih st (by omega)) ?_
            rw [hpush]; simp [h, h']
      rw [q1, q2]
      refine Ev.iff e1 (fun h => two _ ?_) (fun h => two _ ?_)
      · simp [h]
      · simp [h]
    refine Ev.step (fun k => by rw [flatironref04_Cut.l0]) ?_
    rw [hbt, B_size, B_toList]
    refine Ev.pos (by omega) (Ev.pos (by omega) (Ev.bind (refHas_ev any s[i] (by omega)) ?_))
    unfold cutAt
    by_cases hst : st = []
    · subst hst
      refine Ev.pos rfl ?_
      by_cases hm : s[i] ∈ any
      · rw [if_pos ⟨rfl, hm⟩, decide_eq_true hm]
        refine Ev.step (fun k => by rw [flatironref04_Cut.j1]) ?_
        exact Ev.pos rfl (Ev.ret _)
      · rw [if_neg (fun h => hm h.2), decide_eq_false hm]
        exact on
    · refine Ev.neg hst ?_
      rw [if_neg (fun h => hst h.1)]
      exact on

theorem refCut_f_ev (s any : List UInt8) (hs : s.length < 70368744177664) (ha : any.length < 70368744177664) : Ev (fun k => flatironref04_Cut.f k (B s) (B any)) (refRes (cutOf s any)) := by
  have := refCut_ev s any hs ha 0 (by omega) [] (by simp)
  exact Ev.congr (fun k => by rw [flatironref04_Cut.f]; rfl) this

theorem words_Join_ev (l : List ByteArray) (h1 : l.length ≤ 140737488355328) (h2 : (Lib.join (l.map (·.data.toList)) [32]).length ≤ 140737488355328) : words_Join.f l = some (joined l (B [32])) := by
  unfold words_Join.f strings_Join.f
  rw [if_pos ⟨h1, h2⟩]; rfl

theorem lives04_ev : Ev (fun k => flatironlaw04_lives.f k) true := by
  refine Ev.congr (fun k => by rw [flatironlaw04_lives.f]) ?_
  refine Ev.bind (words_Cut_f_ev [97, 40, 98, 58, 99, 41, 58, 100] [58] (by simp)) ?_
  have e : cutRes [97, 40, 98, 58, 99, 41, 58, 100] [58] = (B [97, 40, 98, 58, 99, 41], 58, B [100]) := by
    unfold cutRes
    rw [show cutOf [97, 40, 98, 58, 99, 41, 58, 100] [58] = some 6 from by decide]
    rfl
  rw [e]
  simp only [B_toList]
  refine Ev.pos trivial (Ev.pos trivial (Ev.pos trivial ?_))
  refine Ev.bind' (words_Join_ev _ (by simp) (by decide)) (Ev.of ?_)
  rw [ByteArray.toList_eq]
  decide
end Go.Proofs.Ytcadgnaejjgdnaa.X
