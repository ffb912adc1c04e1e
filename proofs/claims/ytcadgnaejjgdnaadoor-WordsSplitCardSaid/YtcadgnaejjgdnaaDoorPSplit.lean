/- The reference's Split, as a plain function on lists of bytes: it is what words.Each goes through. -/
import Derived.Test.YtcadgnaejjgdnaaDoorHEach
import Derived.Test.YtcadgnaejjgdnaaDoorXE04x1
namespace Go.Proofs.YtcadgnaejjgdnaaDoor.X
open Go.RowKit Go.Proofs.YtcadgnaejjgdnaaDoorW.PrintWords Go.Proofs.YtcadgnaejjgdnaaDoorW.PrintLast Go.Proofs.YtcadgnaejjgdnaaDoorW.PrintMore Go.Proofs.YtcadgnaejjgdnaaDoor.XE04
set_option linter.unusedSimpArgs false
set_option linter.unusedVariables false

theorem refBlank_eq (b : UInt8) : flatironref04_Blank.f (b.toNat : Int) = some (blankU b) := by
  unfold flatironref04_Blank.f blankU
  have e1 : ((b.toNat : Int) = 32) = (b = 32) := u8_num b 32 (by decide)
  have e2 : ((b.toNat : Int) = 9) = (b = 9) := u8_num b 9 (by decide)
  have e3 : ((b.toNat : Int) = 10) = (b = 10) := u8_num b 10 (by decide)
  by_cases h1 : b = 32
  · rw [if_pos (Eq.mpr e1 h1)]; simp [h1]
  · rw [if_neg (fun e => h1 (Eq.mp e1 e))]
    by_cases h2 : b = 9
    · rw [if_pos (Eq.mpr e2 h2)]; simp [h2]
    · rw [if_neg (fun e => h2 (Eq.mp e2 e))]
      by_cases h3 : b = 10
      · have : ((b.toNat : Int) == 10) = true := beq_iff_eq.2 (Eq.mpr e3 h3)
        rw [this]; simp [h3]
      · have : ((b.toNat : Int) == 10) = false := beq_false_of_ne (fun e => h3 (Eq.mp e3 e))
        rw [this]; simp [h1, h2, h3]

def partsOf (r : List (Nat × ByteArray)) : List ByteArray × List Int := (r.map (·.2), r.map fun x => (x.1 : Int))

theorem refSplit04_ev (l : List UInt8) (hl : l.length < 4294967281) : Ev (fun k => flatironref04_Split.f k (B l)) (partsOf (eachS l)) := by
  have key : ∀ i, i ≤ l.length → ∀ (beg : Nat) (out : List ByteArray) (st : List Int), beg ≤ i → out.length ≤ i → st.length ≤ i →
      Ev (fun k => flatironref04_Split.l0 k (B l) out st (beg : Int) (i : Int)) (out ++ (eachA beg ((l.take i).drop beg) i (l.drop i)).map (·.2), st ++ (eachA beg ((l.take i).drop beg) i (l.drop i)).map fun x => (x.1 : Int)) := by
    have jt : ∀ (i : Nat) (beg : Nat) (out : List ByteArray) (st : List Int) (r : List ByteArray × List Int), i ≤ l.length → beg ≤ i → out.length ≤ i → st.length ≤ i →
        Ev (fun k => flatironref04_Split.l0 k (B l) (if beg < i then out ++ [B ((l.take i).drop beg)] else out) (if beg < i then st ++ [(beg : Int)] else st) ((i + 1 : Nat) : Int) ((i + 1 : Nat) : Int)) r →
        Ev (fun k => flatironref04_Split.j1 k (B l) out st (beg : Int) (i : Int) true) r := by
      intro i beg out st r hi hb ho hs h
      refine Ev.step (fun k => by rw [flatironref04_Split.j1]) ?_
      rw [wrap_succ i (by omega), B_size, B_extract, Int.toNat_natCast, Int.toNat_natCast]
      refine Ev.pos rfl ?_
      by_cases hp : beg < i
      · rw [if_pos hp, if_pos hp] at h
        exact Ev.pos (by omega) (Ev.pos (by omega) (Ev.pos (by omega) (Ev.pos (by omega) (Ev.pos (by omega) (Ev.pos (by omega) h)))))
      · rw [if_neg hp, if_neg hp] at h
        exact Ev.neg (by omega) h
    have cur : ∀ i beg, i ≤ l.length → ((l.take i).drop beg = [] ↔ ¬ beg < i) := by
      intro i beg h1
      rw [List.drop_eq_nil_iff, List.length_take, Nat.min_eq_left h1]; omega
    refine upto_ind ?_ ?_
    · intro beg out st hb ho hs
      refine Ev.step (fun k => by rw [flatironref04_Split.l0]) ?_
      rw [B_size]
      refine Ev.pos (by omega) (Ev.pos rfl ?_)
      rw [show (((l.length : Nat) : Int) == ((l.length : Nat) : Int)) = true by simp]
      refine jt _ _ _ _ _ (Nat.le_refl _) hb ho hs ?_
      refine Ev.step (fun k => by rw [flatironref04_Split.l0]) ?_
      rw [B_size]
      refine Ev.neg (by omega) (Ev.of ?_)
      rw [List.drop_length]
      have hc := cur l.length beg (Nat.le_refl _)
      by_cases hp : beg < l.length
      · rw [if_pos hp, if_pos hp, eachA, if_neg (fun e => hc.1 e hp)]; rfl
      · rw [if_neg hp, if_neg hp, eachA, if_pos (hc.2 hp)]; simp
    · intro i hi ih beg out st hb ho hs
      refine Ev.step (fun k => by rw [flatironref04_Split.l0]) ?_
      rw [B_size, bt_B l i hi]
      refine Ev.pos (by omega) (Ev.neg (by omega) (Ev.pos (by omega) (Ev.pos (by omega) ?_)))
      refine Ev.bind' (refBlank_eq l[i]) ?_
      have hc := cur i beg (by omega)
      rw [drop_get l i hi, eachA]
      by_cases hbl : blankU l[i] = true
      · rw [hbl, if_pos rfl]
        refine jt _ _ _ _ _ (by omega) hb ho hs ?_
        have nx := ih (i + 1) (if beg < i then out ++ [B ((l.take i).drop beg)] else out) (if beg < i then st ++ [(beg : Int)] else st) (Nat.le_refl _) (by split <;> (try simp) <;> omega) (by split <;> (try simp) <;> omega)
        rw [show (l.take (i + 1)).drop (i + 1) = [] by simp] at nx
        refine Ev.eq nx ?_
        by_cases hp : beg < i
        · rw [if_pos hp, if_pos hp, if_neg (fun e => hc.1 e hp)]; simp
        · rw [if_neg hp, if_neg hp, if_pos (hc.2 hp)]
      · have hbf : blankU l[i] = false := by simpa using hbl
        rw [hbf]
        refine Ev.step (fun k => by rw [flatironref04_Split.j1]) ?_
        rw [wrap_succ i (by omega)]
        refine Ev.neg (by simp) ?_
        have nx := ih beg out st (by omega) (by omega) (by omega)
        have e1 : (l.take (i + 1)).drop beg = (l.take i).drop beg ++ [l[i]] := by
          rw [List.take_succ_eq_append_getElem (by omega), List.drop_append_of_le_length (by simp; omega)]
        rw [e1] at nx
        refine Ev.eq nx ?_
        simp
  exact Ev.congr (fun k => by rw [flatironref04_Split.f]; rfl) (Ev.eq (key 0 (by omega) 0 [] [] (by omega) (by simp) (by simp)) (by simp [partsOf, eachS]))
end Go.Proofs.YtcadgnaejjgdnaaDoor.X
