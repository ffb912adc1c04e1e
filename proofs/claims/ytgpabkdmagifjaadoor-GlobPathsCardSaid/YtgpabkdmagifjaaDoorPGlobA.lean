/- package glob and its reference: a pattern, read place by place; plain Lean on lists of bytes. -/
import Derived.Test.YtgpabkdmagifjaaDoorHBase
import Derived.Test.YtgpabkdmagifjaaDoorHStr
import Derived.Test.YtgpabkdmagifjaaDoorXW02x
namespace Go.Proofs.YtgpabkdmagifjaaDoor.X
open Go.RowKit Go.Proofs.YtgpabkdmagifjaaDoorW.PrintWords Go.Proofs.YtgpabkdmagifjaaDoorW.PrintLast Go.Proofs.YtgpabkdmagifjaaDoorW.PrintMore Go.Proofs.YtgpabkdmagifjaaDoor.XW02
set_option linter.unusedSimpArgs false
set_option linter.unusedVariables false

theorem down_ind {n : Nat} {P : Nat → Prop} (h : ∀ i, i ≤ n → (∀ j, i < j → j ≤ n → P j) → P i) : ∀ i, i ≤ n → P i := by
  intro i hi
  obtain ⟨d, hd⟩ : ∃ d, d = n - i := ⟨_, rfl⟩
  induction d using Nat.strongRecOn generalizing i with
  | _ d ih => exact h i hi (fun j h1 h2 => ih (n - j) (by omega) j h2 rfl)
theorem wrap_two (n : Nat) (h : n < 4611686018427387904) : wrap64 ((n : Int) + 2) = ((n + 2 : Nat) : Int) := by unfold wrap64; omega
theorem wrap_three (n : Nat) (h : n < 4611686018427387904) : wrap64 ((n : Int) + 3) = ((n + 3 : Nat) : Int) := by unfold wrap64; omega
theorem beqU (b : UInt8) (n : Nat) (hn : n < 256) : (((b.toNat : Int)) == (n : Int)) = decide (b = UInt8.ofNat n) := by
  have e := u8_num b n hn
  rw [Bool.eq_iff_iff, beq_iff_eq, decide_eq_true_eq, e]
theorem beqUU (a b : UInt8) : (((a.toNat : Int)) == (b.toNat : Int)) = (a == b) := by
  rw [Bool.eq_iff_iff, beq_iff_eq, beq_iff_eq, u8_toNat_eq]
theorem leU (a b : UInt8) : ((a.toNat : Int) ≤ (b.toNat : Int)) = (a ≤ b) := propext ⟨fun h => UInt8.le_iff_toNat_le.2 (by omega), fun h => by have := UInt8.le_iff_toNat_le.1 h; omega⟩

theorem btEq (l : List UInt8) (i n : Nat) (h : i < l.length) (hn : n < 256) : (bt (B l) (i : Int) = (n : Int)) = (l[i] = UInt8.ofNat n) := by rw [bt_B l i h]; exact u8_num _ n hn

/-- The first place, from i on, of a ']'. -/
def endAt (l : List UInt8) (i : Nat) : Option Nat :=
  if h : i < l.length then (if l[i] = 93 then some i else endAt l (i + 1)) else none
  termination_by l.length - i
theorem endAt_none (l : List UInt8) (i : Nat) (h : l.length ≤ i) : endAt l i = none := by rw [endAt, dif_neg (by omega)]
theorem endAt_here (l : List UInt8) (i : Nat) (h : i < l.length) (e : l[i] = 93) : endAt l i = some i := by rw [endAt, dif_pos h, if_pos e]
theorem endAt_next (l : List UInt8) (i : Nat) (h : i < l.length) (e : ¬ l[i] = 93) : endAt l i = endAt l (i + 1) := by
  conv => lhs; rw [endAt, dif_pos h, if_neg e]
theorem endAt_spec (l : List UInt8) : ∀ i, i ≤ l.length → ∀ e, endAt l i = some e → i ≤ e ∧ e < l.length ∧ (∀ h : e < l.length, l[e] = 93) ∧ ∀ j (h : j < l.length), i ≤ j → j < e → ¬ l[j] = 93 := by
  refine upto_ind ?_ ?_
  · intro e h; rw [endAt_none l _ (Nat.le_refl _)] at h; exact absurd h (by simp)
  · intro i hi ih e h
    by_cases h93 : l[i] = 93
    · rw [endAt_here l i hi h93] at h
      obtain rfl := Option.some.inj h
      exact ⟨Nat.le_refl _, hi, fun _ => h93, fun j _ h1 h2 => by omega⟩
    · rw [endAt_next l i hi h93] at h
      obtain ⟨h1, h2, h3, h4⟩ := ih e h
      refine ⟨by omega, h2, h3, fun j hj h5 h6 => ?_⟩
      by_cases e1 : j = i
      · subst e1; exact h93
      · exact h4 j hj (by omega) h6
def endS (r : List UInt8) : Option Nat := endAt r (if r.head? = some 33 then 2 else 1)
def resE (o : Option Nat) : Int := match o with | some e => (e : Int) | none => -1

theorem refEnd_l0 (l : List UInt8) (from' : Nat) (hl : l.length < 4294967281) : ∀ i, i ≤ l.length → Ev (fun k => flatironref02_end.l0 k (B l) (from' : Int) (i : Int)) (resE (endAt l (max i (from' + 1)))) := by
  refine upto_ind ?_ ?_
  · refine Ev.step (fun k => by rw [flatironref02_end.l0]) ?_
    refine Ev.neg (by first | (rw [B_size]; omega) | (simp [B_size]; done) | (simp [B_size]; omega)) ?_
    rw [endAt_none l _ (by omega)]
    exact Ev.ret _
  · intro i hi ih
    rw [← wrap_succ i (by omega)] at ih
    refine Ev.step (fun k => by rw [flatironref02_end.l0]) ?_
    refine Ev.pos (by first | (rw [B_size]; omega) | (simp [B_size]; done) | (simp [B_size]; omega)) ?_
    refine Ev.pos (by omega) ?_
    refine Ev.iff (show (bt (B l) (i : Int) = 93) = (l[i] = 93) from btEq l i 93 hi (by decide)) ?_ ?_
    · intro h93
      refine Ev.ite ?_ ?_
      · intro hgt
        rw [show max i (from' + 1) = i by omega, endAt_here l i hi h93]
        exact Ev.ret _
      · intro hgt
        rw [show max i (from' + 1) = max (i + 1) (from' + 1) by omega]
        exact ih
    · intro h93
      by_cases hgt : from' + 1 ≤ i
      · rw [show max i (from' + 1) = i by omega, endAt_next l i hi h93, show i + 1 = max (i + 1) (from' + 1) by omega]
        exact ih
      · rw [show max i (from' + 1) = max (i + 1) (from' + 1) by omega]
        exact ih

theorem refEnd_ev (l : List UInt8) (hl : l.length < 4294967281) : Ev (fun k => flatironref02_end.f k (B l)) (resE (endS l)) := by
  refine Ev.congr (fun k => by rw [flatironref02_end.f]) ?_
  cases l with
  | nil =>
    refine Ev.neg (by first | (rw [B_size]; omega) | (simp [B_size]; done) | (simp [B_size]; omega)) ?_
    refine Ev.step (fun k => by rw [flatironref02_end.j0]) ?_
    refine Ev.neg (by simp) ?_
    refine Ev.step (fun k => by rw [flatironref02_end.j1]) ?_
    exact refEnd_l0 [] 0 (by simp) 0 (by simp)
  | cons b r =>
    refine Ev.pos (by first | (rw [B_size]; omega) | (simp [B_size]; done) | (simp [B_size]; omega)) ?_
    refine Ev.pos (by first | (rw [B_size]; omega) | (simp [B_size]; done) | (simp [B_size]; omega)) ?_
    have hb : (bt (B (b :: r)) 0 == 33) = decide (b = 33) := by
      have := bt_B (b :: r) 0 (by simp)
      rw [show (0 : Int) = ((0 : Nat) : Int) from rfl, this]
      exact beqU b 33 (by decide)
    rw [hb]
    refine Ev.step (fun k => by rw [flatironref02_end.j0]) ?_
    by_cases h33 : b = 33
    · refine Ev.pos (by simp [h33]) ?_
      refine Ev.step (fun k => by rw [flatironref02_end.j1]) ?_
      have := refEnd_l0 (b :: r) 1 hl 1 (by simp)
      rw [show endS (b :: r) = endAt (b :: r) (max 1 (1 + 1)) by simp [endS, h33]]
      exact this
    · refine Ev.neg (by simp [h33]) ?_
      refine Ev.step (fun k => by rw [flatironref02_end.j1]) ?_
      have := refEnd_l0 (b :: r) 0 hl 0 (by simp)
      rw [show endS (b :: r) = endAt (b :: r) (max 0 (0 + 1)) by simp [endS, h33]]
      exact this

/-- Is a byte among some, from the place i on: single ones, and from one to another one? -/
def lstA (l : List UInt8) (c : UInt8) (i : Nat) : Bool :=
  if h : i < l.length then
    (if h2 : i + 2 < l.length then (if l[i + 1] = 45 then (decide (l[i] ≤ c) && decide (c ≤ l[i + 2])) || lstA l c (i + 3) else (l[i] == c) || lstA l c (i + 1)) else (l[i] == c) || lstA l c (i + 1))
  else false
  termination_by l.length - i
theorem lstA_end (l : List UInt8) (c : UInt8) (i : Nat) (h : l.length ≤ i) : lstA l c i = false := by rw [lstA, dif_neg (by omega)]
theorem lstA_range (l : List UInt8) (c : UInt8) (i : Nat) (h : i + 2 < l.length) (e : l[i + 1] = 45) : lstA l c i = ((decide (l[i] ≤ c) && decide (c ≤ l[i + 2])) || lstA l c (i + 3)) := by
  conv => lhs; rw [lstA, dif_pos (by omega), dif_pos h, if_pos e]
theorem lstA_one (l : List UInt8) (c : UInt8) (i : Nat) (h : i < l.length) (e : ∀ h : i + 2 < l.length, ¬ l[i + 1] = 45) : lstA l c i = ((l[i] == c) || lstA l c (i + 1)) := by
  conv => lhs; rw [lstA, dif_pos h]
  by_cases h2 : i + 2 < l.length
  · rw [dif_pos h2, if_neg (e h2)]
  · rw [dif_neg h2]

theorem refListed_l0 (l : List UInt8) (c : UInt8) (hl : l.length < 4294967281) : ∀ i, i ≤ l.length → Ev (fun k => flatironref02_listed.l0 k (B l) (c.toNat : Int) (i : Int)) (lstA l c i) := by
  refine down_ind ?_
  intro i hi ih
  refine Ev.step (fun k => by rw [flatironref02_listed.l0]) ?_
  by_cases hlt : i < l.length
  · refine Ev.pos (by first | (rw [B_size]; omega) | (simp [B_size]; done) | (simp [B_size]; omega)) ?_
    have one : (∀ h : i + 2 < l.length, ¬ l[i + 1] = 45) → Ev (fun k => flatironref02_listed.j1 k (B l) (c.toNat : Int) (i : Int) false) (lstA l c i) := by
      intro hno
      refine Ev.step (fun k => by rw [flatironref02_listed.j1]) ?_
      refine Ev.neg (by simp) ?_
      refine Ev.pos (by omega) ?_
      refine Ev.pos (by first | (rw [B_size]; omega) | (simp [B_size]; done) | (simp [B_size]; omega)) ?_
      rw [lstA_one l c i hlt hno]
      refine Ev.iff (show (bt (B l) (i : Int) = (c.toNat : Int)) = (l[i] = c) by rw [bt_B l i hlt]; exact u8_toNat_eq l[i] c) ?_ ?_
      · intro e; rw [e]; simp; exact Ev.ret _
      · intro e
        have e' : (l[i] == c) = false := by simpa using e
        rw [e', Bool.false_or]
        have := ih (i + 1) (by omega) (by omega)
        rw [← wrap_succ i (by omega)] at this
        exact this
    by_cases h2 : i + 2 < l.length
    · refine Ev.pos (by rw [wrap_two i (by omega), B_size]; omega) ?_
      refine Ev.pos (by rw [wrap_succ i (by omega)]; omega) ?_
      refine Ev.pos (by rw [wrap_succ i (by omega), B_size]; omega) ?_
      have hb : (bt (B l) (wrap64 ((i : Int) + 1)) == 45) = decide (l[i + 1] = 45) := by
        rw [wrap_succ i (by omega), bt_B l (i + 1) (by omega)]
        exact beqU _ 45 (by decide)
      rw [hb]
      by_cases h45 : l[i + 1] = 45
      · rw [decide_eq_true h45]
        refine Ev.step (fun k => by rw [flatironref02_listed.j1]) ?_
        refine Ev.pos rfl ?_
        refine Ev.pos (by omega) ?_
        refine Ev.pos (by first | (rw [B_size]; omega) | (simp [B_size]; done) | (simp [B_size]; omega)) ?_
        rw [lstA_range l c i h2 h45]
        have nxt : Ev (fun k => flatironref02_listed.j2 k (B l) (c.toNat : Int) (i : Int) false) (lstA l c (i + 3)) := by
          refine Ev.step (fun k => by rw [flatironref02_listed.j2]) ?_
          refine Ev.neg (by simp) ?_
          have := ih (i + 3) (by omega) (by omega)
          rw [← wrap_three i (by omega)] at this
          exact this
        refine Ev.iff (show ((c.toNat : Int) ≥ bt (B l) (i : Int)) = (l[i] ≤ c) by rw [bt_B l i hlt]; exact leU l[i] c) ?_ ?_
        · intro e1
          refine Ev.pos (by rw [wrap_two i (by omega)]; omega) ?_
          refine Ev.pos (by rw [wrap_two i (by omega), B_size]; omega) ?_
          have hb2 : decide ((c.toNat : Int) ≤ bt (B l) (wrap64 ((i : Int) + 2))) = decide (c ≤ l[i + 2]) := by
            rw [decide_eq_decide, wrap_two i (by omega), bt_B l (i + 2) h2]
            exact Iff.of_eq (leU c l[i + 2])
          rw [hb2, decide_eq_true e1, Bool.true_and]
          by_cases e2 : c ≤ l[i + 2]
          · rw [decide_eq_true e2, Bool.true_or]
            refine Ev.step (fun k => by rw [flatironref02_listed.j2]) ?_
            exact Ev.pos rfl (Ev.ret _)
          · rw [decide_eq_false e2, Bool.false_or]
            exact nxt
        · intro e1
          rw [decide_eq_false e1, Bool.false_and, Bool.false_or]
          exact nxt
      · rw [decide_eq_false h45]
        exact one (fun _ => h45)
    · refine Ev.neg (by rw [wrap_two i (by omega), B_size]; omega) ?_
      exact one (fun h => absurd h h2)
  · refine Ev.neg (by first | (rw [B_size]; omega) | (simp [B_size]; done) | (simp [B_size]; omega)) ?_
    rw [lstA_end l c i (by omega)]
    exact Ev.ret _

/-- Is a byte in a bracket's inside? -/
def withinS (l : List UInt8) (c : UInt8) : Bool := if l.head? = some 33 then !lstA l.tail c 0 else lstA l c 0
theorem refWithin_ev (l : List UInt8) (c : UInt8) (hl : l.length < 4294967281) : Ev (fun k => flatironref02_within.f k (B l) (c.toNat : Int)) (withinS l c) := by
  refine Ev.congr (fun k => by rw [flatironref02_within.f]) ?_
  have plain : l.head? ≠ some 33 → Ev (fun k => flatironref02_within.j0 k (B l) (c.toNat : Int) false) (withinS l c) := by
    intro hno
    refine Ev.step (fun k => by rw [flatironref02_within.j0]) ?_
    refine Ev.neg (by simp) ?_
    rw [withinS, if_neg hno]
    refine Ev.bind ?_ (Ev.ret _)
    refine Ev.congr (fun k => by rw [flatironref02_listed.f]) ?_
    exact refListed_l0 l c hl 0 (by omega)
  cases l with
  | nil =>
    refine Ev.neg (by first | (rw [B_size]; omega) | (simp [B_size]; done) | (simp [B_size]; omega)) ?_
    exact plain (by simp)
  | cons b r =>
    refine Ev.pos (by first | (rw [B_size]; omega) | (simp [B_size]; done) | (simp [B_size]; omega)) ?_
    refine Ev.pos (by first | (rw [B_size]; omega) | (simp [B_size]; done) | (simp [B_size]; omega)) ?_
    have hb : (bt (B (b :: r)) 0 == 33) = decide (b = 33) := by
      have := bt_B (b :: r) 0 (by simp)
      rw [show (0 : Int) = ((0 : Nat) : Int) from rfl, this]
      exact beqU b 33 (by decide)
    rw [hb]
    by_cases h33 : b = 33
    · rw [decide_eq_true h33]
      refine Ev.step (fun k => by rw [flatironref02_within.j0]) ?_
      refine Ev.pos rfl ?_
      refine Ev.pos (by first | (rw [B_size]; omega) | (simp [B_size]; done) | (simp [B_size]; omega)) ?_
      rw [withinS, if_pos (by simp [h33])]
      refine Ev.bind (a := lstA r c 0) ?_ (Ev.ret _)
      refine Ev.congr (fun k => by rw [flatironref02_listed.f]) ?_
      have e : (B (b :: r)).extract 1 (B (b :: r)).size = B r := by rw [B_extract, B_size, List.take_length]; rfl
      rw [e]
      exact refListed_l0 r c (by simp at hl; omega) 0 (by omega)
    · rw [decide_eq_false h33]
      exact plain (by simp [h33])
end Go.Proofs.YtgpabkdmagifjaaDoor.X
