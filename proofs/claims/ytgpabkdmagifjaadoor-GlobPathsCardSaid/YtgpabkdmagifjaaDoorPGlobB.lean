/- package glob and its reference: brackets, the first place of a pattern, and all places; plain Lean on lists of bytes. -/
import Derived.Test.YtgpabkdmagifjaaDoorPGlobA
namespace Go.Proofs.YtgpabkdmagifjaaDoor.X
open Go.RowKit Go.Proofs.YtgpabkdmagifjaaDoorW.PrintWords Go.Proofs.YtgpabkdmagifjaaDoorW.PrintLast Go.Proofs.YtgpabkdmagifjaaDoorW.PrintMore Go.Proofs.YtgpabkdmagifjaaDoor.XW02
set_option linter.unusedSimpArgs false
set_option linter.unusedVariables false

def resC (p : List UInt8) (c : UInt8) (nt inn : Bool) (i : Nat) : Bool × ByteArray × Bool :=
  match endAt p (max i 1) with
  | some e => ((inn || lstA (p.take e) c i) != nt, B (p.drop (e + 1)), true)
  | none => (false, B [], false)
theorem resC_step {p : List UInt8} {c : UInt8} {nt inn inn' : Bool} {i j : Nat} (h1 : endAt p (max i 1) = endAt p (max j 1))
    (h2 : ∀ e, endAt p (max j 1) = some e → (inn || lstA (p.take e) c i) = (inn' || lstA (p.take e) c j)) : resC p c nt inn' j = resC p c nt inn i := by
  unfold resC
  rw [h1]
  cases he : endAt p (max j 1) with
  | none => rfl
  | some e => simp only; rw [h2 e he]

theorem class_l0 (p : List UInt8) (c : UInt8) (nt : Bool) (hl : p.length < 4294967281) : ∀ i, i ≤ p.length → ∀ inn : Bool, Ev (fun k => glob_class.l0 k (B p) (c.toNat : Int) nt inn (i : Int)) (resC p c nt inn i) := by
  refine down_ind ?_
  intro i hi ih inn
  refine Ev.step (fun k => by rw [glob_class.l0]) ?_
  by_cases hlt : i < p.length
  · refine Ev.pos (by first | (rw [B_size]; omega) | (simp [B_size]; done) | (simp [B_size]; omega)) ?_
    refine Ev.pos (by omega) ?_
    have rest : ¬ (p[i] = 93 ∧ 0 < i) → Ev (fun k => glob_class.j1 k (B p) (c.toNat : Int) nt inn (i : Int) false) (resC p c nt inn i) := by
      intro hno
      have e1 : endAt p (max i 1) = endAt p (max (i + 1) 1) := by
        by_cases h0 : i = 0
        · subst h0; rfl
        · rw [show max i 1 = i by omega, show max (i + 1) 1 = i + 1 by omega, endAt_next p i hlt (fun h => hno ⟨h, by omega⟩)]
      have hsp := endAt_spec p (max (i + 1) 1) (by omega)
      refine Ev.step (fun k => by rw [glob_class.j1]) ?_
      refine Ev.neg (by simp) ?_
      have dflt : (∀ h : i + 2 < p.length, p[i + 1] = 45 → p[i + 2] = 93) →
          Ev (fun k => if inn = true then (glob_class.l0 k (B p) (c.toNat : Int) nt true (wrap64 ((i : Int) + 1))) else (if 0 ≤ (i : Int) then (if (i : Int) < ((B p).size : Int) then (glob_class.l0 k (B p) (c.toNat : Int) nt ((c.toNat : Int) == (bt (B p) (i : Int))) (wrap64 ((i : Int) + 1))) else none) else none)) (resC p c nt inn i) := by
        intro hd
        have hone : ∀ e, endAt p (max (i + 1) 1) = some e → lstA (p.take e) c i = ((p[i] == c) || lstA (p.take e) c (i + 1)) := by
          intro e he
          obtain ⟨g1, g2, _, g4⟩ := hsp e he
          have ht : i < (p.take e).length := by simp; omega
          rw [lstA_one (p.take e) c i ht (fun h => by
            simp only [List.length_take] at h
            rw [List.getElem_take]
            intro h45
            exact g4 (i + 2) (by omega) (by omega) (by omega) (hd (by omega) h45))]
          rw [List.getElem_take]
        rw [wrap_succ i (by omega)]
        cases inn with
        | true =>
          refine Ev.pos rfl ?_
          rw [← resC_step e1 (inn' := true) (fun e he => by simp)]
          exact ih (i + 1) (by omega) (by omega) true
        | false =>
          refine Ev.neg (by simp) ?_
          refine Ev.pos (by omega) ?_
          refine Ev.pos (by first | (rw [B_size]; omega) | (simp [B_size]; done) | (simp [B_size]; omega)) ?_
          rw [bt_B p i hlt, beqUU]
          rw [← resC_step e1 (inn' := (c == p[i])) (fun e he => by rw [hone e he, Bool.false_or]; congr 1; rw [Bool.eq_iff_iff, beq_iff_eq, beq_iff_eq]; exact eq_comm)]
          exact ih (i + 1) (by omega) (by omega) _
      by_cases h2 : i + 2 < p.length
      · refine Ev.pos (by rw [wrap_two i (by omega), B_size]; omega) ?_
        refine Ev.pos (by rw [wrap_succ i (by omega)]; omega) ?_
        refine Ev.pos (by rw [wrap_succ i (by omega), B_size]; omega) ?_
        refine Ev.iff (show (bt (B p) (wrap64 ((i : Int) + 1)) = 45) = (p[i + 1] = 45) by rw [wrap_succ i (by omega), bt_B p (i + 1) (by omega)]; exact u8_num _ 45 (by decide)) ?_ ?_
        · intro h45
          refine Ev.pos (by rw [wrap_two i (by omega)]; omega) ?_
          refine Ev.iff (show (bt (B p) (wrap64 ((i : Int) + 2)) = 93) = (p[i + 2] = 93) by rw [wrap_two i (by omega), bt_B p (i + 2) (by omega)]; exact u8_num _ 93 (by decide)) ?_ ?_
          · intro h93
            exact dflt (fun _ _ => h93)
          · intro h93
            have e3 : endAt p (max i 1) = endAt p (max (i + 3) 1) := by
              rw [e1, show max (i + 1) 1 = i + 1 by omega, endAt_next p (i + 1) (by omega) (by rw [h45]; decide), endAt_next p (i + 1 + 1) (by omega) h93]
              rw [show max (i + 3) 1 = i + 1 + 1 + 1 by omega]
            have hsp3 := endAt_spec p (max (i + 3) 1) (by omega)
            have hrng : ∀ e, endAt p (max (i + 3) 1) = some e → lstA (p.take e) c i = ((decide (p[i] ≤ c) && decide (c ≤ p[i + 2])) || lstA (p.take e) c (i + 3)) := by
              intro e he
              obtain ⟨g1, g2, _, g4⟩ := hsp3 e he
              rw [lstA_range (p.take e) c i (by simp <;> omega) (by rw [List.getElem_take]; exact h45), List.getElem_take, List.getElem_take]
            have w3 : wrap64 (wrap64 ((i : Int) + 2) + 1) = ((i + 3 : Nat) : Int) := by rw [wrap_two i (by omega), wrap_succ (i + 2) (by omega)]
            rw [w3, wrap_two i (by omega)]
            cases inn with
            | true =>
              refine Ev.pos rfl ?_
              rw [← resC_step e3 (inn' := true) (fun e he => by simp)]
              exact ih (i + 3) (by omega) (by omega) true
            | false =>
              refine Ev.neg (by simp) ?_
              refine Ev.pos (by omega) ?_
              refine Ev.pos (by first | (rw [B_size]; omega) | (simp [B_size]; done) | (simp [B_size]; omega)) ?_
              rw [bt_B p (i + 2) (by omega)]
              refine Ev.iff (show ((c.toNat : Int) ≥ bt (B p) (i : Int)) = (p[i] ≤ c) by rw [bt_B p i hlt]; exact leU p[i] c) ?_ ?_
              · intro h1
                rw [← resC_step e3 (inn' := decide ((c.toNat : Int) ≤ (p[i + 2].toNat : Int))) (fun e he => by
                  rw [hrng e he, decide_eq_true h1, Bool.true_and, Bool.false_or]
                  congr 1
                  rw [decide_eq_decide]
                  exact Iff.of_eq (leU c p[i + 2]).symm)]
                exact ih (i + 3) (by omega) (by omega) _
              · intro h1
                rw [← resC_step e3 (inn' := false) (fun e he => by rw [hrng e he, decide_eq_false h1, Bool.false_and, Bool.false_or])]
                exact ih (i + 3) (by omega) (by omega) _
        · intro h45
          exact dflt (fun h h' => absurd h' h45)
      · refine Ev.neg (by rw [wrap_two i (by omega), B_size]; omega) ?_
        exact dflt (fun h => absurd h h2)
    refine Ev.iff (show (bt (B p) (i : Int) = 93) = (p[i] = 93) by rw [bt_B p i hlt]; exact u8_num _ 93 (by decide)) ?_ ?_
    · intro h93
      by_cases h0 : 0 < i
      · rw [show decide ((i : Int) > 0) = true from decide_eq_true (by omega)]
        refine Ev.step (fun k => by rw [glob_class.j1]) ?_
        refine Ev.pos rfl ?_
        rw [wrap_succ i (by omega)]
        refine Ev.pos (by omega) ?_
        refine Ev.pos (by first | (rw [B_size]; omega) | (simp [B_size]; done) | (simp [B_size]; omega)) ?_
        unfold resC
        rw [show max i 1 = i by omega, endAt_here p i hlt h93]
        simp only
        rw [lstA_end (p.take i) c i (by simp <;> omega), Bool.or_false, B_extract, B_size, List.take_length]
        exact Ev.ret _
      · rw [show decide ((i : Int) > 0) = false from decide_eq_false (by omega)]
        exact rest (fun h => h0 h.2)
    · intro h93
      exact rest (fun h => h93 h.1)
  · refine Ev.neg (by first | (rw [B_size]; omega) | (simp [B_size]; done) | (simp [B_size]; omega)) ?_
    unfold resC
    rw [endAt_none p _ (by omega)]
    exact Ev.ret _

theorem endAt_cons (b : UInt8) (p : List UInt8) : ∀ i, i ≤ p.length → endAt (b :: p) (i + 1) = (endAt p i).map (· + 1) := by
  refine upto_ind ?_ ?_
  · rw [endAt_none p _ (Nat.le_refl _), endAt_none _ _ (by simp)]; rfl
  · intro i hi ih
    by_cases h : p[i] = 93
    · rw [endAt_here p i hi h, endAt_here (b :: p) (i + 1) (by simp <;> omega) (by simpa using h)]; rfl
    · rw [endAt_next p i hi h, endAt_next (b :: p) (i + 1) (by simp <;> omega) (by simpa using h), ih]

def resF (r : List UInt8) (c : UInt8) : Bool × ByteArray × Bool :=
  match endS r with
  | some e => (withinS (r.take e) c, B (r.drop (e + 1)), true)
  | none => (false, B [], false)
theorem hasPrefix_one (r : List UInt8) (b : UInt8) : Lib.hasPrefix r [b] = decide (r.head? = some b) := by
  cases r with
  | nil => simp [Lib.hasPrefix]
  | cons a r =>
    simp only [Lib.hasPrefix, List.head?_cons, Option.some.injEq]
    simp [List.isPrefixOf]
    rw [Bool.eq_iff_iff, beq_iff_eq, decide_eq_true_eq]
    exact eq_comm
theorem trimPrefix_one (r : List UInt8) (b : UInt8) (hl : r.length < 4294967281) : strings_TrimPrefix.f (B r) (B [b]) = some (B (if r.head? = some b then r.tail else r)) := by
  unfold strings_TrimPrefix.f stringslite_TrimPrefix.f stringslite_HasPrefix.f
  cases r with
  | nil => simp [B_size]
  | cons a r =>
    rw [if_pos (by rw [B_size, B_size]; simp; omega), if_pos (by omega), if_pos (by rw [B_size, B_size]; simp; omega)]
    rw [B_extract, B_toList, B_toList, B_size]
    simp only [List.length_cons, List.length_nil, Nat.zero_add, Int.toNat_natCast, List.take_succ_cons, List.take_zero, List.drop_zero, Option.bind_some]
    by_cases h : a = b
    · subst h
      rw [if_pos (by simp), if_pos (by omega), if_pos (by first | (rw [B_size]; omega) | (simp [B_size]; done) | (simp [B_size]; omega)), B_extract, B_size, List.take_length]
      simp
    · rw [if_neg (by simpa using h), if_neg (by simpa using h)]
      rfl
theorem class_ev (r : List UInt8) (c : UInt8) (hl : r.length < 4294967281) : Ev (fun k => glob_class.f k (B r) (c.toNat : Int)) (resF r c) := by
  refine Ev.congr (fun k => by rw [glob_class.f]) ?_
  refine Ev.bind (Ev.of (show strings_HasPrefix.f (B r) (⟨#[33]⟩ : ByteArray) = some (decide (r.head? = some 33)) by unfold strings_HasPrefix.f; rw [B_data, ← hasPrefix_one])) ?_
  refine Ev.bind (Ev.of (trimPrefix_one r 33 hl)) ?_
  by_cases h : r.head? = some 33
  · rw [if_pos h, decide_eq_true h]
    cases r with
    | nil => simp at h
    | cons b p =>
      obtain rfl : b = 33 := by simpa using h
      have := class_l0 p c true (by simp at hl; omega) 0 (by omega) false
      refine Ev.eq this ?_
      unfold resC resF endS
      rw [if_pos h]
      have hc := endAt_cons 33 p
      by_cases h1 : 1 ≤ p.length
      · rw [show (2 : Nat) = 1 + 1 from rfl, hc 1 h1]
        cases he : endAt p (max 0 1) with
        | none => rw [show endAt p 1 = none from he]; rfl
        | some e =>
          rw [show endAt p 1 = some e from he]
          simp [withinS]
      · rw [endAt_none p _ (by omega), endAt_none _ 2 (by simp <;> omega)]
  · rw [if_neg h, decide_eq_false h]
    have := class_l0 r c false hl 0 (by omega) false
    refine Ev.eq this ?_
    unfold resC resF endS
    rw [if_neg h]
    cases he : endAt r (max 0 1) with
    | none => rw [show endAt r 1 = none from he]
    | some e =>
      rw [show endAt r 1 = some e from he]
      have h1 : 1 ≤ e := by
        by_cases h0 : 1 ≤ r.length
        · have := (endAt_spec r 1 h0 e he).1; omega
        · rw [endAt_none r _ (by omega)] at he; exact absurd he (by simp)
      have hh : (r.take e).head? ≠ some 33 := by
        cases r with
        | nil => simp
        | cons b p => obtain ⟨e', rfl⟩ : ∃ e', e = e' + 1 := ⟨e - 1, by omega⟩; simpa using h
      simp [withinS, hh]

/-- The first place of a pattern, and how many bytes it has besides its first one. -/
def plc (b : UInt8) (r : List UInt8) : S133 × Nat :=
  if b = 42 then (⟨0, B []⟩, 0) else if b = 63 then (⟨1, B []⟩, 0)
  else if b = 91 then (match endS r with | some e => (⟨2, B (r.take e)⟩, e + 1) | none => (⟨3, B [b]⟩, 0))
  else if b = 92 then (match r with | c :: _ => (⟨3, B [c]⟩, 1) | [] => (⟨3, B [b]⟩, 0))
  else (⟨3, B [b]⟩, 0)
def stS (x : S133) (c : UInt8) : Bool := if x.f0 = 2 then withinS x.f1.data.toList c else if x.f0 = 1 then true else x.f1.data.toList.head? == some c

theorem one_ev (b : UInt8) (r : List UInt8) (c : UInt8) (hl : (b :: r).length < 4294967281) (h42 : ¬ b = 42) :
    Ev (fun k => glob_one.f k (B (b :: r)) (c.toNat : Int)) (B (r.drop (plc b r).2), stS (plc b r).1 c) := by
  refine Ev.congr (fun k => by rw [glob_one.f]) ?_
  have h0 : 0 < (b :: r).length := by simp
  have hs : ((B (b :: r)).size : Int) = (r.length : Int) + 1 := by rw [B_size]; simp
  have hx : (B (b :: r)).extract 1 (B (b :: r)).size = B r := by rw [B_extract, B_size, List.take_length]; rfl
  have hb : bt (B (b :: r)) 0 = (b.toNat : Int) := bt_B (b :: r) 0 h0
  have plain : (plc b r) = (⟨3, B [b]⟩, 0) → Ev (fun k => some ((B (b :: r)).extract 1 (B (b :: r)).size, ((bt (B (b :: r)) 0) == (c.toNat : Int)))) (B (r.drop (plc b r).2), stS (plc b r).1 c) := by
    intro hp
    rw [hp, hx, hb, beqUU]
    refine Ev.eq (Ev.ret _) ?_
    simp [stS, B_data]
  refine Ev.pos (by rw [hs]; omega) ?_
  refine Ev.iff (show (bt (B (b :: r)) 0 = 63) = (b = 63) from btEq (b :: r) 0 63 h0 (by decide)) ?_ ?_
  · intro h63
    refine Ev.pos (by rw [hs]; omega) ?_
    rw [hx]
    refine Ev.eq (Ev.ret _) ?_
    simp [plc, h63, stS]
  · intro h63
    refine Ev.iff (show (bt (B (b :: r)) 0 = 91) = (b = 91) from btEq (b :: r) 0 91 h0 (by decide)) ?_ ?_
    · intro h91
      refine Ev.pos (by rw [hs]; omega) ?_
      rw [hx]
      refine Ev.bind (class_ev r c (by simp at hl; omega)) ?_
      unfold resF
      cases he : endS r with
      | none =>
        refine Ev.neg (by simp) ?_
        have := plain (by simp [plc, h91, he])
        rw [hx] at this
        exact this
      | some e =>
        refine Ev.pos rfl ?_
        refine Ev.eq (Ev.ret _) ?_
        simp [plc, h91, he, stS, B_data]
    · intro h91
      refine Ev.iff (show (bt (B (b :: r)) 0 = 92) = (b = 92) from btEq (b :: r) 0 92 h0 (by decide)) ?_ ?_
      · intro h92
        cases r with
        | nil =>
          refine Ev.neg (by rw [hs]; simp) ?_
          refine Ev.pos (by rw [hs]; simp) ?_
          exact plain (by simp [plc, h92])
        | cons d r =>
          refine Ev.pos (by rw [hs]; simp; omega) ?_
          refine Ev.pos (by rw [hs]; simp; omega) ?_
          refine Ev.pos (by rw [hs]; simp; omega) ?_
          have hd : bt (B (b :: d :: r)) 1 = (d.toNat : Int) := bt_B (b :: d :: r) 1 (by simp)
          rw [hd, beqUU, B_extract, B_size, List.take_length]
          refine Ev.eq (Ev.ret _) ?_
          simp [plc, h92, stS, B_data]
      · intro h92
        refine Ev.pos (by rw [hs]; omega) ?_
        exact plain (by simp [plc, h42, h63, h91, h92])

/-- A pattern's places. -/
def parse : List UInt8 → List S133
  | [] => []
  | b :: r => (plc b r).1 :: parse (r.drop (plc b r).2)
  termination_by l => l.length
  decreasing_by simp; omega
theorem parse_nil : parse [] = [] := by rw [parse]
theorem parse_cons (b : UInt8) (r : List UInt8) : parse (b :: r) = (plc b r).1 :: parse (r.drop (plc b r).2) := by rw [parse]

theorem places_l0 (l : List UInt8) (hl : l.length < 4294967281) : ∀ i, i ≤ l.length → ∀ out : List S133, out.length ≤ i → Ev (fun k => flatironref02_places.l0 k (B l) out (i : Int)) (out ++ parse (l.drop i)) := by
  refine down_ind ?_
  intro i hi ih out ho
  refine Ev.step (fun k => by rw [flatironref02_places.l0]) ?_
  by_cases hlt : i < l.length
  · have w1 := wrap_succ i (by omega)
    have w2 := wrap_two i (by omega)
    have hd := drop_get l i hlt
    rw [w1, w2, B_size]
    refine Ev.pos (by omega) ?_
    refine Ev.pos (by omega) ?_
    refine Ev.pos (by omega) ?_
    refine Ev.pos (by omega) ?_
    have hx : (B l).extract (((i + 1 : Nat) : Int)).toNat l.length = B (l.drop (i + 1)) := by rw [B_extract, List.take_length]; rfl
    have lim : out.length < 5864062014805 := by omega
    have plain : (plc l[i] (l.drop (i + 1))) = (⟨3, B [l[i]]⟩, 0) → Ev (fun k => if out.length < 5864062014805 then (flatironref02_places.l0 k (B l) (out ++ [(⟨3, (B l).extract (i : Int).toNat (((i + 1 : Nat) : Int)).toNat⟩ : S133)]) ((i + 1 : Nat) : Int)) else none) (out ++ parse (l.drop i)) := by
      intro hp
      refine Ev.pos lim ?_
      have := ih (i + 1) (by omega) (by omega) (out ++ [⟨3, B [l[i]]⟩]) (by simp <;> omega)
      rw [B_extract]
      have e1 : (((i + 1 : Nat) : Int)).toNat = i + 1 := rfl
      have e2 : ((i : Nat) : Int).toNat = i := rfl
      rw [e1, e2, one_at l i hlt]
      refine Ev.eq this ?_
      rw [hd, parse_cons, hp]
      simp
    refine Ev.iff (show (bt (B l) (i : Int) = 42) = (l[i] = 42) from btEq l i 42 hlt (by decide)) ?_ ?_
    · intro h42
      refine Ev.pos lim ?_
      refine Ev.eq (ih (i + 1) (by omega) (by omega) (out ++ [⟨0, B []⟩]) (by simp <;> omega)) ?_
      rw [hd, parse_cons, h42]
      simp [plc]
    · intro h42
      refine Ev.iff (show (bt (B l) (i : Int) = 63) = (l[i] = 63) from btEq l i 63 hlt (by decide)) ?_ ?_
      · intro h63
        refine Ev.pos lim ?_
        refine Ev.eq (ih (i + 1) (by omega) (by omega) (out ++ [⟨1, B []⟩]) (by simp <;> omega)) ?_
        rw [hd, parse_cons, h63]
        simp [plc]
      · intro h63
        refine Ev.iff (show (bt (B l) (i : Int) = 91) = (l[i] = 91) from btEq l i 91 hlt (by decide)) ?_ ?_
        · intro h91
          refine Ev.pos (by omega) ?_
          rw [hx]
          refine Ev.bind (refEnd_ev (l.drop (i + 1)) (by simp <;> omega)) ?_
          cases he : endS (l.drop (i + 1)) with
          | none =>
            refine Ev.neg (by simp [resE]) ?_
            exact plain (by simp [plc, h91, he])
          | some e =>
            have hel : e < l.length - (i + 1) := by
              have : e < (l.drop (i + 1)).length := by
                unfold endS at he
                by_cases h0 : (if (l.drop (i + 1)).head? = some 33 then 2 else 1) ≤ (l.drop (i + 1)).length
                · exact (endAt_spec _ _ h0 e he).2.1
                · rw [endAt_none _ _ (by omega)] at he; exact absurd he (by simp)
              simpa using this
            have w3 : wrap64 (((i + 1 : Nat) : Int) + resE (some e)) = ((i + 1 + e : Nat) : Int) := by show wrap64 (((i + 1 : Nat) : Int) + (e : Int)) = _; rw [wrap_add _ _ (by omega)]
            have w4 : wrap64 ((i : Int) + wrap64 (resE (some e) + 2)) = ((i + (e + 2) : Nat) : Int) := by show wrap64 ((i : Int) + wrap64 ((e : Int) + 2)) = _; rw [wrap_two e (by omega), wrap_add _ _ (by omega)]
            rw [w3, w4]
            refine Ev.pos (by simp [resE]) ?_
            refine Ev.pos (by omega) ?_
            refine Ev.pos (by omega) ?_
            refine Ev.pos lim ?_
            have ex : (B l).extract (((i + 1 : Nat) : Int)).toNat (((i + 1 + e : Nat) : Int)).toNat = B ((l.drop (i + 1)).take e) := by
              rw [B_extract]
              congr 1
              show (l.take (i + 1 + e)).drop (i + 1) = _
              rw [List.drop_take]
              congr 1
              omega
            rw [ex]
            refine Ev.eq (ih (i + (e + 2)) (by omega) (by omega) _ (by simp <;> omega)) ?_
            rw [hd, parse_cons, h91]
            simp only [plc, he]
            simp [List.drop_drop]
            congr 2
            omega
        · intro h91
          refine Ev.iff (show (bt (B l) (i : Int) = 92) = (l[i] = 92) from btEq l i 92 hlt (by decide)) ?_ ?_
          · intro h92
            by_cases h1 : i + 1 < l.length
            · refine Ev.pos (by omega) ?_
              refine Ev.pos (by omega) ?_
              refine Ev.pos (by omega) ?_
              refine Ev.pos (by omega) ?_
              refine Ev.pos lim ?_
              have ex : (B l).extract (((i + 1 : Nat) : Int)).toNat (((i + 2 : Nat) : Int)).toNat = B [l[i + 1]] := by
                rw [B_extract]
                congr 1
                exact one_at l (i + 1) h1
              rw [ex]
              refine Ev.eq (ih (i + 2) (by omega) (by omega) _ (by simp <;> omega)) ?_
              rw [hd, parse_cons, h92, drop_get l (i + 1) h1]
              simp [plc]
            · refine Ev.neg (by omega) ?_
              refine plain ?_
              rw [List.drop_eq_nil_of_le (by omega), h92]
              rfl
          · intro h92
            exact plain (by simp [plc, h42, h63, h91, h92])
  · refine Ev.neg (by first | (rw [B_size]; omega) | (simp [B_size]; done) | (simp [B_size]; omega)) ?_
    rw [List.drop_eq_nil_of_le (by omega), parse_nil, List.append_nil]
    exact Ev.ret _
theorem places_ev (l : List UInt8) (hl : l.length < 4294967281) : Ev (fun k => flatironref02_places.f k (B l)) (parse l) := by
  refine Ev.congr (fun k => by rw [flatironref02_places.f]) ?_
  exact places_l0 l hl 0 (by omega) [] (by simp)
end Go.Proofs.YtgpabkdmagifjaaDoor.X
