/- package glob: Match, by going back to the last star, is as the table says; plain Lean. -/
import Derived.Test.YtgpabkdmagifjaaDoorPGlobC
namespace Go.Proofs.YtgpabkdmagifjaaDoor.X
open Go.RowKit Go.Proofs.YtgpabkdmagifjaaDoorW.PrintWords Go.Proofs.YtgpabkdmagifjaaDoorW.PrintLast Go.Proofs.YtgpabkdmagifjaaDoorW.PrintMore Go.Proofs.YtgpabkdmagifjaaDoor.XW02
set_option linter.unusedSimpArgs false
set_option linter.unusedVariables false

theorem plc_star (b : UInt8) (r : List UInt8) : (plc b r).1.f0 = 0 ↔ b = 42 := by
  unfold plc
  by_cases h : b = 42
  · simp [h]
  · rw [if_neg h]
    refine ⟨fun e => ?_, fun e => absurd e h⟩
    exfalso
    revert e
    split
    · simp
    · split
      · cases endS r <;> simp
      · split
        · cases r <;> simp
        · simp
theorem plc_star_n (r : List UInt8) : plc 42 r = (⟨0, B []⟩, 0) := by simp [plc]

/-- A pattern of the empty text: stars alone. -/
theorem mt_empty : ∀ (n : Nat) (l : List UInt8), l.length ≤ n → (mtB (parse l) [] = true ↔ ∀ b ∈ l, b = 42) := by
  intro n
  induction n with
  | zero => intro l h; have : l = [] := List.eq_nil_of_length_eq_zero (by omega); subst this; rw [parse_nil, mt_nil]; simp
  | succ n ih =>
    intro l h
    cases l with
    | nil => rw [parse_nil, mt_nil]; simp
    | cons b r =>
      rw [parse_cons]
      by_cases h42 : b = 42
      · subst h42
        rw [plc_star_n]
        simp only [List.drop_zero]
        simp at h
        rw [mt_star _ _ _ rfl]
        constructor
        · rintro ⟨j, _, hj⟩
          rw [List.drop_nil] at hj
          have := (ih r h).1 hj
          intro b hb
          rcases List.mem_cons.1 hb with rfl | hb
          · rfl
          · exact this b hb
        · intro hall
          exact ⟨0, by simp, (ih r h).2 (fun b hb => hall b (by simp [hb]))⟩
      · rw [mt_one_nil _ _ (fun e => h42 ((plc_star b r).1 e))]
        constructor
        · intro hh; exact absurd hh (by simp)
        · intro hall; exact absurd (hall b (by simp)) h42

theorem drop_all (c : UInt8) : ∀ m : List UInt8, m.dropWhile (fun x => ([c] : List UInt8).contains x) = [] ↔ ∀ b ∈ m, b = c := by
  intro m
  induction m with
  | nil => simp
  | cons a m ih =>
    rw [List.dropWhile_cons]
    by_cases h : a = c
    · subst h
      rw [if_pos (by simp), ih]
      simp
    · rw [if_neg (by simpa using h)]
      simp [h]
theorem drop_rest (c : UInt8) : ∀ m : List UInt8, (∀ b ∈ m.dropWhile (fun x => ([c] : List UInt8).contains x), b = c) ↔ ∀ b ∈ m, b = c := by
  intro m
  induction m with
  | nil => simp
  | cons a m ih =>
    rw [List.dropWhile_cons]
    by_cases h : a = c
    · subst h
      rw [if_pos (by simp), ih]
      simp
    · rw [if_neg (by simpa using h)]
theorem trimS_empty (l : List UInt8) (c : UInt8) : Lib.trimS l [c] = [] ↔ ∀ b ∈ l, b = c := by
  unfold Lib.trimS Lib.trimLeftS Lib.trimRightS
  rw [drop_all]
  have e : (∀ b ∈ (l.reverse.dropWhile (fun x => ([c] : List UInt8).contains x)).reverse, b = c) ↔ ∀ b ∈ l.reverse.dropWhile (fun x => ([c] : List UInt8).contains x), b = c := by simp only [List.mem_reverse]
  rw [e, drop_rest]
  simp only [List.mem_reverse]

def stI (q : Option Nat) : Int := match q with | some st => (st : Int) | none => -1
/-- Where Match is: the last star, if any, ended at q; the text is tried from b on; the pattern is at m, the text at a. -/
def Inv (p s : List UInt8) (q : Option Nat) (b m a : Nat) : Prop :=
  a ≤ s.length ∧ m ≤ p.length ∧
  match q with
  | none => b = 0 ∧ (mtB (parse p) s = true ↔ mtB (parse (p.drop m)) (s.drop a) = true)
  | some st => st ≤ p.length ∧ b ≤ a ∧ (∃ Q : List S133, (∀ x ∈ Q, ¬ x.f0 = 0) ∧ parse (p.drop st) = Q ++ parse (p.drop m) ∧ Q.length = a - b) ∧
      (mtB (parse p) s = true ↔ (mtB (parse (p.drop m)) (s.drop a) = true ∨ ∃ j, b < j ∧ j ≤ s.length ∧ mtB (parse (p.drop st)) (s.drop j) = true))

/-- With places ahead that are no stars the text is as much further on. -/
theorem mt_ahead (Q l : List S133) (s : List UInt8) (hQ : ∀ x ∈ Q, ¬ x.f0 = 0) (h : mtB (Q ++ l) s = true) : Q.length ≤ s.length ∧ mtB l (s.drop Q.length) = true := by
  obtain ⟨j, hj, h1, h2⟩ := (mt_append Q l s).1 h
  have := mt_len Q hQ _ h1
  rw [List.length_take, Nat.min_eq_left hj] at this
  subst this
  exact ⟨hj, h2⟩

theorem inv_end {p s : List UInt8} {q : Option Nat} {b m : Nat} (h : Inv p s q b m s.length) : mtB (parse p) s = true ↔ mtB (parse (p.drop m)) [] = true := by
  obtain ⟨_, _, h⟩ := h
  rw [List.drop_length] at h
  cases q with
  | none => exact h.2
  | some st =>
    obtain ⟨_, hb, ⟨Q, hQ, he, hl⟩, h⟩ := h
    rw [h]
    constructor
    · rintro (h1 | ⟨j, h1, h2, h3⟩)
      · exact h1
      · rw [he] at h3
        have := (mt_ahead Q _ _ hQ h3).1
        rw [List.length_drop] at this
        omega
    · exact .inl

theorem inv_star {p s : List UInt8} {q : Option Nat} {b m a : Nat} (h : Inv p s q b m a) (hm : m < p.length) (h42 : p[m] = 42) : Inv p s (some (m + 1)) a (m + 1) a := by
  obtain ⟨ha, hmp, h⟩ := h
  have hp : parse (p.drop m) = ⟨0, B []⟩ :: parse (p.drop (m + 1)) := by
    rw [drop_get p m hm, parse_cons, h42, plc_star_n]; rfl
  refine ⟨ha, hm, hm, Nat.le_refl _, ⟨[], by simp, by simp, by simp⟩, ?_⟩
  have fromStar : mtB (parse (p.drop m)) (s.drop a) = true ↔ (mtB (parse (p.drop (m + 1))) (s.drop a) = true ∨ ∃ j, a < j ∧ j ≤ s.length ∧ mtB (parse (p.drop (m + 1))) (s.drop j) = true) := by
    rw [hp, mt_star _ _ _ rfl]
    constructor
    · rintro ⟨j, hj, h1⟩
      rw [List.length_drop] at hj
      rw [List.drop_drop] at h1
      by_cases h0 : j = 0
      · subst h0; exact .inl h1
      · exact .inr ⟨a + j, by omega, by omega, h1⟩
    · rintro (h1 | ⟨j, h1, h2, h3⟩)
      · exact ⟨0, by simp, by simpa using h1⟩
      · exact ⟨j - a, by rw [List.length_drop]; omega, by rw [List.drop_drop, show a + (j - a) = j by omega]; exact h3⟩
  cases q with
  | none => rw [h.2]; exact fromStar
  | some st =>
    obtain ⟨_, hb, ⟨Q, hQ, he, hl⟩, h⟩ := h
    rw [h, fromStar]
    constructor
    · rintro (h1 | ⟨j, h1, h2, h3⟩)
      · exact h1
      · rw [he] at h3
        obtain ⟨g1, g2⟩ := mt_ahead Q _ _ hQ h3
        rw [List.length_drop] at g1
        rw [List.drop_drop, hp, mt_star _ _ _ rfl] at g2
        obtain ⟨i, hi, g3⟩ := g2
        rw [List.length_drop] at hi
        rw [List.drop_drop] at g3
        exact .inr ⟨j + Q.length + i, by omega, by omega, g3⟩
    · exact .inl

theorem inv_next {p s : List UInt8} {q : Option Nat} {b m a : Nat} (h : Inv p s q b m a) (hm : m < p.length) (ha : a < s.length) (h42 : ¬ p[m] = 42)
    (hst : stS (plc p[m] (p.drop (m + 1))).1 s[a] = true) : Inv p s q b (min p.length (m + 1 + (plc p[m] (p.drop (m + 1))).2)) (a + 1) := by
  obtain ⟨_, hmp, h⟩ := h
  obtain ⟨x, n, hx⟩ : ∃ x n, plc p[m] (p.drop (m + 1)) = (x, n) := ⟨_, _, rfl⟩
  have hx0 : ¬ x.f0 = 0 := fun e => h42 ((plc_star p[m] (p.drop (m + 1))).1 (by rw [hx]; exact e))
  rw [hx] at hst ⊢
  simp only at hst ⊢
  have hdm : p.drop (min p.length (m + 1 + n)) = (p.drop (m + 1)).drop n := by
    rw [List.drop_drop]
    by_cases h1 : m + 1 + n ≤ p.length
    · rw [Nat.min_eq_right h1]
    · rw [Nat.min_eq_left (by omega), List.drop_length, List.drop_eq_nil_of_le (by omega)]
  have hp : parse (p.drop m) = x :: parse (p.drop (min p.length (m + 1 + n))) := by
    rw [hdm, drop_get p m hm, parse_cons, hx]
  have hmt : mtB (parse (p.drop m)) (s.drop a) = mtB (parse (p.drop (min p.length (m + 1 + n)))) (s.drop (a + 1)) := by
    rw [hp, drop_get s a ha, mt_one _ _ _ _ hx0, hst, Bool.true_and]
  refine ⟨ha, Nat.min_le_left _ _, ?_⟩
  cases q with
  | none => exact ⟨h.1, by rw [h.2, hmt]⟩
  | some st =>
    obtain ⟨h1, hb, ⟨Q, hQ, he, hl⟩, h⟩ := h
    refine ⟨h1, by omega, ⟨Q ++ [x], ?_, by rw [he, hp]; simp, by simp; omega⟩, by rw [h, hmt]⟩
    intro y hy
    rcases List.mem_append.1 hy with hy | hy
    · exact hQ y hy
    · obtain rfl : y = x := by simpa using hy
      exact hx0

/-- What can't be here is tried further on, behind the last star. -/
theorem inv_back {p s : List UInt8} {st b m a : Nat} (h : Inv p s (some st) b m a) (ha : a < s.length) (hno : mtB (parse (p.drop m)) (s.drop a) = false) : Inv p s (some st) (b + 1) st (b + 1) := by
  obtain ⟨_, hmp, h1, hb, _, h⟩ := h
  refine ⟨by omega, h1, h1, Nat.le_refl _, ⟨[], by simp, by simp, by simp⟩, ?_⟩
  rw [h, hno]
  constructor
  · rintro (h2 | ⟨j, h2, h3, h4⟩)
    · exact absurd h2 (by simp)
    · by_cases e : j = b + 1
      · subst e; exact .inl h4
      · exact .inr ⟨j, by omega, h3, h4⟩
  · rintro (h2 | ⟨j, h2, h3, h4⟩)
    · exact .inr ⟨b + 1, by omega, by omega, h2⟩
    · exact .inr ⟨j, by omega, h3, h4⟩
theorem inv_none {p s : List UInt8} {b m a : Nat} (h : Inv p s none b m a) (hno : mtB (parse (p.drop m)) (s.drop a) = false) : mtB (parse p) s = false := by
  rw [Bool.eq_false_iff]
  intro hh
  rw [h.2.2.2.1 hh] at hno
  exact absurd hno (by simp)

def ahead (s : List UInt8) (q : Option Nat) (b : Nat) : Nat := match q with | none => s.length + 1 | some _ => s.length - b

theorem match_l0 (p s : List UInt8) (hp : p.length < 4294967281) (hs : s.length < 4294967281) : ∀ u v (q : Option Nat) (b m a : Nat), Inv p s q b m a → ahead s q b = u → p.length - m = v →
    Ev (fun k => glob_Match.l0 k (B p) (B s) (stI q) (b : Int) (B (p.drop m)) (a : Int)) (mtB (parse p) s) := by
  intro u
  induction u using Nat.strongRecOn with
  | _ u ihu =>
  intro v
  induction v using Nat.strongRecOn with
  | _ v ihv =>
  intro q b m a hI hu hv
  obtain ⟨ha, hmp, hq⟩ := hI
  have hI : Inv p s q b m a := ⟨ha, hmp, hq⟩
  have hrs : ((B (p.drop m)).size : Int) = ((p.length - m : Nat) : Int) := by rw [B_size, List.length_drop]
  refine Ev.step (fun k => by rw [glob_Match.l0]) ?_
  by_cases hlt : a < s.length
  · refine Ev.pos (by rw [B_size]; omega) ?_
    -- what can't be here
    have fall : mtB (parse (p.drop m)) (s.drop a) = false →
        Ev (fun k => if stI q < 0 then (some false) else (if 0 ≤ stI q then (if stI q ≤ ((B p).size : Int) then (glob_Match.l0 k (B p) (B s) (stI q) (wrap64 ((b : Int) + 1)) ((B p).extract (stI q : Int).toNat (B p).size) (wrap64 ((b : Int) + 1))) else none) else none)) (mtB (parse p) s) := by
      intro hno
      cases q with
      | none =>
        refine Ev.pos (by simp [stI]) ?_
        rw [inv_none hI hno]
        exact Ev.ret _
      | some st =>
        obtain ⟨h1, hb, _, _⟩ := hq
        have hI2 := inv_back hI hlt hno
        refine Ev.neg (by simp [stI]) ?_
        refine Ev.pos (by simp [stI]) ?_
        refine Ev.pos (by rw [B_size]; simp only [stI]; omega) ?_
        have ex : (B p).extract (stI (some st) : Int).toNat (B p).size = B (p.drop st) := by rw [B_extract, B_size, List.take_length]; rfl
        rw [ex, wrap_succ b (by omega)]
        refine ihu (ahead s (some st) (b + 1)) (by rw [← hu]; simp only [ahead]; omega) (p.length - st) (some st) (b + 1) st (b + 1) hI2 rfl rfl
    by_cases hm : m < p.length
    · have hd := drop_get p m hm
      have hne : ¬ ((B (p.drop m)).toList = ([] : List UInt8)) := by rw [B_toList, hd]; exact List.cons_ne_nil _ _
      refine Ev.neg hne ?_
      refine Ev.pos (by rw [hrs]; omega) ?_
      have hb0 : (bt (B (p.drop m)) 0 == 42) = decide (p[m] = 42) := by
        rw [hd]
        have := bt_B (p[m] :: p.drop (m + 1)) 0 (by rw [List.length_cons]; omega)
        rw [show (0 : Int) = ((0 : Nat) : Int) from rfl, this]
        exact beqU p[m] 42 (by decide)
      rw [hb0]
      by_cases h42 : p[m] = 42
      · rw [decide_eq_true h42]
        refine Ev.step (fun k => by rw [glob_Match.j1]) ?_
        refine Ev.pos rfl ?_
        refine Ev.pos (by rw [hrs]; omega) ?_
        have hI2 := inv_star hI hm h42
        have ex : (B (p.drop m)).extract 1 (B (p.drop m)).size = B (p.drop (m + 1)) := by rw [B_extract, B_size, List.take_length, List.drop_drop]
        have w : wrap64 (((B p).size : Int) - (((B (p.drop m)).size - 1 : Nat) : Int)) = stI (some (m + 1)) := by
          rw [B_size, B_size, List.length_drop, wrap_sub _ _ (by omega) (by omega)]
          simp only [stI]
          omega
        rw [ex, w]
        by_cases hle : ahead s (some (m + 1)) a < u
        · exact ihu _ hle _ (some (m + 1)) a (m + 1) a hI2 rfl rfl
        · have he : ahead s (some (m + 1)) a = u := by
            have : ahead s (some (m + 1)) a ≤ ahead s q b := by
              cases q with
              | none => simp only [ahead]; omega
              | some st => have := hq.2.1; simp only [ahead]; omega
            omega
          exact ihv (p.length - (m + 1)) (by omega) (some (m + 1)) a (m + 1) a hI2 he rfl
      · rw [decide_eq_false h42]
        refine Ev.step (fun k => by rw [glob_Match.j1]) ?_
        refine Ev.neg (by simp) ?_
        refine Ev.neg hne ?_
        refine Ev.pos (by omega) ?_
        refine Ev.pos (by rw [B_size]; omega) ?_
        rw [bt_B s a hlt, hd]
        refine Ev.bind (one_ev p[m] (p.drop (m + 1)) s[a] (by rw [← hd]; simp; omega) h42) ?_
        have hx0 : ¬ (plc p[m] (p.drop (m + 1))).1.f0 = 0 := fun e => h42 ((plc_star _ _).1 e)
        refine Ev.ite ?_ ?_
        · intro hst
          have hI2 := inv_next hI hm hlt h42 hst
          have hdm : p.drop (min p.length (m + 1 + (plc p[m] (p.drop (m + 1))).2)) = (p.drop (m + 1)).drop (plc p[m] (p.drop (m + 1))).2 := by
            rw [List.drop_drop]
            by_cases h1 : m + 1 + (plc p[m] (p.drop (m + 1))).2 ≤ p.length
            · rw [Nat.min_eq_right h1]
            · rw [Nat.min_eq_left (by omega), List.drop_length, List.drop_eq_nil_of_le (by omega)]
          rw [← hdm, wrap_succ a (by omega)]
          exact ihv (p.length - min p.length (m + 1 + (plc p[m] (p.drop (m + 1))).2)) (by omega) q b _ (a + 1) hI2 hu rfl
        · intro hst
          refine fall ?_
          rw [hd, parse_cons, drop_get s a hlt, mt_one _ _ _ _ hx0, show stS (plc p[m] (p.drop (m + 1))).1 s[a] = false by simpa using hst]
          rfl
    · have hnil : p.drop m = [] := List.drop_eq_nil_of_le (by omega)
      have he : (B (p.drop m)).toList = ([] : List UInt8) := by rw [hnil, B_toList]
      refine Ev.pos he ?_
      refine Ev.step (fun k => by rw [glob_Match.j1]) ?_
      refine Ev.neg (by simp) ?_
      refine Ev.pos he ?_
      refine fall ?_
      rw [hnil, parse_nil, Bool.eq_false_iff]
      intro h
      rw [mt_nil] at h
      have := congrArg List.length h
      rw [List.length_drop] at this
      simp only [List.length_nil] at this
      omega
  · refine Ev.neg (by rw [B_size]; omega) ?_
    obtain rfl : a = s.length := by omega
    have hT : strings_Trim.f (B (p.drop m)) (⟨#[42]⟩ : ByteArray) = some (B (Lib.trimS (p.drop m) [42])) := by
      unfold strings_Trim.f
      rw [if_pos ⟨by rw [B_size]; simp; omega, by decide, by decide⟩, B_data]
      rfl
    refine Ev.bind (Ev.of hT) ?_
    refine Ev.eq (Ev.ret _) ?_
    rw [B_toList]
    rw [Bool.eq_iff_iff, beq_iff_eq, trimS_empty, inv_end hI, mt_empty _ _ (Nat.le_refl _)]

theorem match_ev (p s : List UInt8) (hp : p.length < 4294967281) (hs : s.length < 4294967281) : Ev (fun k => glob_Match.f k (B p) (B s)) (mtB (parse p) s) := by
  refine Ev.congr (fun k => by rw [glob_Match.f]) ?_
  have := match_l0 p s hp hs _ _ none 0 0 0 ⟨by omega, by omega, rfl, by simp⟩ rfl rfl
  exact this
end Go.Proofs.YtgpabkdmagifjaaDoor.X
