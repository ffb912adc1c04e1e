/- package glob and its reference: is a text of a pattern: by the table of beginnings, and by going back to the last star; plain Lean. -/
import Derived.Test.YtgpabkdmagifjaaDoorPGlobB
import Derived.Lib.SlTrimSet
namespace Go.Proofs.YtgpabkdmagifjaaDoor.X
open Go.RowKit Go.Proofs.YtgpabkdmagifjaaDoorW.PrintWords Go.Proofs.YtgpabkdmagifjaaDoorW.PrintLast Go.Proofs.YtgpabkdmagifjaaDoorW.PrintMore Go.Proofs.YtgpabkdmagifjaaDoor.XW02
set_option linter.unusedSimpArgs false
set_option linter.unusedVariables false

/-- Is a text of places? -/
def mtB : List S133 → List UInt8 → Bool
  | [], s => s.isEmpty
  | x :: l, s => if x.f0 = 0 then (List.range (s.length + 1)).any (fun j => mtB l (s.drop j)) else (match s with | [] => false | c :: t => stS x c && mtB l t)
theorem mtB_cons (x : S133) (l : List S133) (s : List UInt8) : mtB (x :: l) s = if x.f0 = 0 then (List.range (s.length + 1)).any (fun j => mtB l (s.drop j)) else (match s with | [] => false | c :: t => stS x c && mtB l t) := by rw [mtB.eq_def]
theorem mt_nil (s : List UInt8) : mtB [] s = true ↔ s = [] := by simp only [mtB]; exact List.isEmpty_iff
theorem mt_star (x : S133) (l : List S133) (s : List UInt8) (h : x.f0 = 0) : mtB (x :: l) s = true ↔ ∃ j, j ≤ s.length ∧ mtB l (s.drop j) = true := by
  rw [mtB_cons, if_pos h, List.any_eq_true]
  constructor
  · rintro ⟨j, hj, h⟩; exact ⟨j, by have := List.mem_range.1 hj; omega, h⟩
  · rintro ⟨j, hj, h⟩; exact ⟨j, List.mem_range.2 (by omega), h⟩
theorem mt_one_nil (x : S133) (l : List S133) (h : ¬ x.f0 = 0) : mtB (x :: l) [] = false := by rw [mtB_cons, if_neg h]
theorem mt_one (x : S133) (l : List S133) (c : UInt8) (t : List UInt8) (h : ¬ x.f0 = 0) : mtB (x :: l) (c :: t) = (stS x c && mtB l t) := by rw [mtB_cons, if_neg h]

theorem mt_append (l1 l2 : List S133) : ∀ s, mtB (l1 ++ l2) s = true ↔ ∃ j, j ≤ s.length ∧ mtB l1 (s.take j) = true ∧ mtB l2 (s.drop j) = true := by
  induction l1 with
  | nil =>
    intro s
    rw [List.nil_append]
    constructor
    · intro h; exact ⟨0, by omega, by rw [mt_nil]; rfl, h⟩
    · rintro ⟨j, hj, h1, h2⟩
      rw [mt_nil] at h1
      have : j = 0 := by have := congrArg List.length h1; rw [List.length_take] at this; simp only [List.length_nil] at this; omega
      subst this; exact h2
  | cons x l1 ih =>
    intro s
    rw [List.cons_append]
    by_cases h : x.f0 = 0
    · rw [mt_star x _ s h]
      constructor
      · rintro ⟨i, hi, h1⟩
        obtain ⟨j, hj, h2, h3⟩ := (ih _).1 h1
        simp only [List.length_drop] at hj
        refine ⟨i + j, by omega, ?_, ?_⟩
        · rw [mt_star x _ _ h]
          refine ⟨i, by simp; omega, ?_⟩
          rw [List.drop_take, show i + j - i = j by omega]; exact h2
        · rw [← List.drop_drop]; exact h3
      · rintro ⟨m, hm, h1, h2⟩
        obtain ⟨i, hi, h3⟩ := (mt_star x _ _ h).1 h1
        simp only [List.length_take] at hi
        refine ⟨i, by omega, (ih _).2 ⟨m - i, by simp; omega, ?_, ?_⟩⟩
        · rw [List.drop_take] at h3; exact h3
        · rw [List.drop_drop, show i + (m - i) = m by omega]; exact h2
    · cases s with
      | nil =>
        rw [mt_one_nil x _ h]
        constructor
        · intro h; exact absurd h (by simp)
        · rintro ⟨j, hj, h1, _⟩
          rw [List.take_nil, mt_one_nil x _ h] at h1; exact absurd h1 (by simp)
      | cons c t =>
        rw [mt_one x _ c t h, Bool.and_eq_true, ih t]
        constructor
        · rintro ⟨h1, j, hj, h2, h3⟩
          refine ⟨j + 1, by simp; omega, ?_, by simpa using h3⟩
          rw [List.take_succ_cons, mt_one x _ _ _ h, h1, h2]; rfl
        · rintro ⟨m, hm, h1, h2⟩
          cases m with
          | zero => rw [List.take_zero, mt_one_nil x _ h] at h1; exact absurd h1 (by simp)
          | succ m =>
            rw [List.take_succ_cons, mt_one x _ _ _ h, Bool.and_eq_true] at h1
            exact ⟨h1.1, m, by simp at hm; omega, h1.2, by simpa using h2⟩

theorem mt_len (Q : List S133) (hQ : ∀ x ∈ Q, ¬ x.f0 = 0) : ∀ s, mtB Q s = true → s.length = Q.length := by
  induction Q with
  | nil => intro s h; rw [mt_nil] at h; subst h; rfl
  | cons x Q ih =>
    intro s h
    have hx := hQ x (by simp)
    cases s with
    | nil => rw [mt_one_nil x _ hx] at h; exact absurd h (by simp)
    | cons c t =>
      rw [mt_one x _ _ _ hx, Bool.and_eq_true] at h
      have := ih (fun y hy => hQ y (by simp [hy])) t h.2
      simp [this]

/-! ### the reference: by the table -/
/-- What a place holds. -/
def WfP (x : S133) : Prop := x.f0 = 0 ∨ x.f0 = 1 ∨ (x.f0 = 2 ∧ x.f1.data.toList.length < 4294967281) ∨ (x.f0 = 3 ∧ ∃ c, x.f1 = B [c])
theorem plc_wf (b : UInt8) (r : List UInt8) (hl : r.length < 4294967281) : WfP (plc b r).1 := by
  unfold plc WfP
  split
  · simp
  · split
    · simp
    · split
      · cases endS r with
        | none => exact .inr (.inr (.inr ⟨rfl, b, rfl⟩))
        | some e => exact .inr (.inr (.inl ⟨rfl, by show ((B (r.take e)).data.toList).length < _; rw [B_data]; simp; omega⟩))
      · split
        · cases r with
          | nil => exact .inr (.inr (.inr ⟨rfl, b, rfl⟩))
          | cons c r => exact .inr (.inr (.inr ⟨rfl, c, rfl⟩))
        · exact .inr (.inr (.inr ⟨rfl, b, rfl⟩))
theorem parse_wf : ∀ (n : Nat) (l : List UInt8), l.length ≤ n → n < 4294967281 → ∀ x ∈ parse l, WfP x := by
  intro n
  induction n with
  | zero => intro l h _ x hx; have : l = [] := List.eq_nil_of_length_eq_zero (by omega); subst this; rw [parse_nil] at hx; simp at hx
  | succ n ih =>
    intro l h hn x hx
    cases l with
    | nil => rw [parse_nil] at hx; simp at hx
    | cons b r =>
      rw [parse_cons] at hx
      simp at h
      rcases List.mem_cons.1 hx with rfl | hx
      · exact plc_wf b r (by omega)
      · exact ih _ (by simp; omega) (by omega) x hx
theorem parse_len : ∀ (n : Nat) (l : List UInt8), l.length ≤ n → (parse l).length ≤ l.length := by
  intro n
  induction n with
  | zero => intro l h; have : l = [] := List.eq_nil_of_length_eq_zero (by omega); subst this; rw [parse_nil]; simp
  | succ n ih =>
    intro l h
    cases l with
    | nil => rw [parse_nil]; simp
    | cons b r =>
      rw [parse_cons]
      simp at h
      have := ih (r.drop (plc b r).2) (by simp; omega)
      simp at this ⊢
      omega

theorem stands_ev (x : S133) (c : UInt8) (hw : WfP x) (h0 : ¬ x.f0 = 0) : Ev (fun k => flatironref02_stands.f k x.f0 x.f1 (c.toNat : Int)) (stS x c) := by
  refine Ev.congr (fun k => by rw [flatironref02_stands.f]) ?_
  rcases hw with h | h | ⟨h, hl⟩ | ⟨h, d, hd⟩
  · exact absurd h h0
  · refine Ev.neg (by omega) (Ev.pos h ?_)
    refine Ev.eq (Ev.ret _) ?_
    simp [stS, h]
  · refine Ev.pos h ?_
    have := refWithin_ev x.f1.data.toList c hl
    rw [B_of] at this
    refine Ev.bind this ?_
    refine Ev.eq (Ev.ret _) ?_
    simp [stS, h]
  · refine Ev.neg (by omega) (Ev.neg (by omega) ?_)
    rw [hd]
    refine Ev.pos (by simp [B_size]) ?_
    have := bt_B [d] 0 (by simp)
    rw [show (0 : Int) = ((0 : Nat) : Int) from rfl, this, beqUU]
    refine Ev.eq (Ev.ret _) ?_
    simp [stS, h, hd, B_data]

/-- Are the first i places' texts the first k bytes? -/
def G (P : List S133) (s : List UInt8) (i k : Nat) : Bool := mtB (P.take i) (s.take k)
def row (P : List S133) (s : List UInt8) (i : Nat) : List Bool := (List.range (s.length + 1)).map (G P s i)
def nx (P : List S133) (s : List UInt8) (i k : Nat) : List Bool := (List.range k).map (G P s i) ++ List.replicate (s.length + 1 - k) false
theorem nx_len (P : List S133) (s : List UInt8) (i k : Nat) (hk : k ≤ s.length + 1) : (nx P s i k).length = s.length + 1 := by simp [nx]; omega
theorem nx_all (P : List S133) (s : List UInt8) (i : Nat) : nx P s i (s.length + 1) = row P s i := by simp [nx, row]
theorem nx_set (P : List S133) (s : List UInt8) (i k : Nat) (v : Bool) (hk : k ≤ s.length) (hv : v = G P s i k) : (nx P s i k).set k v = nx P s i (k + 1) := by
  subst hv
  obtain ⟨n, hn⟩ : ∃ n, s.length + 1 - k = n + 1 := ⟨s.length - k, by omega⟩
  have e : s.length + 1 - (k + 1) = n := by omega
  unfold nx
  rw [hn, e, List.range_succ, List.map_append, List.replicate_succ, List.set_append_right _ _ (by simp)]
  simp
theorem nx_false (P : List S133) (s : List UInt8) (i k : Nat) (hk : k ≤ s.length) (hv : G P s i k = false) : nx P s i k = nx P s i (k + 1) := by
  obtain ⟨n, hn⟩ : ∃ n, s.length + 1 - k = n + 1 := ⟨s.length - k, by omega⟩
  have e : s.length + 1 - (k + 1) = n := by omega
  unfold nx
  rw [hn, e, List.range_succ, List.map_append, List.replicate_succ]
  simp [hv]
theorem nx_read (P : List S133) (s : List UInt8) (i k j : Nat) (hk : k ≤ s.length + 1) (hj : j < k) : rdOf false (nx P s i k) (j : Int) = G P s i j := by
  rw [rdOf_get false _ j (by rw [nx_len P s i k hk]; omega)]
  simp [nx, List.getElem_append, hj]
theorem row_read (P : List S133) (s : List UInt8) (i j : Nat) (hj : j ≤ s.length) : rdOf false (row P s i) (j : Int) = G P s i j := by
  rw [← nx_all]; exact nx_read P s i _ j (Nat.le_refl _) (by omega)
theorem row_len (P : List S133) (s : List UInt8) (i : Nat) : (row P s i).length = s.length + 1 := by simp [row]

theorem G_star (P : List S133) (s : List UInt8) (i k : Nat) (hi : i < P.length) (h : P[i].f0 = 0) (hk : k ≤ s.length) : G P s (i + 1) k = (G P s i k || (decide (0 < k) && G P s (i + 1) (k - 1))) := by
  have step : ∀ m, m ≤ s.length → (G P s (i + 1) m = true ↔ ∃ j, j ≤ m ∧ G P s i j = true) := by
    intro m hm
    unfold G
    rw [List.take_succ_eq_append_getElem hi, mt_append]
    have hl : (s.take m).length = m := by simp; omega
    rw [hl]
    constructor
    · rintro ⟨j, hj, h1, _⟩
      exact ⟨j, hj, by rw [List.take_take, Nat.min_eq_left hj] at h1; exact h1⟩
    · rintro ⟨j, hj, h1⟩
      refine ⟨j, hj, by rw [List.take_take, Nat.min_eq_left hj]; exact h1, ?_⟩
      rw [mt_star _ _ _ h]
      exact ⟨_, Nat.le_refl _, by rw [mt_nil]; exact List.drop_length⟩
  rw [Bool.eq_iff_iff, step k hk, Bool.or_eq_true, Bool.and_eq_true, decide_eq_true_eq]
  constructor
  · rintro ⟨j, hj, h1⟩
    by_cases e : j = k
    · subst e; exact .inl h1
    · exact .inr ⟨by omega, (step (k - 1) (by omega)).2 ⟨j, by omega, h1⟩⟩
  · rintro (h1 | ⟨h0, h1⟩)
    · exact ⟨k, Nat.le_refl _, h1⟩
    · obtain ⟨j, hj, h2⟩ := (step (k - 1) (by omega)).1 h1
      exact ⟨j, by omega, h2⟩
theorem G_one0 (P : List S133) (s : List UInt8) (i : Nat) (hi : i < P.length) (h : ¬ P[i].f0 = 0) : G P s (i + 1) 0 = false := by
  unfold G
  rw [Bool.eq_false_iff]
  intro hh
  rw [List.take_succ_eq_append_getElem hi, mt_append] at hh
  obtain ⟨j, hj, _, h2⟩ := hh
  simp at hj
  subst hj
  rw [List.take_zero, List.drop_nil, mt_one_nil _ _ h] at h2
  exact absurd h2 (by simp)
theorem G_one (P : List S133) (s : List UInt8) (i k : Nat) (hi : i < P.length) (h : ¬ P[i].f0 = 0) (hk : k < s.length) : G P s (i + 1) (k + 1) = (G P s i k && stS P[i] s[k]) := by
  unfold G
  rw [Bool.eq_iff_iff, List.take_succ_eq_append_getElem hi, mt_append, Bool.and_eq_true]
  have hl : (s.take (k + 1)).length = k + 1 := by simp; omega
  rw [hl]
  constructor
  · rintro ⟨j, hj, h1, h2⟩
    have hlen := mt_len [P[i]] (by simpa using h) _ h2
    simp at hlen
    have : j = k := by omega
    subst this
    rw [List.take_take, Nat.min_eq_left (by omega)] at h1
    rw [one_at s j hk, mt_one _ _ _ _ h, Bool.and_eq_true] at h2
    exact ⟨h1, h2.1⟩
  · rintro ⟨h1, h2⟩
    refine ⟨k, by omega, by rw [List.take_take, Nat.min_eq_left (by omega)]; exact h1, ?_⟩
    rw [one_at s k hk, mt_one _ _ _ _ h, h2, (mt_nil []).2 rfl]; rfl

theorem rdP (P : List S133) (i : Nat) (h : i < P.length) : rd_T133 P (i : Int) = P[i] := by simp [rd_T133, h]

theorem dp_l1 (P : List S133) (s : List UInt8) (i : Nat) (R : Bool) (hi : i < P.length) (hP : P.length < 4294967281) (hs : s.length < 4294967281) (hw : ∀ x ∈ P, WfP x)
    (hnext : Ev (fun k => flatironref02_Match.l0 k (B s) P (row P s (i + 1)) ((i + 1 : Nat) : Int)) R) :
    ∀ k, k ≤ s.length + 1 → Ev (fun kk => flatironref02_Match.l1 kk (B s) P (row P s i) (i : Int) (nx P s (i + 1) k) (k : Int)) R := by
  refine upto_ind ?_ ?_
  · refine Ev.step (fun k => by rw [flatironref02_Match.l1]) ?_
    refine Ev.neg (by rw [B_size]; omega) ?_
    rw [nx_all, wrap_succ i (by omega)]
    exact hnext
  · intro k hk ih
    have hk' : k ≤ s.length := by omega
    rw [← wrap_succ k (by omega)] at ih
    refine Ev.step (fun k => by rw [flatironref02_Match.l1]) ?_
    refine Ev.pos (by rw [B_size]; omega) ?_
    refine Ev.pos (by omega) ?_
    refine Ev.pos (by omega) ?_
    rw [rdP P i hi]
    have hlen := nx_len P s (i + 1) k (by omega)
    have put : ∀ v : Bool, v = G P s (i + 1) k → Ev (fun kk => if (k : Int) < ((nx P s (i + 1) k).length : Int) then (flatironref02_Match.l1 kk (B s) P (row P s i) (i : Int) ((nx P s (i + 1) k).set (k : Int).toNat v) (wrap64 ((k : Int) + 1))) else none) R := by
      intro v hv
      refine Ev.pos (by rw [hlen]; omega) ?_
      rw [show ((k : Int)).toNat = k from rfl, nx_set P s (i + 1) k v hk' hv]
      exact ih
    by_cases h0 : P[i].f0 = 0
    · have hg := G_star P s i k hi h0 hk'
      refine Ev.pos h0 ?_
      refine Ev.pos (by omega) ?_
      refine Ev.pos (by rw [row_len]; omega) ?_
      rw [row_read P s i k hk']
      refine Ev.ite ?_ ?_
      · intro hG
        exact put true (by rw [hg, hG]; rfl)
      · intro hG
        have hG' : G P s i k = false := by simpa using hG
        refine Ev.ite ?_ ?_
        · intro hk0
          rw [wrap_pred k (by omega) (by omega)]
          refine Ev.pos (by omega) ?_
          refine Ev.pos (by rw [hlen]; omega) ?_
          rw [nx_read P s (i + 1) k (k - 1) (by omega) (by omega)]
          exact put _ (by rw [hg, hG', decide_eq_true (by omega : 0 < k)]; simp)
        · intro hk0
          exact put false (by rw [hg, hG', decide_eq_false (by omega : ¬ 0 < k)]; rfl)
    · refine Ev.neg h0 ?_
      have skip : G P s (i + 1) k = false → Ev (fun kk => flatironref02_Match.l1 kk (B s) P (row P s i) (i : Int) (nx P s (i + 1) k) (wrap64 ((k : Int) + 1))) R := by
        intro hG
        rw [nx_false P s (i + 1) k hk' hG]
        exact ih
      refine Ev.ite ?_ ?_
      · intro hk0
        obtain ⟨j, rfl⟩ : ∃ j, k = j + 1 := ⟨k - 1, by omega⟩
        have hg := G_one P s i j hi h0 (by omega)
        rw [wrap_pred (j + 1) (by omega) (by omega), show j + 1 - 1 = j by omega]
        refine Ev.pos (by omega) ?_
        refine Ev.pos (by rw [row_len]; omega) ?_
        rw [row_read P s i j (by omega)]
        refine Ev.ite ?_ ?_
        · intro hG
          refine Ev.pos (by rw [B_size]; omega) ?_
          rw [bt_B s j (by omega)]
          refine Ev.bind (stands_ev P[i] s[j] (hw _ (List.getElem_mem hi)) h0) ?_
          refine Ev.pos (by omega) ?_
          exact put _ (by rw [hg, hG]; rfl)
        · intro hG
          exact skip (by rw [hg, show G P s i j = false by simpa using hG]; rfl)
      · intro hk0
        obtain rfl : k = 0 := by omega
        exact skip (G_one0 P s i hi h0)

theorem dp_l0 (P : List S133) (s : List UInt8) (hP : P.length < 4294967281) (hs : s.length < 4294967281) (hw : ∀ x ∈ P, WfP x) :
    ∀ i, i ≤ P.length → Ev (fun k => flatironref02_Match.l0 k (B s) P (row P s i) (i : Int)) (mtB P s) := by
  refine upto_ind ?_ ?_
  · refine Ev.step (fun k => by rw [flatironref02_Match.l0]) ?_
    refine Ev.neg (by omega) ?_
    rw [B_size]
    refine Ev.pos (by omega) ?_
    refine Ev.pos (by rw [row_len]; omega) ?_
    rw [row_read P s P.length s.length (Nat.le_refl _)]
    refine Ev.eq (Ev.ret _) ?_
    simp [G]
  · intro i hi ih
    refine Ev.step (fun k => by rw [flatironref02_Match.l0]) ?_
    refine Ev.pos (by omega) ?_
    rw [B_size, wrap_succ s.length (by omega)]
    refine Ev.pos (by omega) ?_
    refine Ev.pos (by omega) ?_
    have := dp_l1 P s i (mtB P s) hi hP hs hw ih 0 (by omega)
    have e : nx P s (i + 1) 0 = List.replicate (((s.length + 1 : Nat) : Int)).toNat false := by simp [nx]
    rw [e] at this
    exact this

theorem refMatch_ev (p s : List UInt8) (hp : p.length < 4294967281) (hs : s.length < 4294967281) : Ev (fun k => flatironref02_Match.f k (B p) (B s)) (mtB (parse p) s) := by
  refine Ev.congr (fun k => by rw [flatironref02_Match.f]) ?_
  refine Ev.bind (places_ev p hp) ?_
  rw [B_size, wrap_succ s.length (by omega)]
  refine Ev.pos (by omega) ?_
  refine Ev.pos (by omega) ?_
  refine Ev.congr (fun k => by rw [Option.bind_some]) ?_
  refine Ev.pos (by simp) ?_
  have hr : (List.replicate (((s.length + 1 : Nat) : Int)).toNat false).set (0 : Int).toNat true = row (parse p) s 0 := by
    have e : (((s.length + 1 : Nat) : Int)).toNat = s.length + 1 := rfl
    rw [e]
    have h0 : nx (parse p) s 0 0 = List.replicate (s.length + 1) false := by simp [nx]
    have g0 : G (parse p) s 0 0 = true := by unfold G; rw [List.take_zero, List.take_zero, mt_nil]
    have gs : ∀ j, 0 < j → j ≤ s.length → G (parse p) s 0 j = false := by
      intro j h1 h2
      rw [Bool.eq_false_iff]
      intro h
      unfold G at h
      rw [List.take_zero, mt_nil] at h
      have := congrArg List.length h
      rw [List.length_take] at this
      simp only [List.length_nil] at this
      omega
    rw [← h0, show (0 : Int).toNat = 0 from rfl, nx_set (parse p) s 0 0 true (by omega) g0.symm, ← nx_all]
    have up : ∀ d, 1 + d ≤ s.length + 1 → nx (parse p) s 0 1 = nx (parse p) s 0 (1 + d) := by
      intro d
      induction d with
      | zero => intro _; rfl
      | succ d ih =>
        intro h
        rw [ih (by omega), nx_false (parse p) s 0 (1 + d) (by omega) (gs _ (by omega) (by omega))]
        rfl
    have := up s.length (by omega)
    rw [Nat.add_comm] at this
    exact this
  rw [hr]
  exact dp_l0 (parse p) s (by have := parse_len p.length p (Nat.le_refl _); omega) hs (parse_wf p.length p (Nat.le_refl _) hp) 0 (by omega)
end Go.Proofs.YtgpabkdmagifjaaDoor.X
