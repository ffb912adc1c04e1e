/- The reference's reader; plain Lean. -/
import Derived.Test.YtgpabkdmagifjaaDoorPLexH
namespace Go.Proofs.YtgpabkdmagifjaaDoor.X
open Go.RowKit Go.Proofs.YtgpabkdmagifjaaDoorW.PrintWords Go.Proofs.YtgpabkdmagifjaaDoorW.PrintLast Go.Proofs.YtgpabkdmagifjaaDoorW.PrintMore Go.Proofs.YtgpabkdmagifjaaDoor.XW05
set_option linter.unusedSimpArgs false
set_option linter.unusedVariables false

def s78 (x : Nat × List UInt8) : S78 := ⟨(x.1 : Int), B x.2⟩
def resF (o : Option (List (Nat × List UInt8))) : List S78 × Bool := match o with | some res => (res.map s78, true) | none => ([], false)
theorem ext1 (l : List UInt8) (i : Nat) (h : i < l.length) : (B l).extract (i : Int).toNat (((i + 1 : Nat) : Int)).toNat = B [l[i]'h] := by
  rw [B_extract]; congr 1; exact one_at l i h
theorem place2 (l : List UInt8) (hl : l.length < 4294967281) (i : Nat) (hi : i < l.length)
    (ih : ∀ j, i < j → j ≤ l.length → ∀ (out : List (Nat × List UInt8)) (cur : List UInt8), out.length ≤ 2 * j → cur.length ≤ j →
      Ev (fun k => flatironref05_Tokens.l0 k (B l) (out.map s78) 1 (B cur) (j : Int)) (resF (V1 cur out (l.drop j))) ∧ Ev (fun k => flatironref05_Tokens.l0 k (B l) (out.map s78) 2 (B cur) (j : Int)) (resF (V2 39 cur out (l.drop j))))
    (out : List (Nat × List UInt8)) (cur : List UInt8) (ho : out.length ≤ 2 * i) (hc : cur.length ≤ i) :
    Ev (fun k => flatironref05_Tokens.l0 k (B l) (out.map s78) 2 (B cur) (i : Int)) (resF (V2 39 cur out (l.drop i))) := by
  have hbt := bt_B l i hi
  refine Ev.step (fun k => by rw [flatironref05_Tokens.l0]) ?_
  refine Ev.pos (by rw [B_size]; omega) ?_
  refine Ev.pos (by omega) ?_
  rw [hbt]
  refine Ev.bind (has_ev _) ?_
  refine Ev.pos rfl ?_
  rw [wrap_succ i (by omega), drop_get l i hi]
  refine Ev.iff (show (((l[i].toNat : Int)) = 39) = (l[i] = 39) by first | exact u8_num _ 39 (by decide) | exact propext (u8_num _ 39 (by decide))) ?_ ?_
  · intro h
    rw [h, V2_hit]
    exact (ih (i + 1) (by omega) (by omega) out cur (by omega) (by omega)).1
  · intro h
    refine Ev.pos (by omega) ?_
    refine Ev.pos (by rw [B_size]; omega) ?_
    refine Ev.pos (by rw [B_size]; omega) ?_
    rw [ext1 l i hi, B_append, V2_one _ _ _ _ _ h (fun hh => absurd hh.1 (by decide))]
    exact (ih (i + 1) (by omega) (by omega) out (cur ++ [l[i]]) (by omega) (by simp; omega)).2
theorem place3 (l : List UInt8) (hl : l.length < 4294967281) (i : Nat) (hi : i < l.length)
    (ih : ∀ j, i < j → j ≤ l.length → ∀ (out : List (Nat × List UInt8)) (cur : List UInt8), out.length ≤ 2 * j → cur.length ≤ j →
      Ev (fun k => flatironref05_Tokens.l0 k (B l) (out.map s78) 1 (B cur) (j : Int)) (resF (V1 cur out (l.drop j))) ∧ Ev (fun k => flatironref05_Tokens.l0 k (B l) (out.map s78) 3 (B cur) (j : Int)) (resF (V2 34 cur out (l.drop j))))
    (out : List (Nat × List UInt8)) (cur : List UInt8) (ho : out.length ≤ 2 * i) (hc : cur.length ≤ i) :
    Ev (fun k => flatironref05_Tokens.l0 k (B l) (out.map s78) 3 (B cur) (i : Int)) (resF (V2 34 cur out (l.drop i))) := by
  have hbt := bt_B l i hi
  have num : ∀ (b : UInt8) (n : Nat), n < 256 → (((b.toNat : Int)) = (n : Int)) = (b = UInt8.ofNat n) := fun b n h => by first | exact u8_num b n h | exact propext (u8_num b n h)
  refine Ev.step (fun k => by rw [flatironref05_Tokens.l0]) ?_
  refine Ev.pos (by rw [B_size]; omega) ?_
  refine Ev.pos (by omega) ?_
  rw [hbt]
  refine Ev.bind (has_ev _) ?_
  refine Ev.neg (by decide) ?_
  refine Ev.pos rfl ?_
  refine Ev.step (fun k => by rw [flatironref05_Tokens.j1]) ?_
  rw [wrap_succ i (by omega), drop_get l i hi]
  refine Ev.iff (show ((((l[i].toNat : Int)) == 34) = true) = (l[i] = 34) by rw [beq_iff_eq]; exact num _ 34 (by decide)) ?_ ?_
  · intro h
    rw [h, V2_hit]
    exact (ih (i + 1) (by omega) (by omega) out cur (by omega) (by omega)).1
  · intro h
    have one : ¬ (l[i] = 92 ∧ ∃ h4 : i + 1 < l.length, (l[i + 1] = 34 ∨ l[i + 1] = 92)) → Ev (fun k => if 0 ≤ (i : Int) then (if (i : Int) ≤ ((i + 1 : Nat) : Int) then (if ((i + 1 : Nat) : Int) ≤ ((B l).size : Int) then (if (B cur).size + ((((i + 1 : Nat) : Int).toNat) - (i : Int).toNat) ≤ 9223372036854775807 then (flatironref05_Tokens.l0 k (B l) (out.map s78) 3 ((B cur) ++ ((B l).extract (i : Int).toNat (((i + 1 : Nat) : Int)).toNat)) ((i + 1 : Nat) : Int)) else none) else none) else none) else none) (resF (V2 34 cur out (l[i] :: l.drop (i + 1)))) := by
      intro hn
      refine Ev.pos (by omega) ?_
      refine Ev.pos (by omega) ?_
      refine Ev.pos (by rw [B_size]; omega) ?_
      refine Ev.pos (by rw [B_size]; omega) ?_
      rw [ext1 l i hi, B_append, V2_one _ _ _ _ _ h]
      · exact (ih (i + 1) (by omega) (by omega) out (cur ++ [l[i]]) (by omega) (by simp; omega)).2
      · rintro ⟨_, h2, c, r', h6, h7⟩
        refine hn ⟨h2, ?_⟩
        have h4 : i + 1 < l.length := by
          have := congrArg List.length h6
          simp only [List.length_drop, List.length_cons] at this
          omega
        refine ⟨h4, ?_⟩
        rw [drop_get l (i + 1) h4] at h6
        injection h6 with h8 _
        rw [h8]; exact h7
    refine Ev.pos rfl ?_
    refine Ev.iff (show (((l[i].toNat : Int)) = 92) = (l[i] = 92) from num _ 92 (by decide)) ?_ (fun h9 => one (fun hh => h9 hh.1))
    intro h92
    by_cases h4 : i + 1 < l.length
    · refine Ev.pos (by rw [B_size]; omega) ?_
      refine Ev.pos (by omega) ?_
      rw [bt_B l (i + 1) h4, wrap_succ (i + 1) (by omega)]
      refine Ev.iff (show (((l[i + 1].toNat : Int)) = 34) = (l[i + 1] = 34) from num _ 34 (by decide)) ?_ ?_
      · intro y
        refine Ev.pos (by omega) ?_
        refine Ev.pos (by rw [B_size]; omega) ?_
        refine Ev.pos (by rw [B_size]; omega) ?_
        rw [ext1 l (i + 1) h4, B_append, h92, drop_get l (i + 1) h4, V2_esc _ _ _ _ (.inl y)]
        exact (ih (i + 1 + 1) (by omega) (by omega) out (cur ++ [l[i + 1]]) (by omega) (by simp; omega)).2
      · intro y
        refine Ev.iff (show (((l[i + 1].toNat : Int)) = 92) = (l[i + 1] = 92) from num _ 92 (by decide)) ?_ ?_
        · intro z
          refine Ev.pos (by omega) ?_
          refine Ev.pos (by rw [B_size]; omega) ?_
          refine Ev.pos (by rw [B_size]; omega) ?_
          rw [ext1 l (i + 1) h4, B_append, h92, drop_get l (i + 1) h4, V2_esc _ _ _ _ (.inr z)]
          exact (ih (i + 1 + 1) (by omega) (by omega) out (cur ++ [l[i + 1]]) (by omega) (by simp; omega)).2
        · intro z
          exact one (fun hh => hh.2.2.elim y z)
    · refine Ev.neg (by rw [B_size]; omega) ?_
      exact one (fun hh => h4 hh.2.1)
theorem step_ev (b : UInt8) (r : List UInt8) : flatironref05_step.f (B (b :: r)) = some (if b = 39 then (1, 2, true) else if b = 34 then (1, 3, true) else if b = 92 then (2, 1, decide (r ≠ [])) else (1, 1, true)) := by
  have hbt : bt (B (b :: r)) 0 = (b.toNat : Int) := bt_B (b :: r) 0 (by simp)
  have num : ∀ (b : UInt8) (n : Nat), n < 256 → (((b.toNat : Int)) = (n : Int)) = (b = UInt8.ofNat n) := fun b n h => by first | exact u8_num b n h | exact propext (u8_num b n h)
  have e39 : (((b.toNat : Int)) = 39) = (b = 39) := num b 39 (by decide)
  have e34 : (((b.toNat : Int)) = 34) = (b = 34) := num b 34 (by decide)
  have e92 : (((b.toNat : Int)) = 92) = (b = 92) := num b 92 (by decide)
  unfold flatironref05_step.f
  rw [if_pos (by rw [B_size]; simp), hbt]
  simp only [e39, e34, e92]
  by_cases h1 : b = 39
  · rw [if_pos h1, if_pos h1]
  · rw [if_neg h1, if_neg h1]
    by_cases h2 : b = 34
    · rw [if_pos h2, if_pos h2]
    · rw [if_neg h2, if_neg h2]
      by_cases h3 : b = 92
      · rw [if_pos h3, if_pos h3]
        congr 3
        rw [B_size, Bool.eq_iff_iff, decide_eq_true_eq, decide_eq_true_eq]
        cases r with
        | nil => simp
        | cons c m => simp; omega
      · rw [if_neg h3, if_neg h3]
/-- A word's byte, that is no stop: in places 0 and 1. -/
theorem placeW (l : List UInt8) (hl : l.length < 4294967281) (i : Nat) (hi : i < l.length) (hns : ¬ stopB l[i] = true) (md : Int) (hmd : md = 0 ∨ md = 1)
    (ih : ∀ j, i < j → j ≤ l.length → ∀ (out : List (Nat × List UInt8)) (cur : List UInt8), out.length ≤ 2 * j → cur.length ≤ j →
      Ev (fun k => flatironref05_Tokens.l0 k (B l) (out.map s78) 1 (B cur) (j : Int)) (resF (V1 cur out (l.drop j))) ∧ Ev (fun k => flatironref05_Tokens.l0 k (B l) (out.map s78) 2 (B cur) (j : Int)) (resF (V2 39 cur out (l.drop j)))
        ∧ Ev (fun k => flatironref05_Tokens.l0 k (B l) (out.map s78) 3 (B cur) (j : Int)) (resF (V2 34 cur out (l.drop j))))
    (out : List (Nat × List UInt8)) (cur : List UInt8) (ho : out.length ≤ 2 * i) (hc : cur.length ≤ i) :
    Ev (fun k => flatironref05_Tokens.l0 k (B l) (out.map s78) md (B cur) (i : Int)) (resF (V1 cur out (l.drop i))) := by
  have hbt := bt_B l i hi
  refine Ev.step (fun k => by rw [flatironref05_Tokens.l0]) ?_
  refine Ev.pos (by rw [B_size]; omega) ?_
  refine Ev.pos (by omega) ?_
  rw [hbt]
  refine Ev.bind (has_ev _) ?_
  refine Ev.neg (by omega) ?_
  refine Ev.neg (by omega) ?_
  refine Ev.step (fun k => by rw [flatironref05_Tokens.j1]) ?_
  refine Ev.neg (by simp) ?_
  refine Ev.neg (by omega) ?_
  refine Ev.neg hns ?_
  refine Ev.pos (by omega) ?_
  refine Ev.pos (by rw [B_size]; omega) ?_
  have hx : (B l).extract (i : Int).toNat (B l).size = B (l[i] :: l.drop (i + 1)) := by
    rw [B_size, B_extract, List.take_of_length_le (Nat.le_refl _), ← drop_get l i hi]; rfl
  rw [hx]
  refine Ev.bind (Ev.of (step_ev _ _)) ?_
  rw [drop_get l i hi]
  by_cases h39 : l[i] = 39
  · rw [if_pos h39]
    refine Ev.pos rfl ?_
    refine Ev.neg (by decide) ?_
    rw [show V1 cur out (l[i] :: l.drop (i + 1)) = V2 39 cur out (l.drop (i + 1)) by rw [V1_q cur _ out l[i] hns (.inl h39), h39]]
    have := (ih (i + 1) (by omega) (by omega) out cur (by omega) (by omega)).2.1
    rw [← wrap_succ i (by omega)] at this
    exact this
  · rw [if_neg h39]
    by_cases h34 : l[i] = 34
    · rw [if_pos h34]
      refine Ev.pos rfl ?_
      refine Ev.neg (by decide) ?_
      rw [show V1 cur out (l[i] :: l.drop (i + 1)) = V2 34 cur out (l.drop (i + 1)) by rw [V1_q cur _ out l[i] hns (.inr h34), h34]]
      have := (ih (i + 1) (by omega) (by omega) out cur (by omega) (by omega)).2.2
      rw [← wrap_succ i (by omega)] at this
      exact this
    · rw [if_neg h34]
      by_cases h92 : l[i] = 92
      · rw [if_pos h92]
        by_cases h4 : i + 1 < l.length
        · have hne : decide (l.drop (i + 1) ≠ []) = true := decide_eq_true (fun e => by have := congrArg List.length e; simp only [List.length_drop, List.length_nil] at this; omega)
          rw [hne]
          have w2 : wrap64 ((i : Int) + 2) = ((i + 2 : Nat) : Int) := wrap_add i 2 (by omega)
          have w3 : wrap64 (((i + 2 : Nat) : Int) - 1) = ((i + 1 : Nat) : Int) := wrap_pred (i + 2) (by omega) (by omega)
          refine Ev.pos rfl ?_
          refine Ev.pos rfl ?_
          show Ev (fun k => if 0 ≤ (wrap64 ((wrap64 ((i : Int) + 2)) - 1)) then _ else _) _
          rw [w2, w3]
          refine Ev.pos (by omega) ?_
          refine Ev.pos (by omega) ?_
          refine Ev.pos (by rw [B_size]; omega) ?_
          refine Ev.pos (by rw [B_size]; omega) ?_
          rw [ext1 l (i + 1) h4, B_append, h92, drop_get l (i + 1) h4, V1_b]
          exact (ih (i + 1 + 1) (by omega) (by omega) out (cur ++ [l[i + 1]]) (by omega) (by simp; omega)).1
        · have hnil : l.drop (i + 1) = [] := List.drop_eq_nil_of_le (by omega)
          rw [hnil, h92, V1_b0]
          exact Ev.neg (by decide) (Ev.ret _)
      · rw [if_neg h92]
        have w2 : wrap64 ((i : Int) + 1) = ((i + 1 : Nat) : Int) := wrap_succ i (by omega)
        have w3 : wrap64 (((i + 1 : Nat) : Int) - 1) = (i : Int) := wrap_pred (i + 1) (by omega) (by omega)
        refine Ev.pos rfl ?_
        refine Ev.pos rfl ?_
        show Ev (fun k => if 0 ≤ (wrap64 ((wrap64 ((i : Int) + 1)) - 1)) then _ else _) _
        rw [w2, w3]
        refine Ev.pos (by omega) ?_
        refine Ev.pos (by omega) ?_
        refine Ev.pos (by rw [B_size]; omega) ?_
        refine Ev.pos (by rw [B_size]; omega) ?_
        rw [ext1 l i hi, B_append, V1_one _ _ _ _ hns h39 h34 h92]
        exact (ih (i + 1) (by omega) (by omega) out (cur ++ [l[i]]) (by omega) (by simp; omega)).1
theorem markS_len {b : UInt8} {r r' : List UInt8} {k n : Nat} (h : markS (b :: r) = some (k, n, r')) : (marksR.getD (k - 1) []).length = n ∧ ¬ blk b = true := by
  cases r with
  | nil =>
    simp only [markS] at h
    repeat' split at h
    all_goals first
      | (cases h; done)
      | (injection h with h; injection h with h1 h2; injection h2 with h2 h3; subst h1 h2 h3; rename_i hb; subst hb; exact ⟨rfl, by decide⟩)
      | (injection h with h; injection h with h1 h2; injection h2 with h2 h3; subst h1 h2 h3; rename_i hb _; subst hb; exact ⟨rfl, by decide⟩)
  | cons c r =>
    simp only [markS] at h
    repeat' split at h
    all_goals first
      | (cases h; done)
      | (injection h with h; injection h with h1 h2; injection h2 with h2 h3; subst h1 h2 h3; rename_i hb; obtain ⟨rfl, rfl⟩ := hb; exact ⟨rfl, by decide⟩)
      | (injection h with h; injection h with h1 h2; injection h2 with h2 h3; subst h1 h2 h3; rename_i hb; subst hb; exact ⟨rfl, by decide⟩)
theorem stop_blk {b : UInt8} {r : List UInt8} (h : stopB b = true) (hm : markS (b :: r) = none) (h1 : ¬ b = 38) (h2 : ¬ b = 124) : blk b = true := by
  have h3 : ¬ b = 62 := by
    rintro rfl
    cases r with
    | nil => simp [markS] at hm
    | cons c r =>
      by_cases hc : c = 62
      · subst hc; simp [markS] at hm
      · simp [markS, hc] at hm
  have h4 : ¬ b = 60 := by rintro rfl; cases r with | nil => simp [markS] at hm | cons c r => simp [markS] at hm
  have h5 : ¬ b = 59 := by rintro rfl; cases r with | nil => simp [markS] at hm | cons c r => simp [markS] at hm
  simp [stopB, blk] at h ⊢
  simp [h1, h2, h3, h4, h5] at h
  exact h
theorem stopJ2 (l : List UInt8) (hl : l.length < 4294967281) (i : Nat) (hi : i < l.length) (hs : stopB l[i] = true) (out : List (Nat × List UInt8)) (ho : out.length ≤ 2 * i + 1)
    (ih : ∀ j, i < j → j ≤ l.length → ∀ (out : List (Nat × List UInt8)), out.length ≤ 2 * j → Ev (fun k => flatironref05_Tokens.l0 k (B l) (out.map s78) 0 (B []) (j : Int)) (resF (tokS out (l.drop j)))) :
    Ev (fun k => flatironref05_Tokens.j2 k (B l) (out.map s78) 0 (B []) (i : Int) (l[i].toNat : Int)) (resF (tokS out (l.drop i))) := by
  have num : ∀ (b : UInt8) (n : Nat), n < 256 → (((b.toNat : Int)) = (n : Int)) = (b = UInt8.ofNat n) := fun b n h => by first | exact u8_num b n h | exact propext (u8_num b n h)
  have hx : (B l).extract (i : Int).toNat (B l).size = B (l.drop i) := by
    rw [B_size, B_extract, List.take_of_length_le (Nat.le_refl _)]; rfl
  refine Ev.step (fun k => by rw [flatironref05_Tokens.j2]) ?_
  refine Ev.pos (by omega) ?_
  refine Ev.pos (by rw [B_size]; omega) ?_
  rw [hx]
  refine Ev.bind (refmark_ev _ (by simp; omega)) ?_
  have hd := drop_get l i hi
  cases hm : markS (l.drop i) with
  | some x =>
    obtain ⟨kk, n, r'⟩ := x
    dsimp only
    rw [hd] at hm
    obtain ⟨⟨p, hp, hpl⟩, hn, hk1, hk6⟩ := markS_suffix hm
    obtain ⟨hlen, hnb⟩ := markS_len hm
    have hin : i + n ≤ l.length := by
      have := congrArg List.length hp
      simp only [List.length_cons, List.length_drop, List.length_append] at this
      omega
    have hr : r' = l.drop (i + n) := by
      rw [← hd] at hp
      rw [← List.drop_drop, hp, List.drop_append_of_le_length (by omega), ← hpl, List.drop_length]; rfl
    refine Ev.neg (by omega) ?_
    refine Ev.step (fun k => by rw [flatironref05_Tokens.j3]) ?_
    refine Ev.neg (by decide) ?_
    refine Ev.pos (by omega) ?_
    refine Ev.pos (by rw [List.length_map]; omega) ?_
    have hmm : flatironref05_Marks.f = some (marksR.map B) := by unfold flatironref05_Marks.f; rfl
    refine Ev.bind (Ev.of hmm) ?_
    have w1 : wrap64 ((kk : Int) - 1) = ((kk - 1 : Nat) : Int) := wrap_pred kk (by omega) (by omega)
    have hlt : kk - 1 < marksR.length := by show kk - 1 < 6; omega
    have rb : rdOf ByteArray.empty (marksR.map B) ((kk - 1 : Nat) : Int) = B (marksR.getD (kk - 1) []) := by
      rw [rdOf_get _ _ (kk - 1) (by simpa using hlt), List.getD_eq_getElem?_getD, List.getElem?_eq_getElem hlt]; simp
    rw [w1, rb, B_size, hlen, wrap_succ i (by omega), wrap_add (i + 1) n (by omega), wrap_pred (i + 1 + n) (by omega) (by omega)]
    refine Ev.pos (by omega) ?_
    refine Ev.pos (by simp only [List.length_map]; omega) ?_
    have := ih (i + n) (by omega) hin (out ++ [(kk, [])]) (by simp; omega)
    rw [hd, tokS_mark out l[i] _ hnb kk n r' hm, hr]
    rw [List.map_append] at this
    rw [show i + 1 + n - 1 = i + n by omega]
    exact this
  | none =>
    dsimp only
    rw [hd] at hm ⊢
    refine Ev.pos rfl ?_
    have bad : ∀ x, x = true → ¬ blk l[i] = true → Ev (fun k => flatironref05_Tokens.j3 k (B l) (out.map s78) 0 (B []) (i : Int) 0 x) (resF (tokS out (l[i] :: l.drop (i + 1)))) := by
      rintro x rfl hnb
      refine Ev.step (fun k => by rw [flatironref05_Tokens.j3]) ?_
      refine Ev.pos rfl ?_
      rw [V0_bad out _ _ hs hnb hm]
      exact Ev.ret _
    refine Ev.iff (show (((l[i].toNat : Int)) = 38) = (l[i] = 38) from num _ 38 (by decide)) ?_ ?_
    · intro h
      exact bad _ rfl (by rw [h]; decide)
    · intro h
      have e124 : (((l[i].toNat : Int)) == 124) = decide (l[i] = 124) := by
        rw [Bool.eq_iff_iff, beq_iff_eq, decide_eq_true_eq]; exact Iff.of_eq (num _ 124 (by decide))
      rw [e124]
      by_cases h2 : l[i] = 124
      · exact bad _ (decide_eq_true h2) (by rw [h2]; decide)
      · rw [decide_eq_false h2]
        refine Ev.step (fun k => by rw [flatironref05_Tokens.j3]) ?_
        refine Ev.neg (by decide) ?_
        refine Ev.neg (by decide) ?_
        rw [tokS_blk out _ _ (stop_blk hs hm h h2), wrap_succ i (by omega)]
        exact ih (i + 1) (by omega) (by omega) out (by omega)
/-- A stop, in places 0 and 1. -/
theorem placeS (l : List UInt8) (hl : l.length < 4294967281) (i : Nat) (hi : i < l.length) (hs : stopB l[i] = true)
    (ih : ∀ j, i < j → j ≤ l.length → ∀ (out : List (Nat × List UInt8)), out.length ≤ 2 * j → Ev (fun k => flatironref05_Tokens.l0 k (B l) (out.map s78) 0 (B []) (j : Int)) (resF (tokS out (l.drop j))))
    (out : List (Nat × List UInt8)) (cur : List UInt8) (ho : out.length ≤ 2 * i) (hc : cur.length ≤ i) :
    Ev (fun k => flatironref05_Tokens.l0 k (B l) (out.map s78) 0 (B []) (i : Int)) (resF (tokS out (l.drop i))) ∧ Ev (fun k => flatironref05_Tokens.l0 k (B l) (out.map s78) 1 (B cur) (i : Int)) (resF (V1 cur out (l.drop i))) := by
  have hbt := bt_B l i hi
  constructor
  · refine Ev.step (fun k => by rw [flatironref05_Tokens.l0]) ?_
    refine Ev.pos (by rw [B_size]; omega) ?_
    refine Ev.pos (by omega) ?_
    rw [hbt]
    refine Ev.bind (has_ev _) ?_
    refine Ev.neg (by decide) ?_
    refine Ev.neg (by decide) ?_
    refine Ev.step (fun k => by rw [flatironref05_Tokens.j1]) ?_
    refine Ev.neg (by decide) ?_
    refine Ev.neg (by decide) ?_
    refine Ev.pos hs ?_
    refine Ev.neg (by decide) ?_
    exact stopJ2 l hl i hi hs out (by omega) ih
  · refine Ev.step (fun k => by rw [flatironref05_Tokens.l0]) ?_
    refine Ev.pos (by rw [B_size]; omega) ?_
    refine Ev.pos (by omega) ?_
    rw [hbt]
    refine Ev.bind (has_ev _) ?_
    refine Ev.neg (by decide) ?_
    refine Ev.neg (by decide) ?_
    refine Ev.step (fun k => by rw [flatironref05_Tokens.j1]) ?_
    refine Ev.neg (by decide) ?_
    refine Ev.neg (by decide) ?_
    refine Ev.pos hs ?_
    refine Ev.pos rfl ?_
    refine Ev.pos (by rw [List.length_map]; omega) ?_
    have := stopJ2 l hl i hi hs (out ++ [(0, cur)]) (by simp; omega) ih
    rw [List.map_append] at this
    rw [drop_get l i hi, V1_stop _ _ _ _ hs, ← drop_get l i hi]
    exact this
theorem reader (l : List UInt8) (hl : l.length < 4294967281) : ∀ d i, l.length - i ≤ d → i ≤ l.length → ∀ (out : List (Nat × List UInt8)) (cur : List UInt8), out.length ≤ 2 * i → cur.length ≤ i →
    Ev (fun k => flatironref05_Tokens.l0 k (B l) (out.map s78) 0 (B []) (i : Int)) (resF (tokS out (l.drop i))) ∧ Ev (fun k => flatironref05_Tokens.l0 k (B l) (out.map s78) 1 (B cur) (i : Int)) (resF (V1 cur out (l.drop i)))
      ∧ Ev (fun k => flatironref05_Tokens.l0 k (B l) (out.map s78) 2 (B cur) (i : Int)) (resF (V2 39 cur out (l.drop i))) ∧ Ev (fun k => flatironref05_Tokens.l0 k (B l) (out.map s78) 3 (B cur) (i : Int)) (resF (V2 34 cur out (l.drop i))) := by
  intro d
  induction d with
  | zero =>
    intro i hd hi out cur ho hc
    have hn : l.drop i = [] := List.drop_eq_nil_of_le (by omega)
    rw [hn, tokS_nil, V1_nil, V2_nil, V2_nil]
    refine ⟨?_, ?_, ?_, ?_⟩
    · refine Ev.step (fun k => by rw [flatironref05_Tokens.l0]) ?_
      refine Ev.neg (by rw [B_size]; omega) ?_
      refine Ev.neg (by decide) ?_
      refine Ev.neg (by decide) ?_
      exact Ev.ret _
    · refine Ev.step (fun k => by rw [flatironref05_Tokens.l0]) ?_
      refine Ev.neg (by rw [B_size]; omega) ?_
      refine Ev.neg (by decide) ?_
      refine Ev.pos rfl ?_
      refine Ev.pos (by rw [List.length_map]; omega) ?_
      refine Ev.eq (Ev.ret _) ?_
      simp [resF, s78]
    · refine Ev.step (fun k => by rw [flatironref05_Tokens.l0]) ?_
      refine Ev.neg (by rw [B_size]; omega) ?_
      refine Ev.pos (by decide) ?_
      exact Ev.ret _
    · refine Ev.step (fun k => by rw [flatironref05_Tokens.l0]) ?_
      refine Ev.neg (by rw [B_size]; omega) ?_
      refine Ev.pos (by decide) ?_
      exact Ev.ret _
  | succ d ih =>
    intro i hd hi out cur ho hc
    by_cases hlt : i < l.length
    · have ih' : ∀ j, i < j → j ≤ l.length → _ := fun j h1 h2 => ih j (by omega) h2
      have p2 := place2 l hl i hlt (fun j h1 h2 o c h3 h4 => ⟨(ih' j h1 h2 o c h3 h4).2.1, (ih' j h1 h2 o c h3 h4).2.2.1⟩) out cur ho hc
      have p3 := place3 l hl i hlt (fun j h1 h2 o c h3 h4 => ⟨(ih' j h1 h2 o c h3 h4).2.1, (ih' j h1 h2 o c h3 h4).2.2.2⟩) out cur ho hc
      by_cases hs : stopB l[i] = true
      · have ps := placeS l hl i hlt hs (fun j h1 h2 o h3 => (ih' j h1 h2 o [] h3 (by simp)).1) out cur ho hc
        exact ⟨ps.1, ps.2, p2, p3⟩
      · have pw := fun md hmd cur hc => placeW l hl i hlt hs md hmd (fun j h1 h2 o c h3 h4 => ⟨(ih' j h1 h2 o c h3 h4).2.1, (ih' j h1 h2 o c h3 h4).2.2.1, (ih' j h1 h2 o c h3 h4).2.2.2⟩) out cur ho hc
        refine ⟨?_, pw 1 (.inr rfl) cur hc, p2, p3⟩
        have := pw 0 (.inl rfl) [] (by simp)
        rw [drop_get l i hlt] at this ⊢
        rw [V0_word _ _ _ hs]
        exact this
    · have : l.length - i ≤ d := by omega
      exact ih i this hi out cur ho hc
theorem refTokens_ev (l : List UInt8) (hl : l.length < 4294967281) : Ev (fun k => flatironref05_Tokens.f k (B l)) (resF (tokS [] l)) := by
  refine Ev.congr (fun k => by rw [flatironref05_Tokens.f]) ?_
  have := (reader l hl _ 0 (Nat.le_refl _) (Nat.zero_le _) [] [] (by simp) (by simp)).1
  exact this
end Go.Proofs.YtgpabkdmagifjaaDoor.X
