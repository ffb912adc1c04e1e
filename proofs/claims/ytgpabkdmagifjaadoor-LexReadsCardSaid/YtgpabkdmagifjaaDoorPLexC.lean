/- Shown tokens come back: quoting and reading; plain Lean. -/
import Derived.Test.YtgpabkdmagifjaaDoorPLexB
namespace Go.Proofs.YtgpabkdmagifjaaDoor.X
open Go.RowKit Go.Proofs.YtgpabkdmagifjaaDoorW.PrintWords Go.Proofs.YtgpabkdmagifjaaDoorW.PrintLast Go.Proofs.YtgpabkdmagifjaaDoorW.PrintMore
set_option linter.unusedSimpArgs false
set_option linter.unusedVariables false

def oddU (b : UInt8) : Bool := ([32, 9, 10, 59, 38, 124, 60, 62, 39, 34, 92] : List UInt8).contains b
theorem oddU_not {b : UInt8} (h : oddU b = false) : ¬ stopB b = true ∧ ¬ b = 39 ∧ ¬ b = 34 ∧ ¬ b = 92 ∧ ¬ blk b = true ∧ ¬ b = 38 ∧ ¬ b = 124 ∧ ¬ b = 62 ∧ ¬ b = 60 ∧ ¬ b = 59 := by
  simp [oddU, stopB, blk] at h ⊢
  simp [h]
def plainU (t : List UInt8) : Bool := decide (t ≠ []) && t.all (fun b => !oddU b)
def flat (t : List UInt8) : List UInt8 := t.flatMap (fun b => if b = 39 then [39, 92, 39, 39] else [b])
theorem flat_nil : flat [] = [] := rfl
theorem flat_cons (b : UInt8) (t : List UInt8) : flat (b :: t) = (if b = 39 then [39, 92, 39, 39] else [b]) ++ flat t := by simp [flat]
def quoteU (t : List UInt8) : List UInt8 := if plainU t = true then t else 39 :: (flat t ++ [39])
def endR (r : List UInt8) : Prop := r = [] ∨ ∃ b m, r = b :: m ∧ stopB b = true
theorem wS_end (acc r : List UInt8) (h : endR r) : wS acc r = some (acc, r) := by
  rcases h with rfl | ⟨b, m, rfl, hb⟩
  · exact wS_nil acc
  · exact wS_stop acc m b hb
theorem wS_plain : ∀ (t : List UInt8), (∀ b ∈ t, oddU b = false) → ∀ acc r, wS acc (t ++ r) = wS (acc ++ t) r := by
  intro t
  induction t with
  | nil => intro _ acc r; simp
  | cons b t ih =>
    intro h acc r
    obtain ⟨h1, h2, h3, h4, _⟩ := oddU_not (h b (by simp))
    rw [List.cons_append, wS_one _ _ _ h1 h2 h3 h4, ih (fun c hc => h c (by simp [hc]))]
    simp
theorem wS_inner : ∀ (t acc acc1 r : List UInt8), ∃ x r', qS 39 acc1 (flat t ++ 39 :: r) = some (x, r') ∧ wS (acc ++ x) r' = wS (acc ++ acc1 ++ t) r := by
  intro t
  induction t with
  | nil => intro acc acc1 r; exact ⟨acc1, r, by rw [flat_nil, List.nil_append, qS_hit], by simp⟩
  | cons b t ih =>
    intro acc acc1 r
    by_cases hb : b = 39
    · subst hb
      refine ⟨acc1, 92 :: 39 :: 39 :: (flat t ++ 39 :: r), by rw [flat_cons, if_pos rfl]; exact qS_hit 39 acc1 _, ?_⟩
      obtain ⟨x, r', h1, h2⟩ := ih (acc ++ acc1 ++ [39]) [] r
      rw [wS_b, wS_q _ _ _ _ _ (by decide) (.inl rfl) h1, h2]
      simp
    · obtain ⟨x, r', h1, h2⟩ := ih acc (acc1 ++ [b]) r
      refine ⟨x, r', ?_, by rw [h2]; simp⟩
      rw [flat_cons, if_neg hb, List.cons_append, List.nil_append, List.cons_append, qS_one 39 b acc1 _ hb (fun h => absurd h.1 (by decide)), h1]
theorem wS_quote (t acc r : List UInt8) (h : endR r) : wS acc (quoteU t ++ r) = some (acc ++ t, r) := by
  unfold quoteU
  split
  · rename_i hp
    rw [plainU, Bool.and_eq_true, List.all_eq_true] at hp
    rw [wS_plain t (fun b hb => by simpa using hp.2 b hb), wS_end _ _ h]
  · obtain ⟨x, r', h1, h2⟩ := wS_inner t acc [] r
    rw [List.cons_append, List.append_assoc, List.cons_append, List.nil_append, wS_q _ _ _ _ _ (by decide) (.inl rfl) h1, h2, List.append_nil, wS_end _ _ h]
theorem markS_none (b : UInt8) (r : List UInt8) (h1 : ¬ b = 38) (h2 : ¬ b = 124) (h3 : ¬ b = 62) (h4 : ¬ b = 60) (h5 : ¬ b = 59) : markS (b :: r) = none := by
  cases r with
  | nil => simp [markS, h3, h4, h5]
  | cons c r => simp [markS, h1, h2, h3, h4, h5]
theorem quoteU_head (t : List UInt8) : ∃ b m, quoteU t = b :: m ∧ ¬ blk b = true ∧ ∀ r, markS (b :: r) = none := by
  unfold quoteU
  split
  · rename_i hp
    rw [plainU, Bool.and_eq_true, List.all_eq_true] at hp
    cases t with
    | nil => simp at hp
    | cons b m =>
      obtain ⟨_, _, _, _, h5, h6, h7, h8, h9, h10⟩ := oddU_not (by simpa using hp.2 b (by simp))
      exact ⟨b, m, rfl, h5, fun r => markS_none b r h6 h7 h8 h9 h10⟩
  · exact ⟨39, flat t ++ [39], rfl, by decide, fun r => markS_none 39 r (by decide) (by decide) (by decide) (by decide) (by decide)⟩
def markT (k : Nat) : List UInt8 := if k = 1 then [59] else if k = 2 then [38, 38] else if k = 3 then [124, 124] else if k = 4 then [62] else if k = 5 then [62, 62] else [60]
def okTok (x : Nat × List UInt8) : Prop := x.1 = 0 ∨ (1 ≤ x.1 ∧ x.1 ≤ 6 ∧ x.2 = [])
def show1 (x : Nat × List UInt8) : List UInt8 := if x.1 = 0 then quoteU x.2 else markT x.1
def joinU : List (List UInt8) → List UInt8
  | [] => []
  | [x] => x
  | x :: y :: r => x ++ 32 :: joinU (y :: r)
theorem tokS_one (out : List (Nat × List UInt8)) (x : Nat × List UInt8) (hx : okTok x) (r : List UInt8) (hr : r = [] ∨ ∃ m, r = 32 :: m) : tokS out (show1 x ++ r) = tokS (out ++ [x]) r := by
  obtain ⟨k, t⟩ := x
  rcases hx with h0 | ⟨h1, h6, ht⟩
  · simp only at h0
    subst h0
    have e : show1 (0, t) = quoteU t := by simp [show1]
    have hend : endR r := by
      rcases hr with rfl | ⟨m, rfl⟩
      · exact .inl rfl
      · exact .inr ⟨32, m, rfl, by decide⟩
    obtain ⟨b, m, hq, hb, hm⟩ := quoteU_head t
    have hw := wS_quote t [] r hend
    rw [e, hq, List.cons_append]
    rw [hq, List.cons_append, List.nil_append] at hw
    rw [tokS_word out b _ hb (hm _) t r hw, if_pos (by simp; omega)]
  · simp only at h1 h6 ht
    subst ht
    have hk : k = 1 ∨ k = 2 ∨ k = 3 ∨ k = 4 ∨ k = 5 ∨ k = 6 := by omega
    rcases hk with rfl | rfl | rfl | rfl | rfl | rfl <;> rcases hr with rfl | ⟨m, rfl⟩
    · exact tokS_mark out 59 _ (by decide) 1 1 _ (by simp [markS])
    · exact tokS_mark out 59 _ (by decide) 1 1 _ (by simp [markS])
    · exact tokS_mark out 38 _ (by decide) 2 2 _ (by simp [markS])
    · exact tokS_mark out 38 _ (by decide) 2 2 _ (by simp [markS])
    · exact tokS_mark out 124 _ (by decide) 3 2 _ (by simp [markS])
    · exact tokS_mark out 124 _ (by decide) 3 2 _ (by simp [markS])
    · exact tokS_mark out 62 _ (by decide) 4 1 _ (by simp [markS])
    · exact tokS_mark out 62 _ (by decide) 4 1 _ (by simp [markS])
    · exact tokS_mark out 62 _ (by decide) 5 2 _ (by simp [markS])
    · exact tokS_mark out 62 _ (by decide) 5 2 _ (by simp [markS])
    · exact tokS_mark out 60 _ (by decide) 6 1 _ (by simp [markS])
    · exact tokS_mark out 60 _ (by decide) 6 1 _ (by simp [markS])
theorem tokS_show : ∀ (l : List (Nat × List UInt8)), (∀ x ∈ l, okTok x) → ∀ out, tokS out (joinU (l.map show1)) = some (out ++ l) := by
  intro l
  induction l with
  | nil => intro _ out; rw [List.map_nil, joinU, tokS_nil, List.append_nil]
  | cons x l ih =>
    intro h out
    cases l with
    | nil =>
      have := tokS_one out x (h x (by simp)) [] (.inl rfl)
      rw [List.append_nil, tokS_nil] at this
      exact this
    | cons y l =>
      have := tokS_one out x (h x (by simp)) (32 :: joinU ((y :: l).map show1)) (.inr ⟨_, rfl⟩)
      rw [tokS_blk _ _ _ (by decide), ih (fun z hz => h z (by simp [hz]))] at this
      rw [List.map_cons, List.map_cons, joinU]
      rw [List.map_cons] at this
      rw [this]
      simp
/-- Every token read is good. -/
theorem tokS_ok : ∀ d (l : List UInt8) (out res : List (Nat × List UInt8)), l.length ≤ d → (∀ x ∈ out, okTok x) → tokS out l = some res → ∀ x ∈ res, okTok x := by
  intro d
  induction d with
  | zero =>
    intro l out res hd ho h
    cases l with
    | nil => rw [tokS_nil] at h; injection h with h; subst h; exact ho
    | cons b r => simp at hd
  | succ d ih =>
    intro l out res hd ho h
    cases l with
    | nil => rw [tokS_nil] at h; injection h with h; subst h; exact ho
    | cons b r =>
      simp only [List.length_cons] at hd
      by_cases hb : blk b = true
      · rw [tokS_blk _ _ _ hb] at h; exact ih r out res (by omega) ho h
      · cases hm : markS (b :: r) with
        | some x =>
          obtain ⟨k, n, r'⟩ := x
          rw [tokS_mark _ _ _ hb k n r' hm] at h
          obtain ⟨⟨p, hp, hl⟩, h0, h1, h6⟩ := markS_suffix hm
          have hlen := congrArg List.length hp
          simp only [List.length_append, List.length_cons] at hlen
          refine ih r' _ res (by omega) ?_ h
          intro x hx
          rcases List.mem_append.1 hx with hx | hx
          · exact ho x hx
          · rw [List.mem_singleton.1 hx]; exact .inr ⟨h1, h6, rfl⟩
        | none =>
          cases hw : wS [] (b :: r) with
          | none => rw [tokS_bad _ _ _ hb hm hw] at h; exact absurd h (by simp)
          | some x =>
            obtain ⟨t, r'⟩ := x
            rw [tokS_word _ _ _ hb hm t r' hw] at h
            split at h
            · rename_i hlt
              simp only [List.length_cons] at hlt
              refine ih r' _ res (by omega) ?_ h
              intro x hx
              rcases List.mem_append.1 hx with hx | hx
              · exact ho x hx
              · rw [List.mem_singleton.1 hx]; exact .inl rfl
            · exact absurd h (by simp)
end Go.Proofs.YtgpabkdmagifjaaDoor.X
