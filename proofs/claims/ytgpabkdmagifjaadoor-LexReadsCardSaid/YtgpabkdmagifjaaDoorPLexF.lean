/- lex.Show says the plain line; how long tokens and lines are; plain Lean. -/
import Derived.Test.YtgpabkdmagifjaaDoorPLexE
namespace Go.Proofs.YtgpabkdmagifjaaDoor.X
open Go.RowKit Go.Proofs.YtgpabkdmagifjaaDoorW.PrintWords Go.Proofs.YtgpabkdmagifjaaDoorW.PrintLast Go.Proofs.YtgpabkdmagifjaaDoorW.PrintMore Go.Proofs.YtgpabkdmagifjaaDoor.XW05
set_option linter.unusedSimpArgs false
set_option linter.unusedVariables false

theorem join_eq : ∀ A : List (List UInt8), Lib.join A [32] = joinU A := by
  intro A
  induction A with
  | nil => rfl
  | cons x A ih =>
    cases A with
    | nil => simp [Lib.join, joinU]
    | cons y A => simp [Lib.join, joinU] at ih ⊢; rw [ih]
theorem Join_eq (A : List (List UInt8)) (h1 : A.length ≤ 140737488355328) (h2 : (joinU A).length ≤ 140737488355328) : strings_Join.f (A.map B) (⟨#[32]⟩ : ByteArray) = some (B (joinU A)) := by
  have e : (A.map B).map (fun x => x.data.toList) = A := by
    rw [List.map_map]
    conv => rhs; rw [← List.map_id A]
    apply List.map_congr_left
    intro x _
    simp [B_data]
  have e2 : Lib.join ((A.map B).map (fun x => x.data.toList)) (⟨#[32]⟩ : ByteArray).data.toList = joinU A := by rw [e]; exact join_eq A
  unfold strings_Join.f
  rw [if_pos ⟨by rw [List.length_map]; exact h1, by rw [e2]; exact h2⟩]
  unfold joined
  rw [e2]
  rfl
def pickM (T : List (List UInt8 × Nat)) (k : Nat) (s : List UInt8) : List UInt8 :=
  match T with
  | [] => s
  | m :: T => pickM T k (if m.2 = k then m.1 else s)
theorem pickM_eq (x : Nat × List UInt8) (h : okTok x) : pickM marksT x.1 (quoteU x.2) = show1 x := by
  obtain ⟨k, t⟩ := x
  rcases h with h0 | ⟨h1, h6, ht⟩
  · simp only at h0
    subst h0
    simp [pickM, marksT, show1]
  · simp only at h1 h6
    have hk : k = 1 ∨ k = 2 ∨ k = 3 ∨ k = 4 ∨ k = 5 ∨ k = 6 := by omega
    rcases hk with rfl | rfl | rfl | rfl | rfl | rfl <;> simp [pickM, marksT, show1, markT]
theorem show_inner {v : ByteArray} (x3 : List ByteArray) (X9 : List S83) (x10 x11 : Int) (kd : Nat) (tx : ByteArray) (h3 : x3.length < 8796093022208) : ∀ i, i ≤ marksT.length → ∀ s, Ev (fun k => lex_Show.l0 k (x3 ++ [B (pickM (marksT.drop i) kd s)]) X9 x10 (wrap64 (x11 + 1))) v →
    Ev (fun k => lex_Show.l1 k x3 (B s) X9 x10 x11 (marksT.map s94) (marksT.length : Int) (i : Int) (kd : Int) tx) v := by
  refine upto_ind ?_ ?_
  · intro s h
    refine Ev.step (fun k => by rw [lex_Show.l1]) ?_
    refine Ev.neg (by omega) ?_
    refine Ev.pos (by omega) ?_
    rw [List.drop_length] at h
    exact h
  · intro i hi ih s h
    have hi6 : i < 6 := hi
    have r : rd_T94 (marksT.map s94) (i : Int) = s94 marksT[i] := by
      unfold rd_T94
      rw [show ((i : Int)).toNat = i from rfl, List.getD_eq_getElem?_getD, List.getElem?_map, List.getElem?_eq_getElem hi]
      rfl
    rw [← wrap_succ i (by omega)] at ih
    rw [List.drop_eq_getElem_cons hi, pickM] at h
    refine Ev.step (fun k => by rw [lex_Show.l1]) ?_
    rw [r]
    refine Ev.pos (by omega) ?_
    refine Ev.pos (by omega) ?_
    refine Ev.pos (by simp; omega) ?_
    refine Ev.iff (show ((s94 marksT[i]).f1 = (kd : Int)) = (marksT[i].2 = kd) from propext (by show ((marksT[i].2 : Int) = (kd : Int)) ↔ _; omega)) ?_ ?_
    · intro hk
      exact ih _ (Eq.mp (congrArg (fun z => Ev (fun k => lex_Show.l0 k (x3 ++ [B (pickM (marksT.drop (i + 1)) kd z)]) X9 x10 (wrap64 (x11 + 1))) v) (if_pos hk)) h)
    · intro hk
      exact ih _ (Eq.mp (congrArg (fun z => Ev (fun k => lex_Show.l0 k (x3 ++ [B (pickM (marksT.drop (i + 1)) kd z)]) X9 x10 (wrap64 (x11 + 1))) v) (if_neg hk)) h)
theorem show_outer (l : List (Nat × List UInt8)) (hl : l.length < 4000000) (hok : ∀ x ∈ l, okTok x) (hlen : ∀ x ∈ l, x.2.length < 4000000) (hj : (joinU (l.map show1)).length ≤ 140737488355328) :
    ∀ i, i ≤ l.length → Ev (fun k => lex_Show.l0 k (((l.take i).map show1).map B) (l.map s83) (l.length : Int) (i : Int)) (B (joinU (l.map show1))) := by
  refine upto_ind ?_ ?_
  · refine Ev.step (fun k => by rw [lex_Show.l0]) ?_
    refine Ev.neg (by omega) ?_
    rw [List.take_length]
    exact Ev.bind (Ev.of (Join_eq _ (by simp; omega) hj)) (Ev.ret _)
  · intro i hi ih
    have r : rd_T83 (l.map s83) (i : Int) = s83 l[i] := by
      unfold rd_T83
      rw [show ((i : Int)).toNat = i from rfl, List.getD_eq_getElem?_getD, List.getElem?_map, List.getElem?_eq_getElem hi]
      rfl
    rw [← wrap_succ i (by omega)] at ih
    refine Ev.step (fun k => by rw [lex_Show.l0]) ?_
    rw [r]
    refine Ev.pos (by omega) ?_
    refine Ev.pos (by omega) ?_
    refine Ev.pos (by simp; omega) ?_
    refine Ev.bind (Ev.of (Quote_eq l[i].2 (hlen _ (List.getElem_mem hi)))) ?_
    have hm : lex_marks.f = some (marksT.map s94) := by unfold lex_marks.f; rfl
    refine Ev.bind (Ev.of hm) ?_
    have := show_inner (v := B (joinU (l.map show1))) (((l.take i).map show1).map B) (l.map s83) (l.length : Int) (i : Int) l[i].1 (B l[i].2) (by simp; omega) 0 (by decide) (quoteU l[i].2) (by
      rw [List.drop_zero, pickM_eq _ (hok _ (List.getElem_mem hi))]
      rw [List.take_succ_eq_append_getElem hi, List.map_append, List.map_append] at ih
      exact ih)
    exact this
theorem Show_ev (l : List (Nat × List UInt8)) (hl : l.length < 4000000) (hok : ∀ x ∈ l, okTok x) (hlen : ∀ x ∈ l, x.2.length < 4000000) (hj : (joinU (l.map show1)).length ≤ 140737488355328) :
    Ev (fun k => lex_Show.f k (l.map s83)) (B (joinU (l.map show1))) := by
  refine Ev.congr (fun k => by rw [lex_Show.f]) ?_
  have := show_outer l hl hok hlen hj 0 (by omega)
  rw [List.length_map]
  exact this
theorem qS_both (e : UInt8) : ∀ d (l acc t r : List UInt8), l.length ≤ d → qS e acc l = some (t, r) → t.length + r.length ≤ acc.length + l.length := by
  intro d
  induction d with
  | zero =>
    intro l acc t r hd h
    cases l with
    | nil => rw [qS_nil] at h; exact absurd h (by simp)
    | cons b m => simp at hd
  | succ d ih =>
    intro l acc t r hd h
    cases l with
    | nil => rw [qS_nil] at h; exact absurd h (by simp)
    | cons b m =>
      simp only [List.length_cons] at hd ⊢
      cases m with
      | nil =>
        rw [qS_single] at h
        split at h
        · injection h with h; injection h with h1 h2; subst h1 h2; simp
        · exact absurd h (by simp)
      | cons c m' =>
        simp only [List.length_cons] at hd ⊢
        rw [qS_two] at h
        split at h
        · injection h with h; injection h with h1 h2; subst h1 h2; simp only [List.length_cons]; omega
        · split at h
          · have := ih m' _ t r (by omega) h
            simp only [List.length_append, List.length_cons, List.length_nil] at this; omega
          · have := ih (c :: m') _ t r (by simp; omega) h
            simp only [List.length_append, List.length_cons, List.length_nil] at this; omega
theorem wS_len : ∀ d (l acc t r : List UInt8), l.length ≤ d → wS acc l = some (t, r) → t.length ≤ acc.length + l.length := by
  intro d
  induction d with
  | zero =>
    intro l acc t r hd h
    cases l with
    | nil => rw [wS_nil] at h; injection h with h; injection h with h1 h2; subst h1; omega
    | cons b m => simp at hd
  | succ d ih =>
    intro l acc t r hd h
    cases l with
    | nil => rw [wS_nil] at h; injection h with h; injection h with h1 h2; subst h1; omega
    | cons b m =>
      simp only [List.length_cons] at hd ⊢
      by_cases hs : stopB b = true
      · rw [wS_stop _ _ _ hs] at h; injection h with h; injection h with h1 h2; subst h1; omega
      · by_cases hq : b = 39 ∨ b = 34
        · cases hqs : qS b [] m with
          | none => rw [wS_q0 _ _ _ hs hq hqs] at h; exact absurd h (by simp)
          | some x =>
            obtain ⟨t1, r1⟩ := x
            rw [wS_q _ _ _ _ _ hs hq hqs] at h
            have hl := qS_less hqs
            obtain ⟨p1, hp1, _⟩ := qS_suffix _ _ _ _ _ _ (Nat.le_refl _) hqs
            have := ih r1 _ t r (by omega) h
            have h4 : t1.length + r1.length ≤ m.length := by simpa using qS_both b _ m [] t1 r1 (Nat.le_refl _) hqs
            simp only [List.length_append] at this
            omega
        · by_cases hb : b = 92
          · subst hb
            cases m with
            | nil => rw [wS_b0] at h; exact absurd h (by simp)
            | cons c m' =>
              rw [wS_b] at h
              simp only [List.length_cons] at hd ⊢
              have := ih m' _ t r (by omega) h
              simp only [List.length_append, List.length_cons, List.length_nil] at this; omega
          · rw [wS_one _ _ _ hs (fun h => hq (.inl h)) (fun h => hq (.inr h)) hb] at h
            have := ih m _ t r (by omega) h
            simp only [List.length_append, List.length_cons, List.length_nil] at this; omega
theorem tokS_len (N : Nat) : ∀ d (l : List UInt8) (out res : List (Nat × List UInt8)), l.length ≤ d → l.length ≤ N → (∀ x ∈ out, x.2.length ≤ N) → tokS out l = some res → res.length ≤ out.length + l.length ∧ ∀ x ∈ res, x.2.length ≤ N := by
  intro d
  induction d with
  | zero =>
    intro l out res hd hN ho h
    cases l with
    | nil => rw [tokS_nil] at h; injection h with h; subst h; exact ⟨by omega, ho⟩
    | cons b r => simp at hd
  | succ d ih =>
    intro l out res hd hN ho h
    cases l with
    | nil => rw [tokS_nil] at h; injection h with h; subst h; exact ⟨by omega, ho⟩
    | cons b r =>
      simp only [List.length_cons] at hd hN ⊢
      by_cases hb : blk b = true
      · rw [tokS_blk _ _ _ hb] at h
        have := ih r out res (by omega) (by omega) ho h
        exact ⟨by omega, this.2⟩
      · cases hm : markS (b :: r) with
        | some x =>
          obtain ⟨k, n, r'⟩ := x
          rw [tokS_mark _ _ _ hb k n r' hm] at h
          obtain ⟨⟨p, hp, hl⟩, h0, h1, h6⟩ := markS_suffix hm
          have hlen := congrArg List.length hp
          simp only [List.length_append, List.length_cons] at hlen
          have := ih r' _ res (by omega) (by omega) (by
            intro x hx
            rcases List.mem_append.1 hx with hx | hx
            · exact ho x hx
            · rw [List.mem_singleton.1 hx]; exact Nat.zero_le _) h
          refine ⟨?_, this.2⟩
          have := this.1
          simp only [List.length_append, List.length_cons, List.length_nil] at this
          omega
        | none =>
          cases hw : wS [] (b :: r) with
          | none => rw [tokS_bad _ _ _ hb hm hw] at h; exact absurd h (by simp)
          | some x =>
            obtain ⟨t, r'⟩ := x
            have hwl := wS_len _ _ _ _ _ (Nat.le_refl _) hw
            simp only [List.length_cons, List.length_nil] at hwl
            rw [tokS_word _ _ _ hb hm t r' hw] at h
            split at h
            · rename_i hlt
              simp only [List.length_cons] at hlt
              have := ih r' _ res (by omega) (by omega) (by
                intro x hx
                rcases List.mem_append.1 hx with hx | hx
                · exact ho x hx
                · rw [List.mem_singleton.1 hx]; show t.length ≤ N; omega) h
              refine ⟨?_, this.2⟩
              have := this.1
              simp only [List.length_append, List.length_cons, List.length_nil] at this
              omega
            · exact absurd h (by simp)
theorem show1_len (x : Nat × List UInt8) : (show1 x).length ≤ 4 * x.2.length + 2 := by
  unfold show1
  split
  · unfold quoteU
    split
    · omega
    · have := flat_len x.2
      simp; omega
  · unfold markT
    repeat' split
    all_goals simp
theorem joinU_len (M : Nat) : ∀ A : List (List UInt8), (∀ x ∈ A, x.length ≤ M) → (joinU A).length ≤ A.length * (M + 1) := by
  intro A
  induction A with
  | nil => intro _; simp [joinU]
  | cons x A ih =>
    intro h
    have hx := h x (by simp)
    cases A with
    | nil => simp [joinU]; omega
    | cons y A =>
      have := ih (fun z hz => h z (by simp [hz]))
      rw [joinU, List.length_append, List.length_cons, List.length_cons, Nat.succ_mul]
      omega
end Go.Proofs.YtgpabkdmagifjaaDoor.X
