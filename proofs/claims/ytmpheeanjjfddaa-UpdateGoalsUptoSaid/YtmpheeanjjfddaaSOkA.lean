/- Regions that draw their order and read the heap: what was read first may be read when it likes, if it stays. -/
import Derived.Test.YtmpheeanjjfddaaSOk8
namespace Go.Proofs.Ytmpheeanjjfddaa.SM
open Go Go.RowKit
set_option linter.unusedVariables false
set_option linter.unusedSimpArgs false
variable {X : Cx} {P : Program} {E : Env} {tm : Tm} {a : Act} {o : Oper} {v : V} {base : Nat} {w0 w : World} {H : Hp}

/-! readers -/
theorem openL_re {k : LK} {v : V} {K L : V → Prop} (h : openL k v K) (hl : L v) : openL k v L := by
  cases k <;> simp only [openL] at h ⊢
  · cases v <;> first | exact hl | exact h.elim
  · cases v <;> first | exact hl | exact h.elim
  · cases v <;> simp only [intK] at h ⊢
    split at h
    · rename_i hd
      have := of_decide_eq_true hd
      subst this; exact hl
    · exact h.elim
  · exact hl
theorem openKs_re : ∀ {ks : List LK} {l : List V} {K L : List V → Prop}, openKs ks l K → L l → openKs ks l L
  | [], l, K, L, h, hl => by cases l <;> first | exact hl | exact h.elim
  | k :: ks, l, K, L, h, hl => by
    cases l with
    | nil => exact h.elim
    | cons c r =>
      have h : openL k c fun v => openKs ks r fun vs => K (v :: vs) := h
      show openL k c fun v => openKs ks r fun vs => L (v :: vs)
      exact openL_re h (openKs_re (K := fun vs => K (c :: vs)) (openL_ok h) hl)
theorem openT_re {k : TK} {v : V} {K L : V → Prop} (h : openT k v K) (hl : L v) : openT k v L := by
  cases k with
  | leaf k => exact openL_re h hl
  | agg ks =>
    cases v <;> simp only [openT, aggE] at h ⊢
    exact openKs_re (K := fun vs => K (.agg vs)) h hl
theorem openTs_re : ∀ {ks : List TK} {l : List V} {K L : List V → Prop}, openTs ks l K → L l → openTs ks l L
  | [], l, K, L, h, hl => by cases l <;> first | exact hl | exact h.elim
  | k :: ks, l, K, L, h, hl => by
    cases l with
    | nil => exact h.elim
    | cons c r =>
      have h : openT k c fun v => openTs ks r fun vs => K (v :: vs) := h
      show openT k c fun v => openTs ks r fun vs => L (v :: vs)
      exact openT_re h (openTs_re (K := fun vs => K (c :: vs)) (openT_ok h) hl)
theorem openE_re {t : TypeId} {v : V} {K L : V → Prop} (h : openE P t v K) (hl : L v) : openE P t v L := by
  unfold openE at h ⊢
  split at h
  · cases v <;> simp only [tupE] at h ⊢
    exact openTs_re (K := fun vs => K (.tuple vs)) h hl
  · exact openT_re h hl
theorem partE_re {ag : Bool} {k : Nat} {cs : List V} {off : Nat} {K : V → Prop} (h : partE ag k cs off K) : ∃ v, K v ∧ ∀ L : V → Prop, L v → partE ag k cs off L := by
  unfold partE at h
  split at h
  · split at h
    · rename_i hb
      exact ⟨_, h, fun L hl => by simp only [partE, hb]; exact hl⟩
    · exact h.elim
  · obtain ⟨v, hv, h⟩ := (optP_iff _ _).1 h
    exact ⟨v, h, fun L hl => by simp only [partE, hv]; exact hl⟩
theorem ldE_re {ag : Bool} {k : Nat} {v : V} {K : V → Prop} (h : ldE ag k v H K) : ∃ u, K u ∧ ∀ L : V → Prop, L u → ldE ag k v H L := by
  unfold ldE at h
  split at h
  · split at h
    · rename_i hn
      obtain ⟨u, h, hl⟩ := partE_re h
      exact ⟨u, h, fun L hL => by simp only [ldE, hn]; exact hl L hL⟩
    · rename_i hn
      obtain ⟨u, h, hl⟩ := partE_re h
      exact ⟨u, h, fun L hL => by simp only [ldE, hn]; exact hl L hL⟩
    · exact h.elim
  · obtain ⟨u, h, hl⟩ := partE_re h
    exact ⟨u, h, fun L hL => hl L hL⟩
  · exact h.elim
theorem ldT_re {t : TypeId} {v : V} {K : V → Prop} (h : ldT P t v H K) : ldT P t v H fun u => K u ∧ ∀ L : V → Prop, L u → ldT P t v H L := by
  unfold ldT at h ⊢
  simp only [optP_iff] at h
  obtain ⟨ag, hag, k, hk, h⟩ := h
  obtain ⟨u, h, hl⟩ := ldE_re h
  simp only [hag, hk, optP_some]
  exact hl _ ⟨h, hl⟩
theorem mapE_re {v : V} {K : List (List UInt8 × V) → Prop} (h : mapE v H K) : ∃ es, K es ∧ ∀ L : List (List UInt8 × V) → Prop, L es → mapE v H L := by
  unfold mapE at h
  split at h
  · exact ⟨[], h, fun L hL => hL⟩
  · split at h
    · rename_i hn
      exact ⟨_, h, fun L hL => by simp only [mapE, hn]; exact hL⟩
    · exact h.elim
  · exact h.elim
theorem lkE_re {m : V} {k : List UInt8} {z : V} {K : V → Bool → Prop} (h : lkE m k z H K) : lkE m k z H fun v b => K v b ∧ ∀ L : V → Bool → Prop, L v b → lkE m k z H L := by
  unfold lkE at h ⊢
  obtain ⟨es, h, hl⟩ := mapE_re h
  refine hl _ ?_
  split at h
  · rename_i v hv
    exact ⟨h, fun L hL => hl _ (by simp only [hv]; exact hL)⟩
  · rename_i hv
    exact ⟨h, fun L hL => hl _ (by simp only [hv]; exact hL)⟩
theorem strE_re {v : V} {K : List UInt8 → Prop} (h : strE v K) : ∃ s, v = .str s ∧ K s := by
  cases v <;> first | exact ⟨_, rfl, h⟩ | exact h.elim
/-- What a reader reads; it reads the same again. -/
theorem read_ok {K Xp : V → Hp → Prop} (htm : TR E tm a) (hW : WR E X.base X.w0 H w) (hr : isRead X.P o = true) (h : heapE X tm o H K Xp) :
    ∃ v, K v H ∧ heapE X tm o H (fun u _ => u = v) (fun _ _ => False) ∧ ∃ cv, VR E v cv ∧ (execOp a.eval o).run X.P w = .ok (.value cv) w := by
  obtain ⟨dst, op, type, pos, after, guard⟩ := o
  cases op
  case load t x =>
    simp only [heapE] at h ⊢
    obtain ⟨v, ⟨h, hl⟩, cv, hv, hr⟩ := ldT_ok (P := X.P) hW (ev_ok htm x) (ldT_re h)
    refine ⟨v, openE_ok (K := fun v => K v H) h, hl _ (openE_re h rfl), cv, hv, ?_⟩
    simp only [execOp, Sem.run_bind, hr, Result.andThen_ok, Sem.run_pure]
  case lookup t m k ok =>
    simp only [heapE] at h ⊢
    split at h
    · rename_i kt et hu
      split at h
      · rename_i hk
        obtain ⟨key, he, hes, h⟩ := strE_ok h (ev_ok htm k)
        obtain ⟨z, hz, h⟩ := (optP_iff _ _).1 h
        obtain ⟨cz, hvz, _, hrz⟩ := run_zero (E := E) hz
        obtain ⟨v, r, ⟨h, hl⟩, cv, hv, h1, h2⟩ := lkE_ok (P := X.P) hu hk hvz hrz hW (ev_ok htm m) (lkE_re h)
        have h' := openE_ok h
        have hek : ∀ (L : List UInt8 → Prop), L key → strE (ev tm k) L := by
          intro L hL
          rw [hes]; exact hL
        cases ok with
        | true =>
          refine ⟨_, h', ?_, _, by simp only [VR]; exact ⟨_, rfl, VRs_cons hv (VRs_cons (VRb (b := r)) VRs_nil)⟩, ?_⟩
          · simp only [hu, hk]
            refine hek _ ?_
            rw [hz]
            simp only [optP_some]
            exact hl _ (openE_re h rfl)
          · simp only [execOp, he, Sem.run_bind, h1, Result.andThen_ok, Sem.run_pure]
        | false =>
          refine ⟨_, h', ?_, _, hv, ?_⟩
          · simp only [hu, hk]
            refine hek _ ?_
            rw [hz]
            simp only [optP_some]
            exact hl _ (openE_re h rfl)
          · simp only [execOp, he, Sem.run_bind, h2, Result.andThen_ok, Sem.run_pure]
      · exact h.elim
    · exact h.elim
  case call c =>
    obtain ⟨callee, args, argTypes⟩ := c
    cases callee
    case builtin b =>
      cases b <;> try (simp [isRead] at hr; done)
      simp only [heapE] at h ⊢
      split at h
      · rename_i x kt et ha ht
        obtain ⟨es0, h0, hl⟩ := mapE_re h
        obtain ⟨es, m, ces, hes, _, hp, hE, hcm⟩ := mapE_ok hW (ev_ok htm x) (hl (fun e => e = es0) rfl)
        subst hes
        obtain ⟨t, ht1, ht2⟩ := Option.bind_eq_some_iff.1 ht
        have hargs : args.map a.eval = #[a.eval x] := by rw [← Array.toList_inj]; simp [ha]
        have hlen : ces.size = es.length := by
          have h1 := hp.length_eq
          have h2 := congrArg List.length (ERs_keys _ _ hE)
          simp at h1 h2
          omega
        refine ⟨_, h0, ?_, .int .i64 (es.length : Int), VRi, ?_⟩
        · exact hl _ rfl
        · rcases hcm with ⟨e1, rfl⟩ | ⟨b, c, e1, hb⟩
          · have : es.length = 0 := by simpa using hlen.symm
            simp [execOp, resolve, hargs, invoke, builtin, Builtin.len_, ht1, run_underlying ht2, goInt, e1, this]
          · simp [execOp, resolve, hargs, invoke, builtin, Builtin.len_, ht1, run_underlying ht2, goInt, e1, run_getObj hb, hlen]
      · exact h.elim
    all_goals (simp [isRead] at hr)
  all_goals (simp [isRead] at hr)

/-! neat regions -/
theorem memB_iff {i : Nat} {l : List Nat} : memB i l = true ↔ i ∈ l := by
  unfold memB
  rw [List.any_eq_true]
  constructor
  · rintro ⟨j, hj, h⟩
    obtain rfl := Nat.eq_of_beq_eq_true h
    exact hj
  · intro h
    exact ⟨i, h, Nat.beq_refl i⟩
theorem writers_mem {t : Tmp} : ∀ (l : List Oper) (i j : Nat) (o : Oper), l[j]? = some o → o.dst = some t → i + j ∈ writers t i l
  | [], i, j, o, h, hd => by simp at h
  | x :: r, i, 0, o, h, hd => by
    simp at h; subst h
    simp [writers, hd]
  | x :: r, i, j + 1, o, h, hd => by
    have ih := writers_mem r (i + 1) j o (by simpa using h) hd
    have e : i + (j + 1) = i + 1 + j := by omega
    rw [e]
    unfold writers
    split
    · split
      · exact List.mem_cons_of_mem _ ih
      · exact ih
    · exact ih
structure Neat (ops : Array Oper) : Prop where
  low : ∀ i k, k ∈ afters ops i → k < i
  one : ∀ (i j : Nat) (o x : Oper) (d : Tmp), ops[i]? = some o → ops[j]? = some x → o.dst = some d → x.dst = some d → i = j
  look : ∀ (i j : Nat) (o x : Oper) (d : Tmp), ops[i]? = some o → ops[j]? = some x → x.dst = some d → d ∈ o.looksAt ops → j ∈ reach ops i
theorem neat_ok {ops : Array Oper} (h : neat ops = true) : Neat ops := by
  have key : ∀ (i : Nat) (o : Oper), ops[i]? = some o → (∀ k ∈ afters ops i, k < i) ∧ (∀ t ∈ o.looksAt ops, ∀ j ∈ writers t 0 ops.toList, j ∈ reach ops i) ∧ (∀ d, o.dst = some d → ∀ j ∈ writers d 0 ops.toList, i = j) := by
    intro i o ho
    have hlt := (Array.getElem?_eq_some_iff.1 ho).1
    unfold neat at h
    rw [List.all_eq_true] at h
    have h := h i (by simpa using hlt)
    rw [ho] at h
    simp only [Bool.and_eq_true] at h
    obtain ⟨⟨h1, h2⟩, h3⟩ := h
    refine ⟨fun k hk => ?_, fun t ht j hj => ?_, fun d hd j hj => ?_⟩
    · have := List.all_eq_true.1 h1 k hk
      exact Nat.le_of_ble_eq_true this
    · exact memB_iff.1 (List.all_eq_true.1 (List.all_eq_true.1 h2 t ht) j hj)
    · rw [hd] at h3
      exact Nat.eq_of_beq_eq_true (List.all_eq_true.1 h3 j hj)
  have hw : ∀ (j : Nat) (x : Oper) (d : Tmp), ops[j]? = some x → x.dst = some d → j ∈ writers d 0 ops.toList := by
    intro j x d hx hd
    have := writers_mem ops.toList 0 j x (by simpa using hx) hd
    simpa using this
  refine ⟨fun i k hk => ?_, fun i j o x d ho hx hd hxd => ?_, fun i j o x d ho hx hxd hl => ?_⟩
  · cases ho : ops[i]? with
    | none => simp [afters, ho] at hk
    | some o => exact (key i o ho).1 k hk
  · exact (key i o ho).2.2 d hd j (hw j x d hx hxd)
  · exact (key i o ho).2.1 d hl j (hw j x d hx hxd)
/-- Listed. -/
def On (l : Array Bool) (i : Nat) : Prop := l.getD i false = true
theorem On.set {l : Array Bool} {i j : Nat} (h : On l j) : On (l.setIfInBounds i true) j := getD_set_true h
theorem On.self {l : Array Bool} {i : Nat} (h : i < l.size) : On (l.setIfInBounds i true) i := by simp [On, h]
theorem On.inv {l : Array Bool} {i j : Nat} (h : On (l.setIfInBounds i true) j) : j = i ∨ On l j := by
  by_cases hij : i = j
  · exact .inl hij.symm
  · unfold On at h; rw [getD_set_ne false hij] at h; exact .inr h
theorem On.lt {l : Array Bool} {i : Nat} (h : On l i) : i < l.size := by
  rcases Nat.lt_or_ge i l.size with h' | h'
  · exact h'
  · simp [On, Array.getElem?_eq_none h'] at h
theorem not_On {l : Array Bool} {i : Nat} (h : l.getD i true = false) : ¬ On l i := by
  intro h2
  have hlt := h2.lt
  unfold On at h2
  simp [hlt] at h h2
  rw [h] at h2; cases h2
theorem off_of {l : Array Bool} {i : Nat} (hlt : i < l.size) (h : ¬ On l i) : l.getD i true = false := by
  unfold On at h
  simp [hlt] at h ⊢
  exact h
/-- With an operation, all it waits for. -/
def Shut (ops : Array Oper) (l : Array Bool) : Prop := ∀ i, On l i → ∀ k ∈ afters ops i, On l k
theorem mem_afters {ops : Array Oper} {i k : Nat} {o : Oper} (ho : ops[i]? = some o) : k ∈ afters ops i ↔ ∃ e ∈ o.after, Region.binds .any e = true ∧ e.on = k := by
  unfold afters
  rw [ho]
  simp only [List.mem_map, List.mem_filter, Array.mem_toList_iff]
  constructor
  · rintro ⟨e, ⟨h1, h2⟩, h3⟩; exact ⟨e, h1, h2, h3⟩
  · rintro ⟨e, h1, h2, h3⟩; exact ⟨e, ⟨h1, h2⟩, h3⟩
theorem ready_iff {ops : Array Oper} {l : Array Bool} {i : Nat} (hs : l.size = ops.size) : i ∈ Region.ready .any ops l ↔ ¬ On l i ∧ i < ops.size ∧ ∀ k ∈ afters ops i, On l k := by
  rw [mem_ready]
  constructor
  · rintro ⟨h1, o, ho, h2⟩
    refine ⟨not_On h1, (Array.getElem?_eq_some_iff.1 ho).1, fun k hk => ?_⟩
    obtain ⟨e, he, hb, rfl⟩ := (mem_afters ho).1 hk
    exact h2 e he hb
  · rintro ⟨h1, h2, h3⟩
    refine ⟨off_of (by omega) h1, ops[i], Array.getElem?_eq_getElem h2, fun e he hb => ?_⟩
    exact h3 _ ((mem_afters (Array.getElem?_eq_getElem h2)).2 ⟨e, he, hb, rfl⟩)
theorem reachGo_on {ops : Array Oper} {l : Array Bool} (hc : Shut ops l) : ∀ (n : Nat) (m : List Nat), (∀ k ∈ m, On l k) → ∀ k ∈ reachGo ops n m, On l k
  | 0, m, hm, k, hk => hm k hk
  | n + 1, m, hm, k, hk => by
    unfold reachGo at hk
    split at hk
    · rename_i hb
      refine reachGo_on hc n _ ?_ k hk
      intro j hj
      rcases List.mem_append.1 hj with hj | hj
      · exact hc n (hm n (memB_iff.1 hb)) j hj
      · exact hm j hj
    · exact reachGo_on hc n m hm k hk
theorem reach_on {ops : Array Oper} {l : Array Bool} (hc : Shut ops l) {i : Nat} (h : ∀ k ∈ afters ops i, On l k) : ∀ k ∈ reach ops i, On l k := reachGo_on hc i _ h
theorem Shut.set {ops : Array Oper} {l : Array Bool} (hc : Shut ops l) {i : Nat} (h : ∀ k ∈ afters ops i, On l k) : Shut ops (l.setIfInBounds i true) := by
  intro j hj k hk
  rcases hj.inv with rfl | hj
  · exact (h k hk).set
  · exact (hc j hj k hk).set
/-- All are listed where none may come up. -/
theorem all_on {ops : Array Oper} {l : Array Bool} (hn : Neat ops) (hs : l.size = ops.size) (h : Region.ready .any ops l = []) : ∀ i, i < ops.size → On l i := by
  intro i
  induction i using Nat.strongRecOn with
  | ind i ih =>
    intro hi
    apply Classical.byContradiction
    intro hni
    have : i ∈ Region.ready .any ops l := (ready_iff hs).2 ⟨hni, hi, fun k hk => ih k (hn.low i k hk) (Nat.lt_trans (hn.low i k hk) hi)⟩
    rw [h] at this; cases this
theorem ready_nil {ops : Array Oper} {l : Array Bool} (hs : l.size = ops.size) (h : ∀ i, i < ops.size → On l i) : Region.ready .any ops l = [] := by
  apply List.eq_nil_iff_forall_not_mem.2
  intro i hi
  obtain ⟨h1, h2, _⟩ := (ready_iff hs).1 hi
  exact h1 (h i h2)
def offs (l : Array Bool) : Nat := l.toList.count false
theorem offs_set {l : Array Bool} {i : Nat} (hlt : i < l.size) (h : ¬ On l i) : offs (l.setIfInBounds i true) + 1 = offs l := by
  unfold offs
  have h0 := off_of hlt h
  simp [hlt] at h0
  rw [Array.toList_setIfInBounds, List.count_set (by simpa using hlt)]
  have h1 : l.toList[i]'(by simpa using hlt) = false := by simpa using h0
  rw [h1]
  have : 0 < l.toList.count false := List.count_pos_iff.2 (by rw [← h1]; exact List.getElem_mem _)
  have e1 : (false == false) = true := rfl
  have e2 : (true == false) = false := rfl
  rw [e1, e2]
  simp only [if_true, Bool.false_eq_true, if_false]
  omega
theorem offs_zero {l : Array Bool} (h : offs l = 0) : ∀ i, i < l.size → On l i := by
  intro i hi
  apply Classical.byContradiction
  intro hn
  have := offs_set hi hn
  omega

/-! the same temporaries, as far as an operation looks -/
def Agree (ops : Array Oper) (o : Oper) (a b : Act) : Prop := ∀ t ∈ o.looksAt ops, b.tmps[t]? = a.tmps[t]?
theorem Agree.exec {ops : Array Oper} {b : Act} (hs : ∀ cs b, o.op ≠ .select cs b) (h : Agree ops o a b) : execOp b.eval o = execOp a.eval o := by
  refine execOp_congr o hs fun x hx => ?_
  cases x with
  | tmp t =>
    have := h t (List.mem_append_left _ (List.mem_filterMap.2 ⟨.tmp t, by simpa using hx, rfl⟩))
    simp [Act.eval, Array.getD_eq_getD_getElem?, this]
  | _ => rfl
theorem Agree.wanted {ops : Array Oper} {b : Act} (h : Agree ops o a b) : Region.wanted o (yielded ops b.tmps) = Region.wanted o (yielded ops a.tmps) := by
  unfold Region.wanted
  cases hg : o.guard with
  | none => rfl
  | some gw =>
    obtain ⟨g, want⟩ := gw
    have hy : yielded ops b.tmps g = yielded ops a.tmps g := by
      unfold yielded
      cases ht : (ops[g]?).bind (·.dst) with
      | none => rfl
      | some t =>
        have := h t (List.mem_append_right _ (by simp [hg, ht]))
        simp [this]
    simp only [hy]
theorem tm_set_self {tm : Tm} {t : Tmp} {b : Bool} (h : tm.getD t .any = .bool b) : tm.set t (.bool b) = tm := by
  apply List.ext_getElem?
  intro i
  rw [List.getElem?_set]
  split
  · rename_i hi
    subst hi
    split
    · rename_i hl
      simp [List.getD, List.getElem?_eq_getElem hl] at h ⊢
      exact h.symm
    · rename_i hl; rw [List.getElem?_eq_none (Nat.le_of_not_lt hl)]
  · rfl
/-- Which way the guard goes, in whatever state. -/
theorem guard_ok {ops : Array Oper} {A C : Tm → Prop} (h : guardE ops.toList tm o A C) :
    (A tm ∧ ∀ (E : Env) (a : Act), TR E tm a → Region.wanted o (yielded ops a.tmps) = true) ∨ (C tm ∧ ∀ (E : Env) (a : Act), TR E tm a → Region.wanted o (yielded ops a.tmps) = false) := by
  have both : ∀ (E : Env) (a : Act), TR E tm a → ∀ b, Region.wanted o (yielded ops a.tmps) = b → ∀ A' C' : Tm → Prop, guardE ops.toList tm o A' C' → (b = true ∧ ∃ t', A' t') ∨ (b = false ∧ ∃ t', C' t') := by
    intro E a htm b hb A' C' h
    obtain ⟨tm', _, _, h⟩ := wanted_ok (E := E) htm h
    rcases h with ⟨h1, h2⟩ | ⟨h1, h2⟩
    · exact .inl ⟨by rw [← hb]; exact h1, _, h2⟩
    · exact .inr ⟨by rw [← hb]; exact h1, _, h2⟩
  unfold guardE at h
  cases hg : o.guard with
  | none =>
    rw [hg] at h
    exact .inl ⟨h, fun E a _ => by simp [Region.wanted, hg]⟩
  | some jw =>
    obtain ⟨j, want⟩ := jw
    rw [hg] at h
    simp only at h
    simp only [Array.getElem?_toList] at h
    cases hd : (ops[j]?).bind (·.dst) with
    | none =>
      rw [hd] at h
      refine .inr ⟨h, fun E a htm => ?_⟩
      have := both E a htm _ rfl (fun _ => False) (fun _ => True) (by unfold guardE; rw [hg]; simp [hd])
      rcases this with ⟨_, _, h⟩ | ⟨h, _⟩
      · exact h.elim
      · exact h
    | some t =>
      rw [hd] at h
      simp only at h
      cases hx : tm.getD t .any <;> rw [hx] at h <;> (try exact h.elim)
      · rename_i b
        simp only [cnd] at h
        cases hb : b == want
        · rw [hb] at h
          have hne : b ≠ want := by simpa using hb
          have hbw : b = !want := by cases b <;> cases want <;> simp at hne ⊢
          refine .inr ⟨?_, fun E a htm => ?_⟩
          · have : tm.set t (.bool (!want)) = tm := tm_set_self (by rw [hx, hbw])
            simpa [this] using h
          · have := both E a htm _ rfl (fun _ => False) (fun _ => True) (by unfold guardE; rw [hg]; simp only [Array.getElem?_toList, hd, hx, cnd, hb])
            rcases this with ⟨_, _, h⟩ | ⟨h, _⟩
            · exact h.elim
            · exact h
        · rw [hb] at h
          have he : b = want := by simpa using hb
          refine .inl ⟨?_, fun E a htm => ?_⟩
          · have : tm.set t (.bool want) = tm := tm_set_self (by rw [hx, he])
            simpa [this] using h
          · have := both E a htm _ rfl (fun _ => True) (fun _ => False) (by unfold guardE; rw [hg]; simp only [Array.getElem?_toList, hd, hx, cnd, hb])
            rcases this with ⟨h, _⟩ | ⟨_, _, h⟩
            · exact h
            · exact h.elim
      · refine .inr ⟨h, fun E a htm => ?_⟩
        have := both E a htm _ rfl (fun _ => False) (fun _ => True) (by unfold guardE; rw [hg]; simp only [Array.getElem?_toList, hd, hx])
        rcases this with ⟨_, _, h⟩ | ⟨h, _⟩
        · exact h.elim
        · exact h

/-! what is told of an operation without a world tells one value -/
def Det {α : Type} (F : (α → Prop) → Prop) : Prop := ∀ K, F K → ∃ v, K v ∧ ∀ L : α → Prop, L v → F L
theorem Det.pure {α : Type} (v : α) : Det fun K => K v := fun K h => ⟨v, h, fun L hl => hl⟩
theorem Det.no {α : Type} : Det fun K : α → Prop => False := fun K h => h.elim
theorem Det.bind {α β : Type} {F : (α → Prop) → Prop} {G : α → (β → Prop) → Prop} (hF : Det F) (hG : ∀ a, Det (G a)) : Det fun K => F fun a => G a K := by
  intro K h
  obtain ⟨a, h, hl⟩ := hF _ h
  obtain ⟨b, h, hm⟩ := hG a _ h
  exact ⟨b, h, fun L hL => hl _ (hm _ hL)⟩
theorem Det.opt {α β : Type} (x : Option α) {G : α → (β → Prop) → Prop} (hG : ∀ a, Det (G a)) : Det fun K => optP x fun a => G a K := by
  cases x with
  | none => exact Det.no
  | some a => exact hG a
theorem Det.and {α : Type} {p : Prop} {F : (α → Prop) → Prop} (hF : Det F) : Det fun K => p ∧ F K := by
  rintro K ⟨hp, h⟩
  obtain ⟨v, h, hl⟩ := hF _ h
  exact ⟨v, h, fun L hL => ⟨hp, hl L hL⟩⟩
theorem Det.bool {α : Type} (v : V) {G : Bool → (α → Prop) → Prop} (hG : ∀ a, Det (G a)) : Det fun K => boolE v fun a => G a K := by
  cases v <;> first | exact hG _ | exact Det.no
theorem Det.int {α : Type} (v : V) {G : IntKind → Int → (α → Prop) → Prop} (hG : ∀ a b, Det (G a b)) : Det fun K => intE v fun a b => G a b K := by
  cases v <;> first | exact hG _ _ | exact Det.no
theorem Det.str {α : Type} (v : V) {G : List UInt8 → (α → Prop) → Prop} (hG : ∀ a, Det (G a)) : Det fun K => strE v fun a => G a K := by
  cases v <;> first | exact hG _ | exact Det.no
theorem Det.agg {α : Type} (v : V) {G : List V → (α → Prop) → Prop} (hG : ∀ a, Det (G a)) : Det fun K => aggE v fun a => G a K := by
  cases v <;> first | exact hG _ | exact Det.no
theorem Det.tup {α : Type} (v : V) {G : List V → (α → Prop) → Prop} (hG : ∀ a, Det (G a)) : Det fun K => tupE v fun a => G a K := by
  cases v <;> first | exact hG _ | exact Det.no
theorem Det.cnd {α : Type} (b : Bool) {F G : (α → Prop) → Prop} (hF : Det F) (hG : Det G) : Det fun K => SM.cnd b (F K) (G K) := by
  cases b <;> assumption
theorem Det.open_ (t : TypeId) (v : V) : Det fun K => openE P t v K := fun K h => ⟨v, openE_ok h, fun L hl => openE_re h hl⟩
theorem Det.openX_ (t : TypeId) (v : V) : Det fun K => openX P t v K := by
  unfold openX
  split
  · split
    · exact Det.pure _
    · exact Det.open_ _ _
  · exact Det.open_ _ _
theorem Det.len (v : V) : Det (lenE v) := by cases v <;> first | exact Det.pure _ | exact Det.no
theorem Det.bnd (v : Option V) (d : Nat) : Det (bndE v d) := by
  cases v with
  | none => exact Det.pure _
  | some v => exact Det.int v fun _ n => Det.and (Det.pure _)
theorem Det.ones : ∀ (l : List V) {α : Type} {F : (α → Prop) → Prop}, Det F → Det fun K => onesE l (F K)
  | [], _, _, h => h
  | v :: r, _, _, h => by cases v <;> first | exact Det.ones r h | exact Det.no
theorem Det.cells (ag : Bool) (n : Nat) (v : V) : Det (cellsE ag n v) := by
  cases ag with
  | true =>
    refine Det.agg v fun l => ?_
    cases Nat.beq l.length n
    · exact Det.no
    · exact Det.pure _
  | false =>
    unfold cellsE
    cases Nat.beq n 1
    · exact Det.no
    · cases v <;> first | exact Det.pure _ | exact Det.no
theorem Det.cellsT (t : TypeId) (v : V) : Det (cellsT P t v) := Det.opt _ fun _ => Det.opt _ fun _ => Det.cells _ _ _
theorem Det.part (ag : Bool) (k : Nat) (cs : List V) (off : Nat) : Det (partE ag k cs off) := fun K h => partE_re h
theorem Det.partT (t : TypeId) (cs : List V) (off : Nat) : Det (partT P t cs off) := Det.opt _ fun _ => Det.opt _ fun _ => Det.part _ _ _ _
theorem Det.fill (place : Nat → Option (Nat × TypeId)) : ∀ (l : List (Nat × V)) (cells : List V), Det (fillE P place l cells)
  | [], cells => Det.pure _
  | (i, v) :: rest, cells => Det.opt _ fun p => Det.bind (Det.cellsT p.2 v) fun cs => by
    cases Nat.ble (p.1 + cs.length) cells.length
    · exact Det.no
    · exact Det.fill place rest _
theorem Det.build (t : TypeId) (parts : List (Nat × V)) : Det (buildE P t parts) := by
  refine Det.opt _ fun z => ?_
  split
  · rename_i fs hu
    cases fs.toList.all fun f => (sizeA P f.type).isSome
    · exact Det.no
    · exact Det.bind (Det.fill _ _ _) fun _ => Det.pure _
  · exact Det.opt _ fun n => Det.bind (Det.fill _ _ _) fun _ => Det.pure _
  · exact Det.no
theorem Det.nil (k : Nat) (v : V) : Det (nilE k v) := by
  unfold nilE
  cases nilV k v <;> first | exact Det.pure _ | exact Det.no
theorem Det.samePtr (a b : V) : Det (samePtrE a b) := by
  unfold samePtrE
  split
  · exact Det.and (Det.pure _)
  · exact Det.no
theorem Det.same (t : TypeId) (x y : Operand) (a b : V) : Det (sameE P t x y a b) := by
  unfold sameE
  split
  · exact Det.opt _ fun ks => Det.agg _ fun xs => Det.agg _ fun ys => Det.opt _ fun _ => Det.pure _
  · split
    · exact Det.nil _ _
    · exact Det.nil _ _
    · split
      · split
        · exact Det.samePtr _ _
        · exact Det.no
      · exact Det.no
theorem Det.bin (op : BinOp) (t : TypeId) (x y : Operand) (a b : V) : Det (binE P op t x y a b) := by
  unfold binE
  cases isShift op with
  | true => exact Det.int _ fun k m => Det.int _ fun _ n => by cases op <;> first | exact Det.and (Det.pure _) | exact Det.no
  | false =>
    simp only
    split
    · refine Det.int _ fun k m => Det.int _ fun j n => ?_
      cases decide (k = j)
      · exact Det.no
      · cases op <;> first | exact Det.pure _ | exact Det.and (Det.pure _) | exact Det.no
    · exact Det.str _ fun s => Det.str _ fun r => by cases op <;> first | exact Det.pure _ | exact Det.and (Det.pure _) | exact Det.no
    · exact Det.bool _ fun p => Det.bool _ fun q => by cases op <;> first | exact Det.pure _ | exact Det.no
    · cases op <;> first | exact Det.bind (Det.same _ _ _ _ _) (fun _ => Det.pure _) | exact Det.no
theorem Det.idx (sz : Nat) (v : V) (i : Int) : Det (idxE sz v i) := by
  have he : ∀ x, Det fun K : V → Prop => elemE x fun cs => K (.vptr cs) := by intro x; cases x <;> first | exact Det.pure _ | exact Det.no
  unfold idxE
  split
  · exact Det.and (Det.and (Det.opt _ fun x => he x))
  · exact Det.and (Det.and (Det.opt _ fun x => he x))
  · exact Det.and (Det.and (Det.and (Det.pure _)))
  · exact Det.no
theorem Det.cutV (sz : Nat) (v : V) (lo hi : Nat) : Det (cutV sz v lo hi) := by
  unfold SM.cutV
  split
  · exact Det.and (Det.and (Det.pure _))
  · exact Det.and (Det.and (Det.pure _))
  · exact Det.and (Det.and (Det.and (Det.pure _)))
  · exact Det.and (Det.and (Det.and (Det.pure _)))
  · exact Det.and (Det.and (Det.and (Det.and (Det.pure _))))
  · exact Det.no
theorem Det.slice (t : TypeId) (v : V) (lo hi : Option V) : Det (sliceE P t v lo hi none) := by
  unfold sliceE
  split
  · exact Det.str _ fun s => Det.bind (Det.bnd _ _) fun l => Det.bind (Det.bnd _ _) fun h => Det.and (Det.and (Det.pure _))
  · exact Det.opt _ fun sz => Det.bind (Det.len _) fun n => Det.bind (Det.bnd _ _) fun l => Det.bind (Det.bnd _ _) fun h => Det.cutV _ _ _ _
  · rename_i h; cases h
  · exact Det.no
theorem Det.nck (v : V) : Det (nckE v) := by cases v <;> first | exact Det.pure _ | exact Det.no
theorem Det.fa (o : Nat) (v : V) : Det (faE o v) := by cases v <;> first | exact Det.pure _ | exact Det.and (Det.pure _) | exact Det.no
theorem Det.tas (t : TypeId) (ok : Bool) (z v : V) : Det (tasE t ok z v) := by
  cases v <;> try exact Det.no
  · rename_i u v
    unfold tasE
    simp only
    split <;> first | exact Det.pure _ | exact Det.no
  · unfold tasE
    cases ok
    · exact Det.no
    · exact Det.pure _
theorem Det.conv (s d : TypeId) (v : V) : Det (convE P s d v) := by
  unfold convE
  split
  · exact Det.int _ fun _ _ => Det.pure _
  · exact Det.str _ fun _ => Det.pure _
  · exact Det.int _ fun _ _ => Det.pure _
  · exact Det.no
theorem pureE_det (hf : isFixed o = true) : Det (pureE P tm o) := by
  obtain ⟨dst, op, type, pos, after, guard⟩ := o
  cases op <;> try exact Det.no
  case move x => exact Det.pure _
  case assign x => exact Det.pure _
  case pick c x y => exact Det.bool _ fun p => Det.cnd p (Det.pure _) (Det.pure _)
  case build t parts => exact Det.build _ _
  case nilCheck x => exact Det.nck _
  case makeInterface t x =>
    show Det fun K => pureE P tm ⟨dst, .makeInterface t x, type, pos, after, guard⟩ K
    simp only [pureE]
    split
    · exact Det.no
    · exact Det.pure _
    · exact Det.no
  case makeFunc f a c => cases f <;> first | exact Det.pure _ | exact Det.no
  case fieldAddr t x i =>
    show Det fun K => pureE P tm ⟨dst, .fieldAddr t x i, type, pos, after, guard⟩ K
    simp only [pureE]
    split
    · refine Det.opt _ fun f => ?_
      split
      · exact Det.fa _ _
      · exact Det.no
    · exact Det.no
  case field t x i =>
    show Det fun K => pureE P tm ⟨dst, .field t x i, type, pos, after, guard⟩ K
    simp only [pureE]
    split
    · exact Det.opt _ fun f => Det.agg _ fun cs => Det.bind (Det.partT _ _ _) fun v => Det.open_ _ _
    · exact Det.no
  case indexAddr t x i =>
    show Det fun K => pureE P tm ⟨dst, .indexAddr t x i, type, pos, after, guard⟩ K
    simp only [pureE]
    split
    · exact Det.opt _ fun sz => Det.int _ fun _ n => Det.idx _ _ _
    · exact Det.no
  case index t x i =>
    show Det fun K => pureE P tm ⟨dst, .index t x i, type, pos, after, guard⟩ K
    simp only [pureE]
    split
    · exact Det.int _ fun _ n => Det.str _ fun s => Det.and (Det.opt _ fun b => Det.pure _)
    · exact Det.opt _ fun sz => Det.int _ fun _ n => Det.and (Det.and (Det.agg _ fun cs => Det.bind (Det.partT _ _ _) fun v => Det.open_ _ _))
    · exact Det.no
  case slice t x lo hi mx =>
    cases mx with
    | none => cases hi <;> exact Det.slice _ _ _ _
    | some m => simp [isFixed] at hf
  case typeAssert x xt t ok =>
    show Det fun K => pureE P tm ⟨dst, .typeAssert x xt t ok, type, pos, after, guard⟩ K
    simp only [pureE]
    split
    · exact Det.no
    · exact Det.opt _ fun z => Det.bind (Det.tas _ _ _ _) fun v => Det.open_ _ _
    · exact Det.no
  case extract x i => exact Det.tup _ fun l => Det.opt _ fun v => Det.openX_ _ _
  case binOp op t x y p => exact Det.bin _ _ _ _ _ _
  case unOp op t x => cases op <;> first | exact Det.bool _ fun _ => Det.pure _ | exact Det.int _ fun _ _ => Det.pure _ | exact Det.no
  case convert s d x => exact Det.conv _ _ _
  case call c =>
    obtain ⟨callee, args, argTypes⟩ := c
    cases callee
    case builtin b =>
      cases b <;> try exact Det.no
      case len =>
        show Det fun K => pureE P tm ⟨dst, .call ⟨.builtin .len, args, argTypes⟩, type, pos, after, guard⟩ K
        simp only [pureE]
        split
        · exact Det.str _ fun _ => Det.pure _
        · exact Det.bind (Det.len _) fun _ => Det.pure _
        · exact Det.pure _
        · exact Det.no
      case min =>
        show Det fun K => pureE P tm ⟨dst, .call ⟨.builtin .min, args, argTypes⟩, type, pos, after, guard⟩ K
        simp only [pureE]
        split
        · exact Det.int _ fun _ _ => Det.int _ fun _ _ => Det.pure _
        · exact Det.no
      case max =>
        show Det fun K => pureE P tm ⟨dst, .call ⟨.builtin .max, args, argTypes⟩, type, pos, after, guard⟩ K
        simp only [pureE]
        split
        · exact Det.int _ fun _ _ => Det.int _ fun _ _ => Det.pure _
        · exact Det.no
    all_goals exact Det.no
end Go.Proofs.Ytmpheeanjjfddaa.SM
