/- What the small machine answers, the model answers: regions, code, calls. -/
import Derived.Test.YtmpheeanjjfddaaDoorAMHeap4
namespace Go.Proofs.YtmpheeanjjfddaaDoor.AM
open Go Go.RowKit
set_option linter.unusedVariables false
set_option linter.unusedSimpArgs false
variable {P : Program} {E : Env} {base : Nat} {w0 : World} {A : Asm}

mutual
theorem beq_eq : ∀ (a b : AV), AV.beq a b = true → a = b
  | .bool a, b, h => by cases b <;> simp [AV.beq] at h; subst h; rfl
  | .int k a, b, h => by cases b <;> simp [AV.beq, intEq_eq] at h; obtain ⟨rfl, rfl⟩ := h; rfl
  | .sint a, b, h => by cases b <;> simp [AV.beq] at h; rw [se_eq _ _ h]
  | .str a, b, h => by cases b <;> simp [AV.beq, natsEq_iff] at h; subst h; rfl
  | .sym a, b, h => by cases b <;> simp [AV.beq] at h; subst h; rfl
  | .nilp, b, h => by cases b <;> simp [AV.beq] at h; rfl
  | .ptr a c, b, h => by cases b <;> simp [AV.beq] at h; obtain ⟨rfl, rfl⟩ := h; rfl
  | .glob a, b, h => by cases b <;> simp [AV.beq] at h; subst h; rfl
  | .nilsl, b, h => by cases b <;> simp [AV.beq] at h; rfl
  | .esl, b, h => by cases b <;> simp [AV.beq] at h; rfl
  | .sl a c d e, b, h => by cases b <;> simp [AV.beq] at h; obtain ⟨⟨⟨rfl, rfl⟩, rfl⟩, rfl⟩ := h; rfl
  | .nilmap, b, h => by cases b <;> simp [AV.beq] at h; rfl
  | .map a, b, h => by cases b <;> simp [AV.beq] at h; subst h; rfl
  | .func f x y, b, h => by
    cases b <;> simp [AV.beq] at h
    obtain ⟨⟨rfl, h1⟩, h2⟩ := h
    rw [beqs_eq x _ h1, beqs_eq y _ h2]
  | .nilfunc, b, h => by cases b <;> simp [AV.beq] at h; rfl
  | .iface t x, b, h => by
    cases b <;> simp [AV.beq] at h
    obtain ⟨rfl, h1⟩ := h
    rw [beq_eq x _ h1]
  | .niliface, b, h => by cases b <;> simp [AV.beq] at h; rfl
  | .agg x, b, h => by cases b <;> simp [AV.beq] at h; rw [beqs_eq x _ h]
  | .tuple x, b, h => by cases b <;> simp [AV.beq] at h; rw [beqs_eq x _ h]
theorem beqs_eq : ∀ (a b : List AV), AV.beqs a b = true → a = b
  | [], b, h => by cases b <;> simp [AV.beqs] at h; rfl
  | a :: r, b, h => by
    cases b with
    | nil => simp [AV.beqs] at h
    | cons c s =>
      simp only [AV.beqs, Bool.and_eq_true] at h
      rw [beq_eq a c h.1, beqs_eq r s h.2]
end
theorem esEq_eq : ∀ (a b : List (AV × AV × Nat)), esEq a b = true → a = b
  | [], [], _ => rfl
  | [], _ :: _, h => by simp [esEq] at h
  | _ :: _, [], h => by simp [esEq] at h
  | (a, b, c) :: r, (a', b', c') :: s, h => by
    simp only [esEq, Bool.and_eq_true, Nat.beq_eq] at h
    obtain ⟨⟨⟨h1, h2⟩, h3⟩, h4⟩ := h
    rw [beq_eq _ _ h1, beq_eq _ _ h2, h3, esEq_eq r s h4]
theorem aobeq_eq : ∀ (a b : AO), AO.beq a b = true → a = b
  | .box a t, b, h => by cases b <;> simp [AO.beq] at h; obtain ⟨h1, rfl⟩ := h; rw [beqs_eq _ _ h1]
  | .row a t l, b, h => by cases b <;> simp [AO.beq] at h; obtain ⟨⟨h1, rfl⟩, rfl⟩ := h; rw [beqs_eq _ _ h1]
  | .map a c, b, h => by cases b <;> simp [AO.beq] at h; obtain ⟨h1, rfl⟩ := h; rw [esEq_eq _ _ h1]
  | .siter a p, b, h => by cases b <;> simp [AO.beq, natsEq_iff] at h; obtain ⟨rfl, rfl⟩ := h; rfl
  | .dead, b, h => by cases b <;> simp [AO.beq] at h; rfl
theorem hpbeq_eq : ∀ (a b : Hp), Hp.beq a b = true → a = b
  | [], [], _ => rfl
  | [], _ :: _, h => by simp [Hp.beq] at h
  | _ :: _, [], h => by simp [Hp.beq] at h
  | (n, o) :: r, (m, p) :: s, h => by
    simp only [Hp.beq, Bool.and_eq_true, Nat.beq_eq] at h
    obtain ⟨⟨h1, h2⟩, h3⟩ := h
    rw [h1, aobeq_eq _ _ h2, hpbeq_eq r s h3]
theorem frbeq_eq {a b : Fr} (h : a.beq b = true) : a = b := by
  obtain ⟨tm, H, nx⟩ := a
  obtain ⟨tm', H', nx'⟩ := b
  simp only [Fr.beq, Bool.and_eq_true, Nat.beq_eq] at h
  rw [beqs_eq _ _ h.1.1, hpbeq_eq _ _ h.1.2, h.2]
theorem bitsEq_eq : ∀ (a b : List Bool), bitsEq a b = true → a = b
  | [], [], _ => rfl
  | [], _ :: _, h => by simp [bitsEq] at h
  | _ :: _, [], h => by simp [bitsEq] at h
  | a :: r, b :: s, h => by
    simp only [bitsEq, Bool.and_eq_true, beq_iff_eq] at h
    rw [h.1, bitsEq_eq r s h.2]

/-- A frame's temporaries and heap stand in a world. -/
def Rel (A : Asm) (E : Env) (base : Nat) (w0 : World) (f : Fr) (a : Act) (w : World) : Prop := TR E f.tm a ∧ a.defers = [] ∧ WR E base w0 f.s.H w ∧ AsmOK E.r A
/-- Calls of the small machine are calls of the model. -/
def CallOK (P : Program) (A : Asm) (base : Nat) (w0 : World) (cf : CallF) : Prop :=
  ∀ f args s v s', cf f args s = some (v, s') → ∀ E w (cargs : Array Value), WR E base w0 s.H w → AsmOK E.r A → VRs E args cargs.toList →
    Calls P f cargs w fun e w' => ∃ E' cv, e = .returned cv ∧ E.le E' ∧ VR E' v cv ∧ WR E' base w0 s'.H w'
theorem Asm_le {E F : Env} (h : E.le F) (hA : AsmOK E.r A) : AsmOK F.r A := by rw [h.2]; exact hA
theorem put_defers {a : Act} (h : a.defers = []) (d : Option Tmp) (v : Value) : (a.put d v).defers = [] := by cases d <;> exact h
theorem bool_iff {x : AV} {v : Value} (h : VR E x v) (b : Bool) : x = .bool b ↔ v = .bool b := by
  constructor
  · rintro rfl; simpa only [VR] using h
  · rintro rfl
    cases x <;> simp [VR] at h
    rw [h]
theorem wanted_ok {ops : Array Oper} {tm : Tm} {a : Act} (htm : TR E tm a) (o : Oper) : wantedA ops.toList tm o = Region.wanted o (yielded ops a.tmps) := by
  unfold wantedA Region.wanted
  cases o.guard with
  | none => rfl
  | some jw =>
    obtain ⟨j, want⟩ := jw
    simp only
    unfold yieldA yielded
    simp only [Array.getElem?_toList]
    cases hd : (ops[j]?).bind (·.dst) with
    | none => simp
    | some t =>
      simp only [Option.bind_some]
      have hv := VRs_getD htm t
      by_cases ht : t < a.tmps.size
      · have e1 : a.tmps.toList.getD t undef = a.tmps[t] := by simp [List.getD, ht]
        rw [e1] at hv
        have e2 : a.tmps[t]? = some a.tmps[t] := Array.getElem?_eq_getElem ht
        rw [e2]
        generalize tm.getD t (.tuple []) = x at hv ⊢
        generalize a.tmps[t] = y at hv ⊢
        by_cases hx : ∃ b, x = .bool b
        · obtain ⟨b, rfl⟩ := hx
          have := (bool_iff hv b).1 rfl
          subst this
          simp
        · have hy : ∀ b, y ≠ .bool b := fun b hb => hx ⟨b, (bool_iff hv b).2 hb⟩
          have e3 : (match x with | .bool b => some b | _ => none) = (none : Option Bool) := by
            cases x <;> first | rfl | exact absurd ⟨_, rfl⟩ hx
          have e4 : (match some y with | some (.bool b) => some b | _ => none) = (none : Option Bool) := by
            cases y <;> first | rfl | exact absurd rfl (hy _)
          cases x <;> first | exact absurd ⟨_, rfl⟩ hx | (cases y <;> first | exact absurd rfl (hy _) | rfl)
      · have hl := VRs_length _ _ htm
        have ht' : a.tmps.size ≤ t := Nat.le_of_not_lt ht
        have hl' : a.tmps.size = tm.length := by simpa using hl
        have e1 : tm.getD t (.tuple []) = .tuple [] := by
          have : tm.length ≤ t := hl' ▸ ht'
          simp [List.getD, List.getElem?_eq_none this]
        rw [e1, Array.getElem?_eq_none ht']
        rfl
theorem step1_ok {cf : CallF} (hcf : CallOK P A base w0 cf) {ops : Array Oper} {i : Nat} {o : Oper} (hi : ops[i]? = some o) {f g : Fr} (h : step1 P A cf ops.toList o f = some g) {a : Act} {w : World} (hr : Rel A E base w0 f a w)
    {K : Act → World → Prop} {Q : Exit → Act → World → Prop} (hK : ∀ E' a' w', E.le E' → Rel A E' base w0 g a' w' → K a' w') : wpOp P ops Q i K a w := by
  obtain ⟨htm, hd, hW, hA⟩ := hr
  unfold step1 at h
  unfold wpOp
  simp only [hi]
  rw [wanted_ok htm o] at h
  split at h
  · rename_i hw
    rw [if_pos hw]
    refine .inl ?_
    unfold Oper.wp
    have hval : ∀ v s', opA P A f.tm o f.s = some (.val v s') → g = ⟨put f.tm o.dst v, s'⟩ → o.upon P a K Q ((execOp a.eval o).run P w) := by
      intro v s' ho hg
      subst hg
      unfold opA at ho
      split at ho
      · rename_i v' hp
        cases ho
        obtain ⟨cv, hcv, hrun⟩ := pureA_ok hA htm hp
        rw [hrun]
        exact hK E _ _ (Env.le_refl E) ⟨TR_put htm hcv, put_defers hd _ _, hW, hA⟩
      · obtain ⟨E', cv, w', nx, hle, hcv, hW', hrun, hnx⟩ := heapA_ok htm hW ho
        rw [hrun]
        rcases hnx with rfl | ⟨rfl, rfl⟩
        · exact hK E' _ _ hle ⟨TR_put (TR_mono hle htm) hcv, put_defers hd _ _, hW', Asm_le hle hA⟩
        · exact hK E' _ _ hle ⟨TR_put (TR_mono hle htm) hcv, put_defers hd _ _, hW', Asm_le hle hA⟩
    split at h
    · rename_i v s' ho
      cases h
      exact hval v s' ho rfl
    · rename_i fn args s' ho
      split at h
      · rename_i v s2 hc
        cases h
        unfold opA at ho
        split at ho
        · cases ho
        · obtain ⟨rfl, cargs, hargs, hrun⟩ := heapA_ok htm hW ho
          rw [hrun]
          simp only [Oper.upon]
          refine (hcf _ _ _ _ _ hc E w cargs hW hA hargs).mono ?_
          rintro e w' ⟨E', cv, rfl, hle, hcv, hW'⟩
          exact hK E' _ _ hle ⟨TR_put (TR_mono hle htm) hcv, put_defers hd _ _, hW', Asm_le hle hA⟩
      · cases h
    · cases h
  · rename_i hw
    rw [if_neg hw]
    cases h
    exact hK E _ _ (Env.le_refl E) ⟨TR_put htm VR_undef, put_defers hd _ _, hW, hA⟩
theorem runOps_ok {cf : CallF} (hcf : CallOK P A base w0 cf) {ops : Array Oper} {Q : Exit → Act → World → Prop} {E0 : Env} {g : Fr} (hQ : ∀ E' a' w', E0.le E' → Rel A E' base w0 g a' w' → Q .normal a' w') :
    ∀ (k i : Nat) (f : Fr) (E : Env) (a : Act) (w : World), i + k = ops.size → runOps P A cf ops.toList (ops.toList.drop i) f = some g → E0.le E → Rel A E base w0 f a w → wpOps P ops Q (List.range' i k) a w
  | 0, i, f, E, a, w, hik, h, hle, hr => by
    rw [List.drop_of_length_le (by simp; omega)] at h
    simp only [runOps, Option.some.injEq] at h
    subst h
    exact hQ E a w hle hr
  | k + 1, i, f, E, a, w, hik, h, hle, hr => by
    have hlt : i < ops.toList.length := by simp; omega
    rw [List.drop_eq_getElem_cons hlt] at h
    simp only [runOps] at h
    split at h
    · rename_i f1 hs
      rw [List.range'_succ, wpOps_cons]
      refine step1_ok hcf (o := ops.toList[i]) (by rw [← Array.getElem?_toList]; exact List.getElem?_eq_getElem hlt) hs hr ?_
      intro E' a' w' hle' hr'
      exact runOps_ok hcf hQ k (i + 1) f1 E' a' w' (by omega) h (Env.le_trans hle hle') hr'
    · cases h

/-! regions that draw their order -/
def InLv (l : Array Bool) (f : Fr) (lv : Lv) : Prop := (l, f) ∈ lv
theorem layAt_ok {l : Array Bool} {f : Fr} : ∀ {lv out : Lv}, layAt l f lv = some out → InLv l f out ∧ ∀ x ∈ lv, x ∈ out
  | [], out, h => by simp only [layAt, Option.some.injEq] at h; subst h; exact ⟨by simp [InLv], by simp⟩
  | (m, g) :: r, out, h => by
    simp only [layAt] at h
    split at h
    · rename_i hb
      split at h
      · rename_i hf
        cases h
        have e1 : l = m := by rw [← Array.toList_inj]; exact bitsEq_eq _ _ hb
        have e2 := frbeq_eq hf
        subst e1 e2
        exact ⟨by simp [InLv], fun x hx => hx⟩
      · cases h
    · obtain ⟨o, ho, rfl⟩ := Option.map_eq_some_iff.1 h
      obtain ⟨h1, h2⟩ := layAt_ok ho
      refine ⟨List.mem_cons_of_mem _ h1, fun x hx => ?_⟩
      rcases List.mem_cons.1 hx with rfl | hx
      · simp
      · exact List.mem_cons_of_mem _ (h2 x hx)
theorem firstPure_ok {ops : Array Oper} {l : Array Bool} {tm : Tm} {i : Nat} {v : AV} {d : Option Tmp} : ∀ (rs : List Nat), firstPure P A ops l tm rs = some (i, v, d) →
    i ∈ rs ∧ ∃ o, ops[i]? = some o ∧ d = o.dst ∧ Region.free .any ops l i = true ∧ ((wantedA ops.toList tm o = false ∧ v = .tuple []) ∨ (wantedA ops.toList tm o = true ∧ pureA P A tm o = some v))
  | [], h => by simp [firstPure] at h
  | j :: r, h => by
    have more : ∀ h', firstPure P A ops l tm r = some (i, v, d) → _ := fun (h' : True) hh => firstPure_ok r hh
    simp only [firstPure] at h
    split at h
    · rename_i o ho
      split at h
      · rename_i hw
        split at h
        · rename_i hf
          cases h
          exact ⟨by simp, o, ho, rfl, hf, .inl ⟨by simpa using hw, rfl⟩⟩
        · obtain ⟨h1, h2⟩ := firstPure_ok r h
          exact ⟨List.mem_cons_of_mem _ h1, h2⟩
      · rename_i hw
        split at h
        · rename_i v' hp
          split at h
          · rename_i hf
            cases h
            exact ⟨by simp, o, ho, rfl, hf, .inr ⟨by simpa using hw, hp⟩⟩
          · obtain ⟨h1, h2⟩ := firstPure_ok r h
            exact ⟨List.mem_cons_of_mem _ h1, h2⟩
        · obtain ⟨h1, h2⟩ := firstPure_ok r h
          exact ⟨List.mem_cons_of_mem _ h1, h2⟩
    · obtain ⟨h1, h2⟩ := firstPure_ok r h
      exact ⟨List.mem_cons_of_mem _ h1, h2⟩
/-- What comes of a listed state. -/
def Succ (P : Program) (A : Asm) (cf : CallF) (ops : Array Oper) (l : Array Bool) (f : Fr) (lv : Lv) : Prop :=
  (∃ i v d, firstPure P A ops l f.tm (Region.ready .any ops l) = some (i, v, d) ∧ InLv (l.setIfInBounds i true) ⟨put f.tm d v, f.s⟩ lv) ∨
  (Region.ready .any ops l ≠ [] ∧ ∀ i ∈ Region.ready .any ops l, ∃ o g, ops[i]? = some o ∧ step1 P A cf ops.toList o ⟨f.tm, ⟨f.s.H, (f.s.nx * 64 + i) * 1048576⟩⟩ = some g ∧ InLv (l.setIfInBounds i true) ⟨g.tm, ⟨g.s.H, f.s.nx⟩⟩ lv)
theorem stepAll_ok {cf : CallF} {ops : Array Oper} {l : Array Bool} {f : Fr} : ∀ (rs : List Nat) (lv out : Lv), stepAll P A cf ops l f rs lv = some out →
    (∀ x ∈ lv, x ∈ out) ∧ ∀ i ∈ rs, ∃ o g, ops[i]? = some o ∧ step1 P A cf ops.toList o ⟨f.tm, ⟨f.s.H, (f.s.nx * 64 + i) * 1048576⟩⟩ = some g ∧ InLv (l.setIfInBounds i true) ⟨g.tm, ⟨g.s.H, f.s.nx⟩⟩ out
  | [], lv, out, h => by simp only [stepAll, Option.some.injEq] at h; subst h; exact ⟨fun x hx => hx, by simp⟩
  | i :: r, lv, out, h => by
    simp only [stepAll] at h
    split at h
    · rename_i o ho
      split at h
      · rename_i g hg
        split at h
        · rename_i lv1 hl
          obtain ⟨h1, h2⟩ := layAt_ok hl
          obtain ⟨h3, h4⟩ := stepAll_ok r lv1 out h
          refine ⟨fun x hx => h3 x (h2 x hx), fun j hj => ?_⟩
          rcases List.mem_cons.1 hj with rfl | hj
          · exact ⟨o, g, ho, hg, h3 _ h1⟩
          · exact h4 j hj
        · cases h
      · cases h
    · cases h
theorem level_ok {cf : CallF} {ops : Array Oper} : ∀ (lv acc out : Lv), level P A cf ops lv acc = some out → (∀ x ∈ acc, x ∈ out) ∧ ∀ l f, (l, f) ∈ lv → Succ P A cf ops l f out
  | [], acc, out, h => by simp only [level, Option.some.injEq] at h; subst h; exact ⟨fun x hx => hx, by simp⟩
  | (l, f) :: r, acc, out, h => by
    simp only [level] at h
    split at h
    · rename_i i v d hp
      split at h
      · rename_i lv1 hl
        obtain ⟨h1, h2⟩ := layAt_ok hl
        obtain ⟨h3, h4⟩ := level_ok r lv1 out h
        refine ⟨fun x hx => h3 x (h2 x hx), fun m g hm => ?_⟩
        rcases List.mem_cons.1 hm with he | hm
        · cases he; exact .inl ⟨i, v, d, hp, h3 _ h1⟩
        · exact h4 m g hm
      · cases h
    · split at h
      · cases h
      · rename_i hne
        split at h
        · rename_i lv1 hl
          obtain ⟨h1, h2⟩ := stepAll_ok _ _ _ hl
          obtain ⟨h3, h4⟩ := level_ok r lv1 out h
          refine ⟨fun x hx => h3 x (h1 x hx), fun m g hm => ?_⟩
          rcases List.mem_cons.1 hm with he | hm
          · cases he
            refine .inr ⟨by simpa using hne, fun i hi => ?_⟩
            obtain ⟨o, g, ho, hg, hin⟩ := h2 i hi
            exact ⟨o, g, ho, hg, h3 _ hin⟩
          · exact h4 m g hm
        · cases h
theorem levels_ok {cf : CallF} (hcf : CallOK P A base w0 cf) {ops : Array Oper} (hns : Region.noSelect ops = true) {Q : Exit → Act → World → Prop} (hQp : ∀ c a w, ¬ Q (.panic c) a w) {E0 : Env} {l1 : Array Bool} {g : Fr} (hend : Region.ready .any ops l1 = [])
    (hQ : ∀ E' a' w', E0.le E' → Rel A E' base w0 g a' w' → Q .normal a' w') :
    ∀ (n : Nat) (lv : Lv), levels P A cf ops n lv = some [(l1, g)] → ∀ l f, (l, f) ∈ lv → ∀ E a w, E0.le E → Rel A E base w0 f a w → wpAny P .any ops Q n l a w
  | 0, lv, h, l, f, hm, E, a, w, hle, hr => by
    simp only [levels, Option.some.injEq] at h
    subst h
    simp only [List.mem_singleton, Prod.mk.injEq] at hm
    obtain ⟨rfl, rfl⟩ := hm
    exact ⟨hend, hQ E a w hle hr⟩
  | n + 1, lv, h, l, f, hm, E, a, w, hle, hr => by
    simp only [levels] at h
    split at h
    · rename_i lv1 hl
      have ih := levels_ok hcf hns hQp hend hQ n lv1 h
      rcases (level_ok _ _ _ hl).2 l f hm with ⟨i, v, d, hp, hin⟩ | ⟨hne, hall⟩
      · obtain ⟨hi, o, ho, rfl, hfree, hv⟩ := firstPure_ok _ hp
        obtain ⟨htm, hd, hW, hA⟩ := hr
        have hy : ∃ cv, VR E v cv ∧ Yields P ops o cv a := by
          rcases hv with ⟨hw, rfl⟩ | ⟨hw, hp⟩
          · exact ⟨undef, VR_undef, .inr ⟨by rw [← wanted_ok htm o]; exact hw, rfl⟩⟩
          · obtain ⟨cv, hcv, hrun⟩ := pureA_ok hA htm hp
            exact ⟨cv, hcv, .inl ⟨by rw [← wanted_ok htm o]; exact hw, hrun⟩⟩
        obtain ⟨cv, hcv, hy⟩ := hy
        refine wpAny_take ho hns hfree (by simpa using hi) (fun c a w hq => absurd hq (hQp _ _ _)) hy ?_
        exact ih _ _ hin E _ w hle ⟨TR_put htm hcv, put_defers hd _ _, hW, hA⟩
      · refine wpAny_all rfl hne ?_
        intro i hi
        obtain ⟨o, g', ho, hg, hin⟩ := hall i hi
        obtain ⟨htm, hd, hW, hA⟩ := hr
        refine step1_ok hcf ho hg (E := E) (base := base) (w0 := w0) (a := a) (w := w) ⟨htm, hd, hW, hA⟩ ?_
        intro E' a' w' hle' hr'
        exact ih _ _ hin E' a' w' (Env.le_trans hle hle') hr'
    · cases h

/-! code -/
def toExit : Ex → Exit
  | .normal => .normal
  | .exit id => .exit id
  | .ret => .ret
/-- A loop, by rounds that are left. -/
theorem wp_loop_fuel {c : Code} {Q : Exit → Act → World → Prop} (R : Nat → Act → World → Prop) (round : ∀ n a w, R n a w → c.wp P (Exit.then (fun a' w' => ∃ m, m < n ∧ R m a' w') Q) a w) {n : Nat} {a : Act} {w : World} (h : R n a w) : (Code.loop c).wp P Q a w := by
  intro b k cs
  have key : ∀ n a w, R n a w → ∃ e a' w', Q e a' w' ∧ Arrives P (lone (b.at a (.code c :: .inLoop c :: k)) cs w) b k cs e a' w' := by
    intro n
    induction n using Nat.strongRecOn with
    | _ n ih =>
      intro a w hI
      obtain ⟨e, a₁, w₁, hq, harr⟩ := round n a w hI b (.inLoop c :: k) cs
      cases e with
      | normal =>
        obtain ⟨m, hlt, hI₁⟩ := hq
        obtain ⟨e₂, a₂, w₂, hq₂, harr₂⟩ := ih m hlt a₁ w₁ hI₁
        exact ⟨e₂, a₂, w₂, hq₂, .of_steps (Steps.trans harr (.one step_inLoop)) harr₂⟩
      | exit id => exact ⟨_, a₁, w₁, hq, .pass (x := .inLoop c) rfl (fun _ _ => .inl (by simp)) harr⟩
      | goto l => exact ⟨_, a₁, w₁, hq, .pass (x := .inLoop c) rfl (fun _ _ => .inl (by simp)) harr⟩
      | ret => exact ⟨_, a₁, w₁, hq, .pass (x := .inLoop c) rfl (fun _ _ => .inl (by simp)) harr⟩
      | panic ch => exact ⟨_, a₁, w₁, hq, .pass (x := .inLoop c) rfl (fun _ _ => .inl (by simp)) harr⟩
      | outgrown => exact ⟨_, a₁, w₁, hq, .pass (x := .inLoop c) rfl (fun _ _ => .inl (by simp)) harr⟩
  obtain ⟨e, a', w', hq, harr⟩ := key n a w h
  exact ⟨e, a', w', hq, .of_steps (.one step_loop) harr⟩
def Post (A : Asm) (E : Env) (base : Nat) (w0 : World) (x : Ex) (g : Fr) : Exit → Act → World → Prop := fun e a w => e = toExit x ∧ ∃ E', E.le E' ∧ Rel A E' base w0 g a w
theorem Post.mono {E F : Env} (h : E.le F) {x : Ex} {g : Fr} {e : Exit} {a : Act} {w : World} (hp : Post A F base w0 x g e a w) : Post A E base w0 x g e a w := by
  obtain ⟨he, E', hle, hr⟩ := hp
  exact ⟨he, E', Env.le_trans h hle, hr⟩
theorem exec_ok (hm : P.follows .mixedOrders = true) {cf : CallF} (hcf : CallOK P A base w0 cf) : ∀ (k : Nat) (c : Code) (f : Fr) (x : Ex) (g : Fr), exec P A cf k c f = some (x, g) → ∀ E a w, Rel A E base w0 f a w → c.wp P (Post A E base w0 x g) a w := by
  intro k0
  induction k0 using Nat.strongRecOn with
  | _ k0 ih0 =>
  intro c f x g h E a w hr
  cases k0 with
  | zero => simp [exec] at h
  | succ k =>
    have ih := ih0 k (Nat.lt_succ_self k)
    cases c with
    | skip =>
      simp only [exec, Option.some.injEq, Prod.mk.injEq] at h
      obtain ⟨rfl, rfl⟩ := h
      exact wp_skip ⟨rfl, E, Env.le_refl E, hr⟩
    | region id ops draw =>
      cases draw with
      | false =>
        simp only [exec] at h
        obtain ⟨g', hg, he⟩ := Option.map_eq_some_iff.1 h
        cases he
        refine wp_region ?_
        rw [List.range_eq_range']
        refine runOps_ok hcf (E0 := E) (base := base) (w0 := w0) (g := g) (fun E' a' w' hle hr' => ⟨rfl, E', hle, hr'⟩) ops.size 0 f E a w (by omega) (by simpa using hg) (Env.le_refl E) hr
      | true =>
        simp only [exec] at h
        obtain ⟨g', hg, he⟩ := Option.map_eq_some_iff.1 h
        cases he
        unfold drawn at hg
        split at hg
        · rename_i hns
          split at hg
          · rename_i l1 g1 hlv
            split at hg
            · rename_i hend
              cases hg
              refine wp_region_any hm ?_
              refine levels_ok hcf hns (E0 := E) (base := base) (w0 := w0) (g := g1) (l1 := l1) ?_ (by simpa using hend) ?_ ops.size _ hlv (Array.replicate ops.size false) f (by simp) E a _ (Env.le_refl E) ?_
              · rintro c a w ⟨he, _⟩; cases he
              · intro E' a' w' hle hr'; exact ⟨rfl, E', hle, hr'⟩
              · exact ⟨hr.1, hr.2.1, hr.2.2.1.drew, hr.2.2.2⟩
            · cases hg
          · cases hg
        · cases hg
    | seq p q =>
      simp only [exec] at h
      split at h
      · rename_i f1 h1
        refine wp_seq (wp_mono (ih p f _ _ h1 E a w hr) ?_)
        rintro e a' w' ⟨rfl, E', hle, hr'⟩
        exact wp_mono (ih q f1 _ _ h E' a' w' hr') (fun e a w hp => Post.mono hle hp)
      · rename_i hne
        refine wp_seq (wp_mono (ih p f x g h E a w hr) ?_)
        rintro e a' w' ⟨rfl, E', hle, hr'⟩
        cases x with
        | normal => exact absurd h (hne g)
        | exit id => exact ⟨rfl, E', hle, hr'⟩
        | ret => exact ⟨rfl, E', hle, hr'⟩
    | cond c p q =>
      simp only [exec] at h
      split at h
      · rename_i hc
        have hv := ev_ok hr.1 hc
        simp only [VR] at hv
        exact wp_cond_true hv (ih p f x g h E a w hr)
      · rename_i hc
        have hv := ev_ok hr.1 hc
        simp only [VR] at hv
        exact wp_cond_false hv (ih q f x g h E a w hr)
      · cases h
    | block id p =>
      simp only [exec] at h
      split at h
      · rename_i i f1 h1
        split at h
        · rename_i hid
          cases h
          simp only [Nat.beq_eq] at hid
          subst hid
          refine wp_block (wp_mono (ih p f _ _ h1 E a w hr) ?_)
          rintro e a' w' ⟨rfl, E', hle, hr'⟩
          simp only [toExit, Exit.inBlock, if_true]
          exact ⟨rfl, E', hle, hr'⟩
        · rename_i hid
          cases h
          simp only [Nat.beq_eq] at hid
          refine wp_block (wp_mono (ih p f _ _ h1 E a w hr) ?_)
          rintro e a' w' ⟨rfl, E', hle, hr'⟩
          simp only [toExit, Exit.inBlock, if_neg hid]
          exact ⟨rfl, E', hle, hr'⟩
      · rename_i hne
        refine wp_block (wp_mono (ih p f x g h E a w hr) ?_)
        rintro e a' w' ⟨rfl, E', hle, hr'⟩
        cases x with
        | normal => exact ⟨rfl, E', hle, hr'⟩
        | exit i => exact absurd h (hne i g)
        | ret => exact ⟨rfl, E', hle, hr'⟩
    | loop p =>
      refine wp_loop_fuel (fun n a w => n ≤ k + 1 ∧ ∃ f1 E1, E.le E1 ∧ Rel A E1 base w0 f1 a w ∧ exec P A cf n (.loop p) f1 = some (x, g)) ?_ (n := k + 1) ⟨Nat.le_refl _, f, E, Env.le_refl E, hr, h⟩
      rintro n a w ⟨hn, f1, E1, hle1, hr1, h1⟩
      cases n with
      | zero => simp [exec] at h1
      | succ n =>
        simp only [exec] at h1
        have ihp := ih0 n (by omega)
        split at h1
        · rename_i f2 h2
          refine wp_mono (ihp p f1 _ _ h2 E1 a w hr1) ?_
          rintro e a' w' ⟨rfl, E', hle, hr'⟩
          exact ⟨n, Nat.lt_succ_self n, by omega, f2, E', Env.le_trans hle1 hle, hr', h1⟩
        · rename_i hne
          refine wp_mono (ihp p f1 x g h1 E1 a w hr1) ?_
          rintro e a' w' ⟨rfl, E', hle, hr'⟩
          cases x with
          | normal => exact absurd h1 (hne g)
          | exit id => exact ⟨rfl, E', Env.le_trans hle1 hle, hr'⟩
          | ret => exact ⟨rfl, E', Env.le_trans hle1 hle, hr'⟩
    | exit id =>
      simp only [exec, Option.some.injEq, Prod.mk.injEq] at h
      obtain ⟨rfl, rfl⟩ := h
      exact wp_exit ⟨rfl, E, Env.le_refl E, hr⟩
    | ret =>
      simp only [exec, Option.some.injEq, Prod.mk.injEq] at h
      obtain ⟨rfl, rfl⟩ := h
      exact wp_ret ⟨rfl, E, Env.le_refl E, hr⟩
    | rangeFunc f ps x y => simp [exec] at h
    | scope p => simp [exec] at h
    | label l => simp [exec] at h
    | goto l => simp [exec] at h
    | refuse y => simp [exec] at h
end Go.Proofs.YtmpheeanjjfddaaDoor.AM
