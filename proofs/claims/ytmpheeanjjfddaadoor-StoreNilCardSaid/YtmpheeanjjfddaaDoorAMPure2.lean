/- The small machine's operations that look at no world answer as the model's do: comparisons, and all together. -/
import Derived.Test.YtmpheeanjjfddaaDoorAMPure
namespace Go.Proofs.YtmpheeanjjfddaaDoor.AM
open Go
set_option linter.unusedVariables false
set_option linter.unusedSimpArgs false
variable {P : Program} {E : Env} {tm : Tm} {a : Act} {o : Oper} {v : AV}

theorem intEq_eq (a b : Int) : intEq a b = (a == b) := by
  cases a <;> cases b <;> simp [intEq] <;> (rw [Bool.eq_iff_iff]; simp) <;> omega
theorem natsEq_iff : ∀ (a b : List Nat), natsEq a b = true ↔ a = b
  | [], [] => by simp [natsEq]
  | [], _ :: _ => by simp [natsEq]
  | _ :: _, [] => by simp [natsEq]
  | a :: r, b :: s => by simp [natsEq, natsEq_iff r s]
theorem ofNat_inj : ∀ (a b : List Nat), (∀ x ∈ a, x < 256) → (∀ x ∈ b, x < 256) → a.map UInt8.ofNat = b.map UInt8.ofNat → a = b
  | [], [], _, _, _ => rfl
  | [], _ :: _, _, _, h => by simp at h
  | _ :: _, [], _, _, h => by simp at h
  | a :: r, b :: s, ha, hb, h => by
    simp only [List.map_cons, List.cons.injEq] at h
    have h1 : a < 256 := ha a (by simp)
    have h2 : b < 256 := hb b (by simp)
    have e : a = b := by
      have := congrArg UInt8.toNat h.1
      simpa [UInt8.toNat_ofNat', Nat.mod_eq_of_lt h1, Nat.mod_eq_of_lt h2] using this
    rw [e, ofNat_inj r s (fun x hx => ha x (by simp [hx])) (fun x hx => hb x (by simp [hx])) h.2]
theorem BS_beq (a b : List Nat) (ha : ∀ x ∈ a, x < 256) (hb : ∀ x ∈ b, x < 256) : (BS a == BS b) = natsEq a b := by
  rw [Bool.eq_iff_iff, natsEq_iff]
  constructor
  · intro h
    have h' : ((a.map UInt8.ofNat).toArray == (b.map UInt8.ofNat).toArray) = true := h
    exact ofNat_inj a b ha hb (by simpa using eq_of_beq h')
  · rintro rfl
    show ((a.map UInt8.ofNat).toArray == (a.map UInt8.ofNat).toArray) = true
    simp
theorem ba_beq (a : ByteArray) : (a == a) = true := by show (a.data == a.data) = true; simp
theorem run_part1 {t : TypeId} {cs : Array Value} {off : Nat} {x : Value} (ha : isAggA P t = some false) (h : cs[off]? = some x) (w : World) : (part t cs off).run P w = .ok x w := by
  simp only [part, Sem.run_bind, run_isAgg ha, Result.andThen_ok, Bool.false_eq_true, if_false, h, Sem.run_pure]
theorem eqGo_ok {eq : TypeId → AV → AV → Option Bool} {d : Nat} (heq : ∀ t x y r cx cy, eq t x y = some r → VR E x cx → VR E y cy → ∀ w, (Op.equalIn d t cx cy).run P w = .ok r w)
    {xs ys : List AV} {cxs cys : Array Value} (hx : VRs E xs cxs.toList) (hy : VRs E ys cys.toList) :
    ∀ (fs : List Field) (r : Bool), eqGo P eq xs ys fs = some r → ∀ w, (Op.eqFields d cxs cys fs).run P w = .ok r w
  | [], r, h, w => by simp only [eqGo, Option.some.injEq] at h; subst h; simp [Op.eqFields]
  | f :: fs, r, h, w => by
    unfold eqGo at h
    split at h
    · rename_i hag
      split at h
      · rename_i x y hxo hyo
        obtain ⟨cx, hcx, hvx⟩ := VRs_get _ _ hx _ _ hxo
        obtain ⟨cy, hcy, hvy⟩ := VRs_get _ _ hy _ _ hyo
        split at h
        · cases h
        · rename_i hn
          simp only [Op.eqFields, ne_eq, hn, not_false_eq_true, if_true, Sem.run_bind, run_part1 hag (by simpa using hcx), run_part1 hag (by simpa using hcy), Result.andThen_ok]
          split at h
          · rename_i he
            simp only [heq _ _ _ _ _ _ he hvx hvy, Result.andThen_ok, Bool.not_true, Bool.false_eq_true, if_false]
            exact eqGo_ok heq hx hy fs r h w
          · rename_i he
            cases h
            simp only [heq _ _ _ _ _ _ he hvx hvy, Result.andThen_ok, Bool.not_false, if_true, Sem.run_pure]
          · cases h
      · cases h
    · cases h
theorem eqA_ok : ∀ (d : Nat) (t : TypeId) (x y : AV) (r : Bool) (cx cy : Value), eqA P d t x y = some r → VR E x cx → VR E y cy → ∀ k w, (Op.equalIn (d + k) t cx cy).run P w = .ok r w
  | 0, t, x, y, r, cx, cy, h, hx, hy, k, w => by simp [eqA] at h
  | d + 1, t, x, y, r, cx, cy, h, hx, hy, k, w => by
    unfold eqA at h
    rw [show d + 1 + k = (d + k) + 1 by omega]
    split at h
    · rename_i hu
      cases h
      simp only [VR] at hx hy
      subst hx hy
      simp [Op.equalIn, run_underlying hu]
    · rename_i hu
      simp only [VR] at hx hy
      subst hx hy
      split at h
      · rename_i hk
        cases h
        subst hk
        simp [Op.equalIn, run_underlying hu, intEq_eq]
      · cases h
    · rename_i hu
      cases h
      simp only [VR] at hx hy
      obtain ⟨rfl, hx⟩ := hx
      obtain ⟨rfl, hy⟩ := hy
      simp only [Op.equalIn, Sem.run_bind, run_underlying hu, Result.andThen_ok, Sem.run_pure, BS_beq _ _ hx hy]
    · rename_i hu
      simp only [VR] at hx hy
      subst hx hy
      split at h
      · rename_i hk
        cases h
        simp only [Nat.beq_eq] at hk
        subst hk
        simp only [Op.equalIn, Sem.run_bind, run_underlying hu, Result.andThen_ok, Sem.run_pure, ba_beq]
      · cases h
    · rename_i fields xs ys hu
      split at h
      · cases h
      · rename_i hst
        simp only [VR] at hx hy
        obtain ⟨cxs, rfl, hx⟩ := hx
        obtain ⟨cys, rfl, hy⟩ := hy
        have hf : P.fieldsOf t = fields := by simp [Program.fieldsOf, hu]
        rw [run_equalIn_struct w (d + k) t cxs cys (by rw [hf]; exact hu) (by simpa using hst), hf]
        exact eqGo_ok (fun t x y r cx cy he hvx hvy w => eqA_ok d t x y r cx cy he hvx hvy k w) hx hy _ _ h w
    · cases h

theorem nil_cases {t : TypeId} {x : AV} {r : Bool} (h : nilA P t x = some r) {cx : Value} (hx : VR E x cx) :
    (∃ e, P.underlying t = some (.pointer e) ∧ ((r = true ∧ cx = .pointer none ∧ x = .nilp) ∨ (r = false ∧ ∃ p, cx = .pointer (some p)))) ∨
    (∃ e, P.underlying t = some (.slice e) ∧ ((r = true ∧ cx = .slice none 0 0 ∧ x = .nilsl) ∨ (r = false ∧ ∃ p l c, cx = .slice (some p) l c))) ∨
    (∃ k e, P.underlying t = some (.map k e) ∧ ((r = true ∧ cx = .map none ∧ x = .nilmap) ∨ (r = false ∧ ∃ p, cx = .map (some p)))) ∨
    (∃ k e b, P.underlying t = some (.func k e b) ∧ ((r = true ∧ cx = .nilFunc ∧ x = .nilfunc) ∨ (r = false ∧ ∃ p l c, cx = .func p l c))) ∨
    (∃ e, P.underlying t = some (.interface e) ∧ ((r = true ∧ cx = .nilIface ∧ x = .niliface) ∨ (r = false ∧ ∃ p l, cx = .iface p l ∧ x ≠ .niliface))) := by
  unfold nilA at h
  split at h
  · rename_i e hu; cases h; simp only [VR] at hx; subst hx; exact .inl ⟨e, hu, .inl ⟨rfl, rfl, rfl⟩⟩
  · rename_i e n o hu; cases h; simp only [VR] at hx; obtain ⟨b, N, _, rfl⟩ := hx; exact .inl ⟨_, hu, .inr ⟨rfl, _, rfl⟩⟩
  · rename_i e hu; cases h; simp only [VR] at hx; subst hx; exact .inr (.inl ⟨e, hu, .inl ⟨rfl, rfl, rfl⟩⟩)
  · rename_i hu; cases h; simp only [VR] at hx; obtain ⟨b, N, rfl⟩ := hx; exact .inr (.inl ⟨_, hu, .inr ⟨rfl, _, _, _, rfl⟩⟩)
  · rename_i hu; cases h; simp only [VR] at hx; obtain ⟨b, N, c, _, rfl, _⟩ := hx; exact .inr (.inl ⟨_, hu, .inr ⟨rfl, _, _, _, rfl⟩⟩)
  · rename_i hu; cases h; simp only [VR] at hx; subst hx; exact .inr (.inr (.inl ⟨_, _, hu, .inl ⟨rfl, rfl, rfl⟩⟩))
  · rename_i hu; cases h; simp only [VR] at hx; obtain ⟨b, N, _, rfl⟩ := hx; exact .inr (.inr (.inl ⟨_, _, hu, .inr ⟨rfl, _, rfl⟩⟩))
  · rename_i hu; cases h; simp only [VR] at hx; subst hx; exact .inr (.inr (.inr (.inl ⟨_, _, _, hu, .inl ⟨rfl, rfl, rfl⟩⟩)))
  · rename_i hu; cases h; simp only [VR] at hx; obtain ⟨b, N, rfl, _⟩ := hx; exact .inr (.inr (.inr (.inl ⟨_, _, _, hu, .inr ⟨rfl, _, _, _, rfl⟩⟩)))
  · rename_i hu; cases h; simp only [VR] at hx; subst hx; exact .inr (.inr (.inr (.inr ⟨_, hu, .inl ⟨rfl, rfl, rfl⟩⟩)))
  · rename_i hu; cases h; simp only [VR] at hx; obtain ⟨x', rfl, _⟩ := hx; exact .inr (.inr (.inr (.inr ⟨_, hu, .inr ⟨rfl, _, _, rfl, by simp⟩⟩)))
  · cases h
/-- No number, no text. -/
def Plain : Value → Prop
  | .pointer _ | .slice .. | .map _ | .func .. | .nilFunc | .iface .. | .nilIface | .agg _ => True
  | _ => False
theorem bin_eql {t : TypeId} {x y : Value} {r : Bool} (h : Plain x) {w : World} (he : (Op.equal t x y).run P w = .ok r w) : (binOp .eql t x y).run P w = .ok (.bool r) w ∧ (binOp .neq t x y).run P w = .ok (.bool !r) w := by
  have e1 : binOp .eql t x y = (do pure (.bool (← Op.equal t x y))) := by cases x <;> first | exact h.elim | (cases y <;> rfl)
  have e2 : binOp .neq t x y = (do pure (.bool (!(← Op.equal t x y)))) := by cases x <;> first | exact h.elim | (cases y <;> rfl)
  rw [e1, e2]
  simp [he]
theorem eqi_ptr (d : Nat) {t e : TypeId} (hu : P.underlying t = some (.pointer e)) (p q : Option Addr) (h : p = none ∨ q = none) (w : World) : (Op.equalIn (d + 1) t (.pointer p) (.pointer q)).run P w = .ok (p.isNone && q.isNone) w := by
  cases p <;> cases q <;> simp at h <;> simp [Op.equalIn, run_underlying hu]
theorem eqi_pp (d : Nat) {t e : TypeId} {k : Nat} (hu : P.underlying t = some (.pointer e)) (hk : sizeA P e = some (k + 1)) (b o q : Nat) (w : World) : (Op.equalIn (d + 1) t (.pointer (some ⟨b, o, none⟩)) (.pointer (some ⟨b, q, none⟩))).run P w = .ok (Nat.beq o q) w := by
  have hbe : ((⟨b, o, none⟩ : Addr) == ⟨b, q, none⟩) = Nat.beq o q := by
    rw [Bool.eq_iff_iff]
    simp
  simp only [Op.equalIn, Sem.run_bind, run_underlying hu, Result.andThen_ok, run_sizeOf hk, ne_eq, Nat.add_one_ne_zero, not_false_eq_true, if_true, sameAddr, beq_self_eq_true, Sem.run_pure, hbe]
theorem eqi_sl (d : Nat) {t e : TypeId} (hu : P.underlying t = some (.slice e)) (p q : Option Addr) (l c l' c' : Nat) (h : p = none ∨ q = none) (w : World) : (Op.equalIn (d + 1) t (.slice p l c) (.slice q l' c')).run P w = .ok (p.isNone && q.isNone) w := by
  cases p <;> cases q <;> simp at h <;> simp [Op.equalIn, run_underlying hu]
theorem eqi_map (d : Nat) {t k e : TypeId} (hu : P.underlying t = some (.map k e)) (p q : Option Nat) (h : p = none ∨ q = none) (w : World) : (Op.equalIn (d + 1) t (.map p) (.map q)).run P w = .ok (p.isNone && q.isNone) w := by
  cases p <;> cases q <;> simp at h <;> simp [Op.equalIn, run_underlying hu]
theorem eqi_f0 (d : Nat) {t : TypeId} {k e : Array TypeId} {b : Bool} (hu : P.underlying t = some (.func k e b)) (w : World) : (Op.equalIn (d + 1) t .nilFunc .nilFunc).run P w = .ok true w := by simp [Op.equalIn, run_underlying hu]
theorem eqi_f1 (d : Nat) {t : TypeId} {k e : Array TypeId} {b : Bool} (hu : P.underlying t = some (.func k e b)) (f : Fn) (x y : Array Value) (w : World) : (Op.equalIn (d + 1) t .nilFunc (.func f x y)).run P w = .ok false w := by simp [Op.equalIn, run_underlying hu]
theorem eqi_f2 (d : Nat) {t : TypeId} {k e : Array TypeId} {b : Bool} (hu : P.underlying t = some (.func k e b)) (f : Fn) (x y : Array Value) (w : World) : (Op.equalIn (d + 1) t (.func f x y) .nilFunc).run P w = .ok false w := by simp [Op.equalIn, run_underlying hu]
theorem eqi_i0 (d : Nat) {t : TypeId} {e : Array (String × TypeId)} (hu : P.underlying t = some (.interface e)) (w : World) : (Op.equalIn (d + 1) t .nilIface .nilIface).run P w = .ok true w := by simp [Op.equalIn, run_underlying hu]
theorem eqi_i1 (d : Nat) {t : TypeId} {e : Array (String × TypeId)} (hu : P.underlying t = some (.interface e)) (u : TypeId) (x : Value) (w : World) : (Op.equalIn (d + 1) t .nilIface (.iface u x)).run P w = .ok false w := by simp [Op.equalIn, run_underlying hu]
theorem eqi_i2 (d : Nat) {t : TypeId} {e : Array (String × TypeId)} (hu : P.underlying t = some (.interface e)) (u : TypeId) (x : Value) (w : World) : (Op.equalIn (d + 1) t (.iface u x) .nilIface).run P w = .ok false w := by simp [Op.equalIn, run_underlying hu]
theorem equal_depth (t : TypeId) (x y : Value) : Op.equal t x y = Op.equalIn (9999 + 1) t x y := rfl
/-- What both comparisons come to. -/
def Same2 (P : Program) (t : TypeId) (x y : Operand) (cx cy : Value) (r : Bool) : Prop :=
  ∀ w, (∀ op, (eqGuard op t x y cx cy).run P w = .ok () w) ∧ (binOp .eql t cx cy).run P w = .ok (.bool r) w ∧ (binOp .neq t cx cy).run P w = .ok (.bool !r) w
theorem sameA_ok {t : TypeId} {x y : Operand} {b c : AV} {r : Bool} (h : sameA P t (litO x || litO y) b c = some r) {cb cc : Value} (hb : VR E b cb) (hc : VR E c cc) : Same2 P t x y cb cc r := by
  intro w
  unfold sameA at h
  split at h
  · -- two nil interface values
    split at h
    · rename_i hl
      simp only [VR] at hb hc
      subst hb hc
      unfold nilA at h
      split at h <;> simp_all
      rename_i hu
      have hl' : (∃ v, x = .const v) ∨ (∃ v, y = .const v) := by
        rcases hl with hl | hl
        · left; cases x <;> first | exact ⟨_, rfl⟩ | cases hl
        · right; cases y <;> first | exact ⟨_, rfl⟩ | cases hl
      refine ⟨fun op => ?_, ?_, ?_⟩
      · unfold eqGuard
        rcases hl' with ⟨v', rfl⟩ | ⟨v', rfl⟩ <;> cases op <;> simp
      all_goals
        have he : (Op.equal t .nilIface .nilIface).run P w = .ok true w := eqi_i0 9999 hu w
        have := bin_eql (P := P) (x := .nilIface) (y := .nilIface) trivial he
      · exact this.1
      · exact this.2
    · cases h
  · rename_i xs ys
    split at h
    · cases h
    · rename_i hg
      have hq := eqA_ok (E := E) 100 t _ _ r _ _ h hb hc 9900
      simp only [VR] at hb hc
      obtain ⟨cxs, rfl, hb⟩ := hb
      obtain ⟨cys, rfl, hc⟩ := hc
      have hq' : ∀ w, (Op.equal t (.agg cxs) (.agg cys)).run P w = .ok r w := hq
      have hg' : P.eqGuardType P.depth t = false := by simpa using hg
      refine ⟨fun op => ?_, ?_, ?_⟩
      · unfold eqGuard
        cases op <;> simp [hg']
      · exact (bin_eql (x := .agg cxs) trivial (hq' w)).1
      · exact (bin_eql (x := .agg cxs) trivial (hq' w)).2
  · rename_i i j
    by_cases hij : (Nat.beq i j && isStr P t) = true
    · rw [if_pos hij] at h
      cases h
      simp only [Bool.and_eq_true, Nat.beq_eq] at hij
      obtain ⟨rfl, hu⟩ := hij
      simp only [VR] at hb hc
      subst hb hc
      refine ⟨fun op => ?_, ?_, ?_⟩
      · unfold eqGuard
        cases op <;> simp
      · simp [binOp, Op.stringOp, ba_beq]
      · simp [binOp, Op.stringOp, ba_beq]
    · rw [if_neg hij] at h; cases h
  · rename_i n o m q
    split at h
    · rename_i e hu
      split at h
      · rename_i hnm
        simp only [Nat.beq_eq] at hnm
        subst hnm
        split at h
        · rename_i k hk
          cases h
          simp only [VR] at hb hc
          obtain ⟨b1, N1, hG1, rfl⟩ := hb
          obtain ⟨b2, N2, hG2, rfl⟩ := hc
          rw [hG1] at hG2
          cases hG2
          have he : (Op.equal t (.pointer (some ⟨b1, o, none⟩)) (.pointer (some ⟨b1, q, none⟩))).run P w = .ok (Nat.beq o q) w := eqi_pp 9999 hu hk b1 o q w
          refine ⟨fun op => ?_, (bin_eql (x := .pointer _) trivial he).1, (bin_eql (x := .pointer _) trivial he).2⟩
          unfold eqGuard
          cases op <;> simp
        · cases h
      · cases h
    · cases h
  · rename_i hne hag hsy hpp
    have key : ∀ (p q : Bool), nilA P t b = some p → nilA P t c = some q → (q = true ∧ r = p) ∨ (p = true ∧ r = q) → (p = true → q = true → (b ≠ .niliface ∨ c ≠ .niliface)) → ((∀ op, (eqGuard op t x y cb cc).run P w = .ok () w) ∧ (binOp .eql t cb cc).run P w = .ok (.bool r) w ∧ (binOp .neq t cb cc).run P w = .ok (.bool !r) w) := by
      intro p q hp hq hr hni
      rcases nil_cases hp hb with ⟨e, hu, h1⟩ | ⟨e, hu, h1⟩ | ⟨k, e, hu, h1⟩ | ⟨k, e, f, hu, h1⟩ | ⟨e, hu, h1⟩ <;>
      rcases nil_cases hq hc with ⟨e', hu', h2⟩ | ⟨e', hu', h2⟩ | ⟨k', e', hu', h2⟩ | ⟨k', e', f', hu', h2⟩ | ⟨e', hu', h2⟩ <;>
      (try (rw [hu] at hu'; cases hu'))
      all_goals
        rcases h1 with ⟨rfl, rfl, rfl⟩ | ⟨rfl, hh1⟩ <;> rcases h2 with ⟨rfl, rfl, rfl⟩ | ⟨rfl, hh2⟩ <;> simp at hr hni
      all_goals (first | (obtain ⟨p1, rfl⟩ := hh1) | (obtain ⟨p1, p2, p3, rfl⟩ := hh1) | (obtain ⟨p1, p2, rfl, _⟩ := hh1) | skip)
      all_goals (first | (obtain ⟨q1, rfl⟩ := hh2) | (obtain ⟨q1, q2, q3, rfl⟩ := hh2) | (obtain ⟨q1, q2, rfl, _⟩ := hh2) | skip)
      all_goals
        subst hr
        refine ⟨fun op => ?_, ?_, ?_⟩
        · unfold eqGuard; cases op <;> simp
        · refine (bin_eql ?_ ?_).1
          · exact trivial
          · first | exact eqi_ptr 9999 hu _ _ (by simp) w | exact eqi_sl 9999 hu _ _ _ _ _ _ (by simp) w | exact eqi_map 9999 hu _ _ (by simp) w | exact eqi_f0 9999 hu w | exact eqi_f1 9999 hu _ _ _ w | exact eqi_f2 9999 hu _ _ _ w | exact eqi_i0 9999 hu w | exact eqi_i1 9999 hu _ _ w | exact eqi_i2 9999 hu _ _ w
        · refine (bin_eql ?_ ?_).2
          · exact trivial
          · first | exact eqi_ptr 9999 hu _ _ (by simp) w | exact eqi_sl 9999 hu _ _ _ _ _ _ (by simp) w | exact eqi_map 9999 hu _ _ (by simp) w | exact eqi_f0 9999 hu w | exact eqi_f1 9999 hu _ _ _ w | exact eqi_f2 9999 hu _ _ _ w | exact eqi_i0 9999 hu w | exact eqi_i1 9999 hu _ _ w | exact eqi_i2 9999 hu _ _ w
    cases hp : nilA P t b with
    | none => rw [hp] at h; simp at h
    | some p =>
      cases hq : nilA P t c with
      | none => rw [hp, hq] at h; simp at h
      | some q =>
        rw [hp, hq] at h
        refine key p q hp hq ?_ ?_
        · cases p <;> cases q <;> simp at h ⊢ <;> simp [h]
        · intro _ _
          by_cases hb' : b = .niliface
          · right; intro hc'; subst hb' hc'; exact hne rfl rfl
          · exact .inl hb'
end Go.Proofs.YtmpheeanjjfddaaDoor.AM
