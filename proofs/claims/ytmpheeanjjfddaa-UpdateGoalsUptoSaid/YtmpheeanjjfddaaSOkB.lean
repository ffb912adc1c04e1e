/- Regions that draw their order: the machine's order stands for each. -/
import Derived.Test.YtmpheeanjjfddaaSOkA
namespace Go.Proofs.Ytmpheeanjjfddaa.SM
open Go Go.RowKit
set_option linter.unusedVariables false
set_option linter.unusedSimpArgs false
variable {X : Cx} {P : Program} {E : Env} {tm : Tm} {a : Act} {o : Oper} {v : V} {base : Nat} {w0 w : World} {H : Hp}

/-- Where an operation has left its value. -/
def stp (a : Act) (ds : List Deferred) (d : Option Tmp) (v : Value) : Act := { a with defers := ds ++ a.defers }.put d v
theorem stp_defers (a : Act) (ds : List Deferred) (d : Option Tmp) (v : Value) : (stp a ds d v).defers = ds ++ a.defers := by cases d <;> rfl
theorem stp_size (a : Act) (ds : List Deferred) (d : Option Tmp) (v : Value) : (stp a ds d v).tmps.size = a.tmps.size := by cases d <;> simp [stp, Act.put]
theorem stp_tmps (a : Act) (ds : List Deferred) (d : Option Tmp) (v : Value) (t : Tmp) : (stp a ds d v).tmps[t]? = if d = some t then (if t < a.tmps.size then some v else none) else a.tmps[t]? := by
  cases d with
  | none => simp [stp, Act.put]
  | some d =>
    simp only [stp, Act.put, Array.getElem?_setIfInBounds, Option.some.injEq]
    split
    · rename_i h; subst h; rfl
    · rfl
theorem put_get (tm : Tm) (d : Option Tmp) (v : V) (t : Tmp) : (put tm d v).getD t .any = if d = some t then (if t < tm.length then v else .any) else tm.getD t .any := by
  cases d with
  | none => simp [put]
  | some d =>
    simp only [put, List.getD, List.getElem?_set, Option.some.injEq]
    split
    · rename_i h; subst h; split <;> simp_all
    · rfl
/-- An operation, where the temporaries that it looks at are known. -/
theorem step_ok2 {ops : Array Oper} {i : Nat} (hi : ops[i]? = some o) (hs : ∀ cs b, o.op ≠ .select cs b) {f : Fr} {K : Fr → Prop} {Xp : V → Hp → Prop} {b : Act} (htm : TR E f.tm b) (hag : Agree ops o a b) (hW : WR E X.base X.w0 f.H w) (h : stepE X ops.toList o f K Xp) {Kc : Act → World → Prop} {Q : Exit → Act → World → Prop}
    (hK : ∀ D ds dsV v J cv w', K ⟨put f.tm o.dst v, J, dsV ++ f.df⟩ → E.le D → DR D dsV ds → VR D v cv → WR D X.base X.w0 J w' → Kc (stp a ds o.dst cv) w')
    (hQ : ∀ D w' v cv J, Xp v J → E.le D → VR D v cv → WR D X.base X.w0 J w' → Q (.panic [{ v := cv, recovered := false }]) a w') : wpOp X.P ops Q i Kc a w := by
  unfold stepE at h
  unfold wpOp
  simp only [hi]
  rcases guard_ok h with ⟨h, hw⟩ | ⟨h, hw⟩
  · have hw := hw E b htm
    rw [hag.wanted] at hw
    rw [if_pos hw]
    refine .inl ?_
    unfold Oper.wp
    rw [← hag.exec hs]
    have gen : opE X f.tm o f.H (fun v J => K ⟨put f.tm o.dst v, J, f.df⟩) Xp → o.upon X.P a Kc Q ((execOp b.eval o).run X.P w) := by
      intro h
      have hO := opE_ok htm hW h
      cases hres : (execOp b.eval o).run X.P w with
      | ok n w' =>
        rw [hres] at hO
        cases n <;> simp only [Out] at hO <;> simp only [Oper.upon]
        case value cv => obtain ⟨v, J, D, hk, hle, hv, hWD⟩ := hO; exact hK D [] [] _ _ _ _ hk hle rfl hv hWD
        case skip => obtain ⟨v, J, D, hk, hle, hv, hWD⟩ := hO; exact hK D [] [] _ _ _ _ hk hle rfl hv hWD
        case enter g cargs =>
          refine hO.mono ?_
          rintro e w'' ⟨r, J, D, hk, hle, hWD, hr⟩
          cases r with
          | ret v =>
            obtain ⟨cv, rfl, hv⟩ := hr
            exact hK D [] [] _ _ _ _ hk hle rfl hv hWD
          | pan v =>
            obtain ⟨cv, rfl, hv⟩ := hr
            exact hQ D _ _ _ _ hk hle hv hWD
        all_goals exact hO.elim
      | halt x w' =>
        rw [hres] at hO
        cases x <;> simp only [Out] at hO <;> simp only [Oper.upon]
        case panic cv => obtain ⟨v, J, D, hk, hle, hv, hWD⟩ := hO; exact hQ D _ _ _ _ hk hle hv hWD
        all_goals exact hO.elim
    split at h
    · rename_i g args at_ hop
      have hv := ev_ok htm g
      cases hf : ev f.tm g <;> rw [hf] at h hv <;> simp only [funcE] at h
      rename_i gf as' cs'
      simp only [VR] at hv
      obtain ⟨a', c', he, h1, h2⟩ := hv
      split at h
      · have hrun : (execOp b.eval o).run X.P w = .ok (.defer ⟨.fn (.func gf) c', a' ++ args.map b.eval⟩) w := by
          simp only [execOp, hop, resolve, he, Deferred.ofValue, Sem.run_bind, Sem.run_pure, Result.andThen_ok]
        rw [hrun]
        simp only [Oper.upon]
        refine hK E [⟨.fn (.func gf) c', a' ++ args.map b.eval⟩] [(gf, as' ++ args.toList.map (ev f.tm) ++ cs')] (.tuple []) f.H undef w (by simpa using h) (Env.le_refl E) ?_ VR_undef hW
        exact ⟨_, _, c', rfl, rfl, by simpa using VRs_append (VRs_append h1 (by simpa using evs_ok htm args.toList)) h2, rfl⟩
      · exact h.elim
    · exact gen h
  · have hw := hw E b htm
    rw [hag.wanted] at hw
    rw [if_neg (by rw [hw]; simp)]
    exact hK E [] [] (.tuple []) _ undef _ (by simpa using h) (Env.le_refl E) rfl VR_undef hW
theorem DR_append {r : List (FuncId × List V)} {m : List Deferred} (k : DR E r m) : ∀ {l : List (FuncId × List V)} {n : List Deferred}, DR E l n → DR E (l ++ r) (n ++ m)
  | [], n, h => by simp only [DR] at h; subst h; exact k
  | (f, vs) :: l, n, h => by
    obtain ⟨d, m', cap, rfl, h1, h2, h3⟩ := h
    exact ⟨d, m' ++ m, cap, rfl, h1, h2, DR_append k h3⟩
theorem putT_len (tm : Tm) (d : Option Tmp) (v : V) : (put tm d v).length = tm.length := by cases d <;> simp [put]
theorem fill_tmps : ∀ (tm : List V) (l : List Value) (M : Nat → Prop), l.length = tm.length → (∀ t, ¬ M t → VR E (tm.getD t .any) (l.getD t undef)) → (∀ t, ∃ cv, VR E (tm.getD t .any) cv) → ∃ m, m.length = l.length ∧ VRs E tm m ∧ ∀ t, ¬ M t → m[t]? = l[t]?
  | [], [], M, _, _, _ => ⟨[], rfl, VRs_nil, fun _ _ => rfl⟩
  | v :: tm, x :: l, M, hl, h1, h2 => by
    obtain ⟨m, hm1, hm2, hm3⟩ := fill_tmps tm l (fun t => M (t + 1)) (by simpa using hl) (fun t ht => by simpa using h1 (t + 1) ht) (fun t => by simpa using h2 (t + 1))
    rcases Classical.em (M 0) with h0 | h0
    · obtain ⟨cv, hcv⟩ := h2 0
      refine ⟨cv :: m, by simp [hm1], VRs_cons (by simpa using hcv) hm2, fun t ht => ?_⟩
      cases t with
      | zero => exact absurd h0 ht
      | succ t => simpa using hm3 t ht
    · refine ⟨x :: m, by simp [hm1], VRs_cons (by simpa using h1 0 h0) hm2, fun t ht => ?_⟩
      cases t with
      | zero => rfl
      | succ t => simpa using hm3 t ht
  | [], _ :: _, _, hl, _, _ => by simp at hl
  | _ :: _, [], _, hl, _, _ => by simp at hl
/-- Of the temporaries that an operation looks at something is told: so of all. -/
theorem fill_act {M : Nat → Prop} (hl : a.tmps.size = tm.length) (h1 : ∀ t, ¬ M t → VR E (tm.getD t .any) (a.tmps.toList.getD t undef)) (h2 : ∀ t, ∃ cv, VR E (tm.getD t .any) cv) : ∃ b : Act, TR E tm b ∧ ∀ t, ¬ M t → b.tmps[t]? = a.tmps[t]? := by
  obtain ⟨m, hm1, hm2, hm3⟩ := fill_tmps tm a.tmps.toList M (by simpa using hl) h1 h2
  exact ⟨{ a with tmps := m.toArray }, hm2, fun t ht => by simpa using hm3 t ht⟩
/-- An operation may come up when it likes: it yields this. -/
def Good (X : Cx) (ops : Array Oper) (E : Env) (o : Oper) (tm : Tm) (y : V) (Φ : Hp → Prop) : Prop :=
  ∀ (E' : Env) (H' : Hp) (w' : World) (a' : Act), E.le E' → WR E' X.base X.w0 H' w' → Φ H' → a'.tmps.size = tm.length → (∀ t ∈ o.looksAt ops, VR E' (tm.getD t .any) (a'.tmps.toList.getD t undef)) →
    ∃ cv, VR E' y cv ∧ ((Region.wanted o (yielded ops a'.tmps) = true ∧ (execOp a'.eval o).run X.P w' = .ok (.value cv) w') ∨ (Region.wanted o (yielded ops a'.tmps) = false ∧ cv = undef))
theorem Good.mono {ops : Array Oper} {y : V} {Φ : Hp → Prop} {D : Env} (hle : E.le D) (h : Good X ops E o tm y Φ) : Good X ops D o tm y Φ :=
  fun E' H' w' a' hl => h E' H' w' a' (Env.le_trans hle hl)
theorem Good.congr {ops : Array Oper} {y : V} {Φ : Hp → Prop} {tm' : Tm} (h : Good X ops E o tm y Φ) (hl : tm'.length = tm.length) (hg : ∀ t ∈ o.looksAt ops, tm'.getD t .any = tm.getD t .any) : Good X ops E o tm' y Φ :=
  fun E' H' w' a' hle hW hΦ hsz hlk => h E' H' w' a' hle hW hΦ (by omega) (fun t ht => by rw [← hg t ht]; exact hlk t ht)
theorem Good.weak {ops : Array Oper} {y z : V} {Φ : Hp → Prop} (h : Good X ops E o tm y Φ) (hz : z = y ∨ z = .any) : Good X ops E o tm z Φ := by
  intro E' H' w' a' hle hW hΦ hsz hlk
  obtain ⟨cv, hv, hr⟩ := h E' H' w' a' hle hW hΦ hsz hlk
  refine ⟨cv, ?_, hr⟩
  rcases hz with rfl | rfl
  · exact hv
  · simp only [VR]
theorem Good.run {ops : Array Oper} {i : Nat} {y : V} {Φ : Hp → Prop} (hi : ops[i]? = some o) (h : Good X ops E o tm y Φ) (hW : WR E X.base X.w0 H w) (hΦ : Φ H) (hsz : a.tmps.size = tm.length) (hlk : ∀ t ∈ o.looksAt ops, VR E (tm.getD t .any) (a.tmps.toList.getD t undef))
    {Kc : Act → World → Prop} {Q : Exit → Act → World → Prop} (hK : ∀ cv, VR E y cv → Kc (a.put o.dst cv) w) : wpOp X.P ops Q i Kc a w := by
  obtain ⟨cv, hv, hr⟩ := h E H w a (Env.le_refl E) hW hΦ hsz hlk
  unfold wpOp
  simp only [hi]
  rcases hr with ⟨hw, hr⟩ | ⟨hw, rfl⟩
  · rw [if_pos hw]
    refine .inl ?_
    simp only [Oper.wp, hr, Oper.upon]
    exact hK cv hv
  · rw [if_neg (by rw [hw]; simp)]
    exact hK undef hv
/-- An operation that waits for nobody. -/
theorem eag_ok {ops : Array Oper} (hs : ∀ cs b, o.op ≠ .select cs b) {i : Nat} {f : Fr} {pend : Pend} {K : Tm → V → Pend → Prop} {N : Tm → Prop} (hp : ((isPure X.P o && isFixed o) || isRead X.P o) = true) (htm : TR E f.tm a) (hW : WR E X.base X.w0 f.H w)
    (h : guardE ops.toList f.tm o (fun tm => eagE X tm o f.H i pend (K tm)) N) :
    (N f.tm ∧ Good X ops E o f.tm (.tuple []) fun _ => True) ∨ ∃ v p Φ, K f.tm v p ∧ (∃ cv, VR E v cv) ∧ Good X ops E o f.tm v Φ ∧ ((p = pend ∧ ∀ H, Φ H) ∨ (p = (i, Φ) :: pend ∧ Φ f.H)) := by
  have val : ∀ t, ∃ cv, VR E (f.tm.getD t .any) cv := fun t => ⟨_, VRs_getD htm t⟩
  have same : ∀ (E' : Env) (a' : Act), E.le E' → a'.tmps.size = f.tm.length → (∀ t ∈ o.looksAt ops, VR E' (f.tm.getD t .any) (a'.tmps.toList.getD t undef)) → ∃ b, TR E' f.tm b ∧ Agree ops o a' b := by
    intro E' a' hle hsz hlk
    obtain ⟨b, hb, hag⟩ := fill_act (M := fun t => t ∉ o.looksAt ops) hsz (fun t ht => hlk t (Classical.not_not.1 ht)) (fun t => by obtain ⟨cv, hv⟩ := val t; exact ⟨cv, VR_mono hle _ _ hv⟩)
    exact ⟨b, hb, fun t ht => hag t (Classical.not_not.2 ht)⟩
  rcases guard_ok h with ⟨h, hw⟩ | ⟨h, hw⟩
  · right
    unfold eagE at h
    split at h
    · rename_i hpu
      have hfx : isFixed o = true := by
        rw [hpu] at hp
        cases hf : isFixed o with
        | true => rfl
        | false =>
          rw [hf] at hp
          have hrd : isRead X.P o = true := by simpa using hp
          obtain ⟨dst, op, type, pos, after, guard⟩ := o
          cases op <;> first | (simp [isRead] at hrd; done) | (simp [isFixed] at hf; done)
      obtain ⟨v, h, hl⟩ := pureE_det hfx _ h
      have hl := hl (fun u => u = v) rfl
      obtain ⟨v', hv', cv, hv, _⟩ := pureE_ok htm hpu hl
      subst hv'
      refine ⟨v', pend, fun _ => True, h, ⟨cv, hv⟩, ?_, .inl ⟨rfl, fun _ => trivial⟩⟩
      intro E' H' w' a' hle hW' hΦ' hsz hlk
      obtain ⟨b, hb, hag⟩ := same E' a' hle hsz hlk
      obtain ⟨u, hu, cv', hv2, hr⟩ := pureE_ok hb hpu hl
      subst hu
      exact ⟨cv', hv2, .inl ⟨by rw [← hag.wanted]; exact hw E' b hb, by rw [← hag.exec hs]; exact hr w'⟩⟩
    · rename_i hpu
      have hpu : isPure X.P o = false := by simpa using hpu
      have hrd : isRead X.P o = true := by rw [hpu] at hp; simpa using hp
      obtain ⟨v, h, hΦ, cv, hv, _⟩ := read_ok htm hW hrd h
      refine ⟨v, _, _, h, ⟨cv, hv⟩, ?_, .inr ⟨rfl, hΦ⟩⟩
      intro E' H' w' a' hle hW' hΦ' hsz hlk
      obtain ⟨b, hb, hag⟩ := same E' a' hle hsz hlk
      obtain ⟨v', hv', _, cv', hv2, hr⟩ := read_ok hb hW' hrd hΦ'
      subst hv'
      exact ⟨cv', hv2, .inl ⟨by rw [← hag.wanted]; exact hw E' b hb, by rw [← hag.exec hs]; exact hr⟩⟩
  · left
    refine ⟨h, ?_⟩
    intro E' H' w' a' hle hW' _ hsz hlk
    obtain ⟨b, hb, hag⟩ := same E' a' hle hsz hlk
    exact ⟨undef, VR_undef, .inr ⟨by rw [← hag.wanted]; exact hw E' b hb, rfl⟩⟩

theorem pickEager_ok {ops : Array Oper} {i : Nat} : ∀ (rs : List Nat), pickEager P ops rs = some i → i ∈ rs ∧ ∃ o, ops[i]? = some o ∧ ((isPure P o && isFixed o) || isRead P o) = true
  | [], h => by simp [pickEager] at h
  | j :: r, h => by
    simp only [pickEager] at h
    split at h
    · rename_i o ho
      split at h
      · rename_i hc
        cases h
        exact ⟨by simp, o, ho, hc⟩
      · obtain ⟨h1, h2⟩ := pickEager_ok r h
        exact ⟨List.mem_cons_of_mem _ h1, h2⟩
    · obtain ⟨h1, h2⟩ := pickEager_ok r h
      exact ⟨List.mem_cons_of_mem _ h1, h2⟩
theorem stabsE_ok : ∀ {p : Pend} {H : Hp} {A : Prop}, stabsE p H A → A ∧ ∀ x ∈ p, x.2 H
  | [], H, A, h => ⟨h, fun x hx => by cases hx⟩
  | q :: r, H, A, h => by
    obtain ⟨h1, h2⟩ := stabsE_ok h.2
    refine ⟨h1, fun x hx => ?_⟩
    rcases List.mem_cons.1 hx with rfl | hx
    · exact h.1
    · exact h2 x hx
theorem dropP_mem {m : List Nat} {x : Nat × (Hp → Prop)} : ∀ {p : Pend}, x ∈ p → x.1 ∉ m → x ∈ dropP m p
  | [], hx, _ => by cases hx
  | q :: r, hx, hn => by
    unfold dropP
    rcases List.mem_cons.1 hx with rfl | hx
    · split
      · rename_i hb; exact absurd (memB_iff.1 hb) hn
      · exact List.mem_cons_self ..
    · split
      · exact dropP_mem hx hn
      · exact List.mem_cons_of_mem _ (dropP_mem hx hn)
def dV (tm : Tm) (d : Option Tmp) : V := match d with
  | some d => tm.getD d .any
  | none => .any
/-- The machine is ahead: what it has listed and the run has not yet is good whenever it comes up. -/
structure Inv (X : Cx) (ops : Array Oper) (A L : Array Bool) (pend : Pend) (F : Fr) (E : Env) (a : Act) (w : World) : Prop where
  sA : A.size = ops.size
  sL : L.size = ops.size
  sub : ∀ i, On A i → On L i
  cA : Shut ops A
  cL : Shut ops L
  len : a.tmps.size = F.tm.length
  tmps : ∀ t, (∀ e o, On L e → ¬ On A e → ops[e]? = some o → o.dst ≠ some t) → VR E (F.tm.getD t .any) (a.tmps.toList.getD t undef)
  ex : ∀ t, ∃ cv, VR E (F.tm.getD t .any) cv
  df : DR E F.df a.defers
  wr : WR E X.base X.w0 F.H w
  good : ∀ e o, On L e → ¬ On A e → ops[e]? = some o → ∃ Φ : Hp → Prop, ((∀ H, Φ H) ∨ (Φ F.H ∧ (e, Φ) ∈ pend)) ∧ Good X ops E o F.tm (dV F.tm o.dst) Φ
variable {ops : Array Oper} {A L : Array Bool} {pend : Pend} {F : Fr}
/-- What an operation that may come up looks at is there. -/
theorem Inv.looks (hn : Neat ops) (h : Inv X ops A L pend F E a w) {i : Nat} (hi : ops[i]? = some o) (hr : ∀ k ∈ afters ops i, On A k) : ∀ t ∈ o.looksAt ops, ∀ e x, On L e → ¬ On A e → ops[e]? = some x → x.dst ≠ some t :=
  fun t ht e x _ hA hx hd => hA (reach_on h.cA hr e (hn.look i e o x t hi hx hd ht))
/-- The run does what the machine has done already. -/
theorem Inv.late (hn : Neat ops) (h : Inv X ops A L pend F E a w) {i : Nat} (hi : ops[i]? = some o) (hL : On L i) (hA : ¬ On A i) (hr : ∀ k ∈ afters ops i, On A k) {Kc : Act → World → Prop} {Q : Exit → Act → World → Prop}
    (hK : ∀ a', Inv X ops (A.setIfInBounds i true) L pend F E a' w → Kc a' w) : wpOp X.P ops Q i Kc a w := by
  obtain ⟨Φ, hΦ, hg⟩ := h.good i o hL hA hi
  have hΦ' : Φ F.H := hΦ.elim (fun g => g _) (fun g => g.1)
  refine hg.run hi h.wr hΦ' h.len (fun t ht => h.tmps t (h.looks hn hi hr t ht)) fun cv hcv => hK _ ?_
  have hlt : i < A.size := by rw [h.sA]; exact (Array.getElem?_eq_some_iff.1 hi).1
  refine ⟨by simp [h.sA], h.sL, fun j hj => ?_, h.cA.set hr, h.cL, ?_, fun t ht => ?_, h.ex, ?_, h.wr, fun e x heL heA hx => h.good e x heL (fun h' => heA h'.set) hx⟩
  · rcases hj.inv with rfl | hj
    · exact hL
    · exact h.sub j hj
  · have := stp_size a [] o.dst cv
    rw [show a.put o.dst cv = stp a [] o.dst cv from rfl, this]; exact h.len
  · have e1 := stp_tmps a [] o.dst cv t
    have e2 : (a.put o.dst cv).tmps.toList.getD t undef = ((stp a [] o.dst cv).tmps[t]?).getD undef := by simp [List.getD, stp]
    rw [e2, e1]
    by_cases hd : o.dst = some t
    · rw [if_pos hd]
      rw [hd] at hcv
      simp only [dV] at hcv
      by_cases hlt' : t < a.tmps.size
      · rw [if_pos hlt']; exact hcv
      · rw [if_neg hlt']
        have : F.tm.getD t .any = .any := by
          simp only [List.getD]
          rw [List.getElem?_eq_none (by rw [← h.len]; exact Nat.le_of_not_lt hlt')]
          rfl
        rw [this]; simp only [VR]
    · rw [if_neg hd]
      have := h.tmps t (fun e x heL heA hx hxd => by
        by_cases hei : e = i
        · subst hei
          rw [hi] at hx; cases hx
          exact hd hxd
        · exact ht e x heL (fun h' => h'.inv.elim (fun g => hei g) (fun g => heA g)) hx hxd)
      simpa [List.getD] using this
  · rw [show a.put o.dst cv = stp a [] o.dst cv from rfl, stp_defers]; exact h.df
/-- The machine goes ahead. -/
theorem Inv.ahead (hn : Neat ops) (h : Inv X ops A L pend F E a w) {i : Nat} (hi : ops[i]? = some o) (hL : ¬ On L i) (hr : ∀ k ∈ afters ops i, On L k) {v : V} {p : Pend} {Φ : Hp → Prop} (hv : ∃ cv, VR E v cv) (hg : Good X ops E o F.tm v Φ) (hp : (p = pend ∧ ∀ H, Φ H) ∨ (p = (i, Φ) :: pend ∧ Φ F.H)) :
    Inv X ops A (L.setIfInBounds i true) p ⟨put F.tm o.dst v, F.H, F.df⟩ E a w := by
  have hlt : i < L.size := by rw [h.sL]; exact (Array.getElem?_eq_some_iff.1 hi).1
  have hAi : ¬ On A i := fun h' => hL (h.sub i h')
  refine ⟨h.sA, by simp [h.sL], fun j hj => (h.sub j hj).set, h.cA, h.cL.set hr, by rw [putT_len]; exact h.len, fun t ht => ?_, fun t => ?_, h.df, h.wr, fun e x heL heA hx => ?_⟩
  · have hd : o.dst ≠ some t := ht i o (On.self hlt) hAi hi
    simp only [put_get, if_neg hd]
    exact h.tmps t fun e x heL heA hx => ht e x heL.set heA hx
  · simp only [put_get]
    split
    · split
      · exact hv
      · exact ⟨undef, by simp only [VR]⟩
    · exact h.ex t
  · rcases heL.inv with rfl | heL
    · rw [hi] at hx; cases hx
      refine ⟨Φ, ?_, ?_⟩
      · rcases hp with ⟨_, hΦ⟩ | ⟨rfl, hΦ⟩
        · exact .inl hΦ
        · exact .inr ⟨hΦ, List.mem_cons_self ..⟩
      · refine (hg.congr (tm' := put F.tm o.dst v) (putT_len ..) ?_).weak ?_
        · intro t ht
          rw [put_get, if_neg]
          intro hd
          exact hL (reach_on h.cL hr e (hn.look e e o o t hi hi hd ht))
        · unfold dV
          cases hd : o.dst with
          | none => exact .inr rfl
          | some d =>
            show (put F.tm (some d) v).getD d .any = v ∨ (put F.tm (some d) v).getD d .any = .any
            rw [put_get, if_pos rfl]
            split
            · exact .inl rfl
            · exact .inr rfl
    · obtain ⟨Ψ, hΨ, hG⟩ := h.good e x heL heA hx
      refine ⟨Ψ, ?_, ?_⟩
      · rcases hΨ with hΨ | ⟨h1, h2⟩
        · exact .inl hΨ
        · refine .inr ⟨h1, ?_⟩
          rcases hp with ⟨rfl, _⟩ | ⟨rfl, _⟩
          · exact h2
          · exact List.mem_cons_of_mem _ h2
      · have hei : e ≠ i := fun h' => hL (h' ▸ heL)
        refine (hG.congr (tm' := put F.tm o.dst v) (putT_len ..) ?_).weak (.inl ?_)
        · intro t ht
          rw [put_get, if_neg]
          intro hd
          exact hL (reach_on h.cL (fun k hk => h.cL e heL k hk) i (hn.look e i x o t hx hi hd ht))
        · unfold dV
          cases hd : x.dst with
          | none => rfl
          | some d =>
            simp only
            rw [put_get, if_neg]
            intro ho
            exact hei (hn.one e i x o d hx hi hd ho)
/-- Both go on. -/
theorem Inv.both (hn : Neat ops) (hns : Region.noSelect ops = true) (h : Inv X ops A L pend F E a w) {i : Nat} (hi : ops[i]? = some o) (hL : ¬ On L i) (hr : ∀ k ∈ afters ops i, On A k) {K : Fr → Prop} {Xp : V → Hp → Prop}
    (hs : stepE X ops.toList o F (fun g => stabsE (dropP (reach ops i) pend) g.H (K g)) Xp) {Kc : Act → World → Prop} {Q : Exit → Act → World → Prop}
    (hK : ∀ D a' w' g, K g → E.le D → Inv X ops (A.setIfInBounds i true) (L.setIfInBounds i true) (dropP (reach ops i) pend) g D a' w' → Kc a' w')
    (hQ : ∀ D w' v cv J, Xp v J → E.le D → VR D v cv → WR D X.base X.w0 J w' → Q (.panic [{ v := cv, recovered := false }]) a w') : wpOp X.P ops Q i Kc a w := by
  have hltA : i < A.size := by rw [h.sA]; exact (Array.getElem?_eq_some_iff.1 hi).1
  have hltL : i < L.size := by rw [h.sL]; exact (Array.getElem?_eq_some_iff.1 hi).1
  obtain ⟨b, htb, hag⟩ := fill_act (M := fun t => ∃ e x, On L e ∧ ¬ On A e ∧ ops[e]? = some x ∧ x.dst = some t) h.len (fun t ht => h.tmps t fun e x h1 h2 h3 h4 => ht ⟨e, x, h1, h2, h3, h4⟩) h.ex
  refine step_ok2 hi (Region.noSelect_spec hns i o · · hi) htb (fun t ht => hag t ?_) h.wr hs ?_ hQ
  · rintro ⟨e, x, h1, h2, h3, h4⟩
    exact h.looks hn hi hr t ht e x h1 h2 h3 h4
  · intro D ds dsV v J cv w' hk hle hds hv hW
    obtain ⟨hk, hst⟩ := stabsE_ok hk
    refine hK D _ w' _ hk hle ?_
    refine ⟨by simp [h.sA], by simp [h.sL], fun j hj => ?_, h.cA.set hr, h.cL.set (fun k hk => h.sub k (hr k hk)), ?_, fun t ht => ?_, fun t => ?_, ?_, hW, fun e x heL heA hx => ?_⟩
    · rcases hj.inv with rfl | hj
      · exact On.self hltL
      · exact (h.sub j hj).set
    · rw [stp_size, putT_len]; exact h.len
    · have e2 : (stp a ds o.dst cv).tmps.toList.getD t undef = ((stp a ds o.dst cv).tmps[t]?).getD undef := by simp [List.getD]
      rw [e2, stp_tmps]
      simp only [put_get]
      by_cases hd : o.dst = some t
      · rw [if_pos hd, if_pos hd]
        by_cases hlt : t < a.tmps.size
        · rw [if_pos hlt, if_pos (by rw [← h.len]; exact hlt)]; exact hv
        · rw [if_neg hlt, if_neg (by rw [← h.len]; exact hlt)]; simp only [VR]
      · rw [if_neg hd, if_neg hd]
        have := h.tmps t (fun e x heL heA hx hxd => by
          by_cases hei : e = i
          · exact hL (hei ▸ heL)
          · exact ht e x heL.set (fun h' => h'.inv.elim (fun g => hei g) (fun g => heA g)) hx hxd)
        exact VR_mono hle _ _ (by simpa [List.getD] using this)
    · simp only [put_get]
      split
      · split
        · exact ⟨cv, hv⟩
        · exact ⟨undef, by simp only [VR]⟩
      · obtain ⟨c, hc⟩ := h.ex t
        exact ⟨c, VR_mono hle _ _ hc⟩
    · rw [stp_defers]
      exact DR_append (DR_mono hle _ _ h.df) hds
    · have hei : e ≠ i := by rintro rfl; exact heA (On.self hltA)
      have heL' : On L e := heL.inv.elim (fun g => absurd g hei) (fun g => g)
      have heA' : ¬ On A e := fun h' => heA h'.set
      obtain ⟨Φ, hΦ, hG⟩ := h.good e x heL' heA' hx
      have hne : e ∉ reach ops i := fun h' => heA' (reach_on h.cA hr e h')
      refine ⟨Φ, ?_, ?_⟩
      · rcases hΦ with hΦ | ⟨_, hm⟩
        · exact .inl hΦ
        · have := dropP_mem (m := reach ops i) hm hne
          exact .inr ⟨hst _ this, this⟩
      · refine (((hG.mono hle).congr (tm' := put F.tm o.dst v) (putT_len ..) ?_).weak (.inl ?_))
        · intro t ht
          rw [put_get, if_neg]
          intro hd
          exact hL (reach_on h.cL (fun k hk => h.cL e heL' k hk) i (hn.look e i x o t hx hi hd ht))
        · unfold dV
          cases hd : x.dst with
          | none => rfl
          | some d =>
            simp only
            rw [put_get, if_neg]
            intro ho
            exact hei (hn.one e i x o d hx hi hd ho)
theorem anyE2_done {Xp : Fr → V → Hp → Prop} {K : Fr → Prop} (hr : Region.ready .any ops L = []) : ∀ {n : Nat}, anyE2 X ops Xp n L pend F K → K F
  | 0, h => by simp only [anyE2, hr] at h; exact h
  | n + 1, h => by simp only [anyE2, hr] at h; exact h
theorem VRs_of_get : ∀ (tm : List V) (l : List Value), l.length = tm.length → (∀ t, VR E (tm.getD t .any) (l.getD t undef)) → VRs E tm l
  | [], [], _, _ => VRs_nil
  | v :: tm, x :: l, hl, h => VRs_cons (by simpa using h 0) (VRs_of_get tm l (by simpa using hl) fun t => by simpa using h (t + 1))
  | [], _ :: _, hl, _ => by simp at hl
  | _ :: _, [], hl, _ => by simp at hl
theorem Inv.done (hn : Neat ops) (h : Inv X ops A L pend F E a w) (hr : Region.ready .any ops A = []) : Region.ready .any ops L = [] ∧ Rel X E F a w := by
  have hA := all_on hn h.sA hr
  refine ⟨ready_nil h.sL fun i hi => h.sub i (hA i hi), VRs_of_get _ _ (by simpa using h.len) fun t => h.tmps t fun e x _ heA hx => absurd (hA e (Array.getElem?_eq_some_iff.1 hx).1) heA, h.df, h.wr⟩
theorem PA.of_size {Q : Pp} {E' D : Env} {v : V} {cv : Value} {J : Hp} {w' : World} (hl : a.tmps.size = F.tm.length) (hd : DR E' F.df a.defers) (h : panQ Q F v J) (hle : E'.le D) (hv : VR D v cv) (hW : WR D X.base X.w0 J w') : PA X E' Q (.panic [{ v := cv, recovered := false }]) a w' := by
  refine .inr ⟨v, cv, J, F.df, D, ?_, hle, hv, DR_mono hle _ _ hd, hW, rfl⟩
  rw [hl]; exact h
theorem sim (hn : Neat ops) (hns : Region.noSelect ops = true) {Q : Pp} {E0 : Env} : ∀ (nA n : Nat) (A L : Array Bool) (pend : Pend) (F : Fr) (E : Env) (a : Act) (w : World), Inv X ops A L pend F E a w → offs A ≤ nA → anyE2 X ops (panQ Q) n L pend F (fun g => Q .normal g) → E0.le E → wpAny X.P .any ops (PA X E0 Q) nA A a w
  | 0, n, A, L, pend, F, E, a, w, hI, ho, h, hle => by
    have hr : Region.ready .any ops A = [] := ready_nil hI.sA fun i hi => offs_zero (Nat.le_zero.1 ho) i (by rw [hI.sA]; exact hi)
    obtain ⟨hrL, hrel⟩ := hI.done hn hr
    exact ⟨hr, .inl ⟨rfl, F, E, anyE2_done hrL h, hle, hrel⟩⟩
  | nA + 1, n, A, L, pend, F, E, a, w, hI, ho, h, hle => by
    have ih := sim hn hns (Q := Q) (E0 := E0) nA
    refine ⟨fun hr => ?_, fun i hi => ?_⟩
    · obtain ⟨hrL, hrel⟩ := hI.done hn hr
      exact .inl ⟨rfl, F, E, anyE2_done hrL h, hle, hrel⟩
    · obtain ⟨hA, hlt, hr⟩ := (ready_iff hI.sA).1 hi
      have hoi : ops[i]? = some ops[i] := Array.getElem?_eq_getElem hlt
      have hoff : offs (A.setIfInBounds i true) ≤ nA := by
        have := offs_set (by rw [hI.sA]; exact hlt) hA
        omega
      induction n generalizing L pend F with
      | zero =>
        by_cases hL : On L i
        · exact hI.late hn hoi hL hA hr fun a' hI' => ih 0 _ _ _ _ _ _ _ hI' hoff h hle
        · exfalso
          have : i ∈ Region.ready .any ops L := (ready_iff hI.sL).2 ⟨hL, hlt, fun k hk => hI.sub k (hr k hk)⟩
          simp only [anyE2] at h
          split at h
          · rename_i h0; rw [h0] at this; cases this
          · exact h
      | succ n ihn =>
        by_cases hL : On L i
        · exact hI.late hn hoi hL hA hr fun a' hI' => ih (n + 1) _ _ _ _ _ _ _ hI' hoff h hle
        · have hmem : i ∈ Region.ready .any ops L := (ready_iff hI.sL).2 ⟨hL, hlt, fun k hk => hI.sub k (hr k hk)⟩
          simp only [anyE2] at h
          split at h
          · rename_i h0; rw [h0] at hmem; cases hmem
          · rename_i i0 r0 hrd
            split at h
            · rename_i j hpk
              obtain ⟨hj, o, hoj, hp⟩ := pickEager_ok _ hpk
              rw [← hrd] at hj
              obtain ⟨hjL, hjlt, hjr⟩ := (ready_iff hI.sL).1 hj
              rw [hoj] at h
              simp only [optP_some] at h
              obtain ⟨b, htb, _⟩ := fill_act (M := fun t => ∃ e x, On L e ∧ ¬ On A e ∧ ops[e]? = some x ∧ x.dst = some t) hI.len (fun t ht => hI.tmps t fun e x h1 h2 h3 h4 => ht ⟨e, x, h1, h2, h3, h4⟩) hI.ex
              rcases eag_ok (K := fun tm v p => anyE2 X ops (panQ Q) n (L.setIfInBounds j true) p ⟨put tm o.dst v, F.H, F.df⟩ fun g => Q .normal g) (N := fun tm => anyE2 X ops (panQ Q) n (L.setIfInBounds j true) pend ⟨put tm o.dst (.tuple []), F.H, F.df⟩ fun g => Q .normal g) (Region.noSelect_spec hns j o · · hoj) hp htb hI.wr h with ⟨h, hg⟩ | ⟨v, p, Φ, h, hv, hg, hp⟩
              · exact ihn _ _ _ (hI.ahead hn hoj hjL hjr ⟨undef, VR_undef⟩ hg (.inl ⟨rfl, fun _ => trivial⟩)) h
              · exact ihn _ _ _ (hI.ahead hn hoj hjL hjr hv hg hp) h
            · have h := allE_mem h i (by rw [← hrd]; exact hmem)
              rw [hoi] at h
              simp only [optP_some] at h
              refine hI.both hn hns hoi hL hr h ?_ ?_
              · intro D a' w' g hk hle' hI'
                exact ih n _ _ _ _ _ _ _ hI' hoff hk (Env.le_trans hle hle')
              · intro D w' v cv J hx hle' hv hW
                exact PA.mono hle (PA.of_size hI.len hI.df hx hle' hv hW)
/-- A neat region that draws its order. -/
theorem anyE2_ok (hn : neat ops = true) (hns : Region.noSelect ops = true) {Q : Pp} {E0 : Env} {f : Fr} (h : anyE2 X ops (panQ Q) ops.size (Array.replicate ops.size false) [] f fun g => Q .normal g) (hle : E0.le E) (hr : Rel X E f a w) : wpAny X.P .any ops (PA X E0 Q) ops.size (Array.replicate ops.size false) a w := by
  have hno : ∀ i, ¬ On (Array.replicate ops.size false) i := by
    intro i hi
    have := hi.lt
    unfold On at hi
    simp at this
    simp [this] at hi
  have hlen := VRs_length _ _ hr.1
  refine sim (neat_ok hn) hns _ _ _ _ _ _ _ _ _ ⟨by simp, by simp, fun i hi => hi, fun i hi => absurd hi (hno i), fun i hi => absurd hi (hno i), by simpa using hlen, fun t _ => VRs_getD hr.1 t, fun t => ⟨_, VRs_getD hr.1 t⟩, hr.2.1, hr.2.2, fun e o he => absurd he (hno e)⟩ ?_ h hle
  unfold offs
  simp
end Go.Proofs.Ytmpheeanjjfddaa.SM
