/- Regions and code answer so. -/
import Derived.Test.YtmpheeanjjfddaaSOk7
namespace Go.Proofs.Ytmpheeanjjfddaa.SM
open Go Go.RowKit
set_option linter.unusedVariables false
set_option linter.unusedSimpArgs false
variable {X : Cx} {P : Program} {E : Env} {tm : Tm} {a : Act} {o : Oper} {v : V} {base : Nat} {w0 w : World} {H : Hp}

theorem DR_mono {E D : Env} (h : E.le D) : ∀ (l : List (FuncId × List V)) (m : List Deferred), DR E l m → DR D l m
  | [], m, hm => hm
  | (f, vs) :: r, m, hm => by
    obtain ⟨d, m', cap, rfl, h1, h2, h3⟩ := hm
    exact ⟨d, m', cap, rfl, h1, VRs_mono h _ _ h2, DR_mono h r m' h3⟩
theorem Rel.mk' {E D : Env} {tm : Tm} {df : List (FuncId × List V)} (hle : E.le D) (htm : TR E tm a) (hd : DR E df a.defers) {d : Option Tmp} {v : V} {cv : Value} {J : Hp} (hv : VR D v cv) (hW : WR D X.base X.w0 J w) : Rel X D ⟨put tm d v, J, df⟩ (a.put d cv) w :=
  ⟨TR_put (VRs_mono hle _ _ htm) hv, by rw [show (a.put d cv).defers = a.defers by cases d <;> rfl]; exact DR_mono hle _ _ hd, hW⟩
/-- A temporary that is known to be a truth. -/
theorem TR_set (htm : TR E tm a) {t : Tmp} {x : V} {b : Bool} (hv : a.tmps.toList.getD t undef = .bool b) (hx : x = .bool b) : TR E (tm.set t x) a := by
  have h := VRs_set (E := E) t htm (a := x) (v := a.tmps.toList.getD t undef) (by rw [hv, hx]; exact VRb)
  have e : a.tmps.toList.set t (a.tmps.toList.getD t undef) = a.tmps.toList := by
    apply List.ext_getElem?
    intro i
    rw [List.getElem?_set]
    split
    · rename_i hi
      subst hi
      split
      · rename_i hl; simp [List.getD, List.getElem?_eq_getElem hl]
      · rename_i hl; rw [List.getElem?_eq_none (Nat.le_of_not_lt hl)]
    · rfl
  rw [e] at h; exact h
theorem wanted_ok {ops : Array Oper} (htm : TR E tm a) {A C : Tm → Prop} (h : guardE ops.toList tm o A C) : ∃ tm', TR E tm' a ∧ tm'.length = tm.length ∧ ((Region.wanted o (yielded ops a.tmps) = true ∧ A tm') ∨ (Region.wanted o (yielded ops a.tmps) = false ∧ C tm')) := by
  unfold guardE at h
  unfold Region.wanted
  cases hg : o.guard with
  | none => rw [hg] at h; exact ⟨tm, htm, rfl, .inl ⟨rfl, h⟩⟩
  | some jw =>
    obtain ⟨j, want⟩ := jw
    rw [hg] at h
    simp only at h ⊢
    unfold yielded
    simp only [Array.getElem?_toList] at h
    cases hd : (ops[j]?).bind (·.dst) with
    | none => rw [hd] at h; exact ⟨tm, htm, rfl, .inr ⟨by simp, h⟩⟩
    | some t =>
      rw [hd] at h
      simp only [Option.bind_some] at h ⊢
      have hv := VRs_getD htm t
      have e1 : a.tmps[t]? = some (a.tmps.toList.getD t undef) ∨ a.tmps[t]? = none := by
        by_cases ht : t < a.tmps.size
        · left; simp [List.getD, ht]
        · right; exact Array.getElem?_eq_none (Nat.le_of_not_lt ht)
      cases hx : tm.getD t .any <;> rw [hx] at h hv <;> (try exact h.elim)
      · simp only [VR] at hv
        rename_i b
        rcases e1 with e1 | e1
        · rw [e1, hv]
          simp only [cnd] at h
          cases hb : b == want
          · rw [hb] at h
            have hne : b ≠ want := by simpa using hb
            have hbw : b = !want := by cases b <;> cases want <;> simp at hne ⊢
            exact ⟨_, TR_set htm hv (by rw [hbw]), by simp, .inr ⟨by simp [hne], h⟩⟩
          · rw [hb] at h
            have he : b = want := by simpa using hb
            exact ⟨_, TR_set htm hv (by rw [he]), by simp, .inl ⟨by simp [he], h⟩⟩
        · have ht : ¬ t < a.tmps.size := by
            intro ht
            rw [Array.getElem?_eq_getElem ht] at e1; cases e1
          have : a.tmps.toList.getD t undef = undef := by simp [e1]
          rw [this] at hv; cases hv
      · simp only [VR] at hv
        obtain ⟨cs, he, _⟩ := hv
        refine ⟨tm, htm, rfl, .inr ⟨?_, h⟩⟩
        rcases e1 with e1 | e1
        · rw [e1, he]; simp
        · rw [e1]; simp
/-- What stands behind an operation: the frame, or a panic. -/
theorem step_ok {ops : Array Oper} {i : Nat} (hi : ops[i]? = some o) {f : Fr} {K : Fr → Prop} {Xp : V → Hp → Prop} (hr : Rel X E f a w) (h : stepE X ops.toList o f K Xp) {Kc : Act → World → Prop} {Q : Exit → Act → World → Prop}
    (hK : ∀ D a' w' g, K g → E.le D → Rel X D g a' w' → Kc a' w') (hQ : ∀ D w' v cv J, Xp v J → E.le D → VR D v cv → WR D X.base X.w0 J w' → Q (.panic [{ v := cv, recovered := false }]) a w') : wpOp X.P ops Q i Kc a w := by
  obtain ⟨htm, hd, hW⟩ := hr
  unfold stepE at h
  unfold wpOp
  simp only [hi]
  obtain ⟨tm, htm, _, h⟩ := wanted_ok (E := E) (tm := f.tm) htm h
  rcases h with ⟨hw, h⟩ | ⟨hw, h⟩
  · rw [if_pos hw]
    refine .inl ?_
    unfold Oper.wp
    have gen : opE X tm o f.H (fun v J => K ⟨put tm o.dst v, J, f.df⟩) Xp → o.upon X.P a Kc Q ((execOp a.eval o).run X.P w) := by
      intro h
      have hO := opE_ok htm hW h
      cases hres : (execOp a.eval o).run X.P w with
      | ok n w' =>
        rw [hres] at hO
        cases n <;> simp only [Out] at hO <;> simp only [Oper.upon]
        case value cv => obtain ⟨v, J, D, hk, hle, hv, hWD⟩ := hO; exact hK D _ _ _ hk hle (Rel.mk' hle htm hd hv hWD)
        case skip => obtain ⟨v, J, D, hk, hle, hv, hWD⟩ := hO; exact hK D _ _ _ hk hle (Rel.mk' hle htm hd hv hWD)
        case enter g cargs =>
          refine hO.mono ?_
          rintro e w'' ⟨r, J, D, hk, hle, hWD, hr⟩
          cases r with
          | ret v =>
            obtain ⟨cv, rfl, hv⟩ := hr
            exact hK D _ _ _ hk hle (Rel.mk' hle htm hd hv hWD)
          | pan v =>
            obtain ⟨cv, rfl, hv⟩ := hr
            exact hQ D _ _ _ _ hk hle hv hWD
        all_goals exact hO.elim
      | halt x w' =>
        rw [hres] at hO
        cases x <;> simp only [Out] at hO <;> simp only [Oper.upon]
        case panic cv => obtain ⟨v, J, D, hk, hle, hv, hWD⟩ := hO; exact hQ D _ _ _ _ hk hle hv hWD
        all_goals exact hO.elim
    split at h
    · rename_i g args at_ hop
      have hv := ev_ok htm g
      cases hf : ev tm g <;> rw [hf] at h hv <;> simp only [funcE] at h
      rename_i gf as' cs'
      simp only [VR] at hv
      obtain ⟨a', c', he, h1, h2⟩ := hv
      split at h
      · have hrun : (execOp a.eval o).run X.P w = .ok (.defer ⟨.fn (.func gf) c', a' ++ args.map a.eval⟩) w := by
          simp only [execOp, hop, resolve, he, Deferred.ofValue, Sem.run_bind, Sem.run_pure, Result.andThen_ok]
        rw [hrun]
        simp only [Oper.upon]
        refine hK E _ _ _ h (Env.le_refl E) ⟨?_, ?_, hW⟩
        · have htm' : TR E tm { a with defers := ⟨.fn (.func gf) c', a' ++ args.map a.eval⟩ :: a.defers } := htm
          exact TR_put htm' VR_undef
        · have e1 : ∀ (b : Act) d v, (b.put d v).defers = b.defers := by intro b d v; cases d <;> rfl
          rw [e1]
          exact ⟨_, _, c', rfl, rfl, by simpa using VRs_append (VRs_append h1 (by simpa using evs_ok htm args.toList)) h2, hd⟩
      · exact h.elim
    · exact gen h
  · rw [if_neg (by rw [hw]; simp)]
    exact hK E _ _ _ h (Env.le_refl E) (Rel.mk' (Env.le_refl E) htm hd VR_undef hW)
/-- The end of a region: a frame, or a panic, whose frame tells nothing of the temporaries. -/
def PA (X : Cx) (E : Env) (Q : Pp) : Exit → Act → World → Prop := fun e a w =>
  (e = .normal ∧ ∃ g D, Q .normal g ∧ E.le D ∧ Rel X D g a w) ∨
  (∃ v cv J df D, Q (.pan v) ⟨List.replicate a.tmps.size .any, J, df⟩ ∧ E.le D ∧ VR D v cv ∧ DR D df a.defers ∧ WR D X.base X.w0 J w ∧ e = .panic [{ v := cv, recovered := false }])
theorem PA.pst {Q : Pp} {e : Exit} {a : Act} {w : World} (h : PA X E Q e a w) : Pst X E Q e a w := by
  rcases h with ⟨rfl, g, D, h, hle, hr⟩ | ⟨v, cv, J, df, D, h, hle, hv, hd, hW, rfl⟩
  · exact ⟨.normal, g, D, h, hle, hr, rfl⟩
  · refine ⟨_, _, D, h, hle, ⟨?_, hd, hW⟩, cv, rfl, hv⟩
    have := VRs_anys (E := D) a.tmps.toList
    simpa using this
theorem put_size (a : Act) (d : Option Tmp) (v : Value) : (a.put d v).tmps.size = a.tmps.size := by cases d <;> simp [Act.put]
theorem put_defers (a : Act) (d : Option Tmp) (v : Value) : (a.put d v).defers = a.defers := by cases d <;> rfl
theorem PA.put {Q : Pp} {c : List PanicEntry} {a : Act} {w : World} {d : Option Tmp} {v : Value} (h : PA X E Q (.panic c) (a.put d v) w) : PA X E Q (.panic c) a w := by
  rcases h with ⟨h, _⟩ | ⟨v, cv, J, df, D, h, hle, hv, hd, hW, he⟩
  · cases h
  · exact .inr ⟨v, cv, J, df, D, by rw [put_size] at h; exact h, hle, hv, by rw [put_defers] at hd; exact hd, hW, he⟩
theorem PA.mono {E D : Env} (hle : E.le D) {Q : Pp} {e : Exit} {a : Act} {w : World} (h : PA X D Q e a w) : PA X E Q e a w := by
  rcases h with ⟨rfl, g, F, h, hl, hr⟩ | ⟨v, cv, J, df, F, h, hl, hv, hd, hW, rfl⟩
  · exact .inl ⟨rfl, g, F, h, Env.le_trans hle hl, hr⟩
  · exact .inr ⟨v, cv, J, df, F, h, Env.le_trans hle hl, hv, hd, hW, rfl⟩
theorem PA.pan {Q : Pp} {f : Fr} {D E' : Env} {v : V} {cv : Value} {J : Hp} {a' : Act} {w' : World} (hr : VRs E' f.tm a'.tmps.toList) (hdf : DR E' f.df a'.defers) (h : panQ Q f v J) (hle : E'.le D) (hv : VR D v cv) (hW : WR D X.base X.w0 J w') : PA X E' Q (.panic [{ v := cv, recovered := false }]) a' w' := by
  refine .inr ⟨v, cv, J, f.df, D, ?_, hle, hv, DR_mono hle _ _ hdf, hW, rfl⟩
  have hl := VRs_length _ _ hr
  simp at hl
  rw [hl]; exact h
theorem opsE_ok {ops : Array Oper} {Q : Pp} {E0 : Env} : ∀ (k i : Nat) (f : Fr) (E : Env) (a : Act) (w : World), i + k = ops.size → opsE X ops.toList (panQ Q) (ops.toList.drop i) f (fun g => Q .normal g) → E0.le E → Rel X E f a w → wpOps X.P ops (PA X E0 Q) (List.range' i k) a w
  | 0, i, f, E, a, w, hik, h, hle, hr => by
    rw [List.drop_of_length_le (by simp; omega)] at h
    exact .inl ⟨rfl, f, E, h, hle, hr⟩
  | k + 1, i, f, E, a, w, hik, h, hle, hr => by
    have hlt : i < ops.toList.length := by simp; omega
    rw [List.drop_eq_getElem_cons hlt] at h
    simp only [opsE] at h
    rw [List.range'_succ, wpOps_cons]
    refine step_ok (o := ops.toList[i]) (by rw [← Array.getElem?_toList]; exact List.getElem?_eq_getElem hlt) hr h ?_ ?_
    · intro D a' w' g hk hle' hr'
      exact opsE_ok k (i + 1) g D a' w' (by omega) hk (Env.le_trans hle hle') hr'
    · intro D w' v cv J hx hle' hv hW
      exact PA.mono hle (PA.pan hr.1 hr.2.1 hx hle' hv hW)
theorem allE_mem {G : Nat → Prop} : ∀ {l : List Nat}, allE G l → ∀ i ∈ l, G i
  | [], h, i, hi => by cases hi
  | [j], h, i, hi => by simp at hi; subst hi; exact h
  | j :: k :: r, h, i, hi => by
    simp only [allE] at h
    rcases List.mem_cons.1 hi with rfl | hi
    · exact h.1
    · exact allE_mem h.2 i hi
theorem pickPure_ok {ops : Array Oper} {l : Array Bool} {i : Nat} : ∀ (rs : List Nat), pickPure P ops l rs = some i → i ∈ rs ∧ ∃ o, ops[i]? = some o ∧ isPure P o = true ∧ Region.free .any ops l i = true
  | [], h => by simp [pickPure] at h
  | j :: r, h => by
    simp only [pickPure] at h
    split at h
    · rename_i o ho
      split at h
      · rename_i hc
        cases h
        simp only [Bool.and_eq_true] at hc
        exact ⟨by simp, o, ho, hc.1, hc.2⟩
      · obtain ⟨h1, h2⟩ := pickPure_ok r h
        exact ⟨List.mem_cons_of_mem _ h1, h2⟩
    · obtain ⟨h1, h2⟩ := pickPure_ok r h
      exact ⟨List.mem_cons_of_mem _ h1, h2⟩
theorem stepE_pure {ops : List Oper} {f : Fr} {K : Fr → Prop} {Xp : V → Hp → Prop} (hp : isPure X.P o = true) (h : stepE X ops o f K Xp) :
    guardE ops f.tm o (fun tm => pureE X.P tm o fun v => K ⟨put tm o.dst v, f.H, f.df⟩) (fun tm => K ⟨put tm o.dst (.tuple []), f.H, f.df⟩) := by
  unfold stepE at h
  have : ∀ {A B C : Tm → Prop}, (∀ tm, A tm → B tm) → guardE ops f.tm o A C → guardE ops f.tm o B C := by
    intro A B C hab hg
    unfold guardE at hg ⊢
    split at hg
    · exact hab _ hg
    · split at hg
      · exact hg
      · split at hg
        · unfold cnd at hg ⊢
          split at hg
          · exact hab _ hg
          · exact hg
        · exact hg
        · exact hg
  refine this (fun tm h => ?_) h
  split at h
  · rename_i hop
    unfold isPure at hp
    rw [hop] at hp
    cases hp
  · unfold opE at h
    rw [hp] at h
    exact h
theorem anyE_ok {ops : Array Oper} (hns : Region.noSelect ops = true) {Q : Pp} {E0 : Env} : ∀ (n : Nat) (l : Array Bool) (f : Fr) (E : Env) (a : Act) (w : World), anyE X ops (panQ Q) n l f (fun g => Q .normal g) → E0.le E → Rel X E f a w → wpAny X.P .any ops (PA X E0 Q) n l a w
  | 0, l, f, E, a, w, h, hle, hr => by
    simp only [anyE] at h
    split at h
    · rename_i hrd
      exact ⟨hrd, .inl ⟨rfl, f, E, h, hle, hr⟩⟩
    · exact h.elim
  | n + 1, l, f, E, a, w, h, hle, hr => by
    simp only [anyE] at h
    split at h
    · rename_i hrd
      exact wpAny_done hrd (.inl ⟨rfl, f, E, h, hle, hr⟩) (n + 1)
    · rename_i i0 r0 hrd
      split at h
      · rename_i i hpk
        obtain ⟨hi, o, ho, hp, hfree⟩ := pickPure_ok _ hpk
        rw [ho] at h
        simp only [optP_some] at h
        have h := stepE_pure hp h
        obtain ⟨htm, hd, hW⟩ := hr
        obtain ⟨tm, htm, _, h⟩ := wanted_ok (E := E) (tm := f.tm) htm h
        rcases h with ⟨hw, h⟩ | ⟨hw, h⟩
        · obtain ⟨v, h, cv, hv, hrun⟩ := pureE_ok htm hp h
          refine wpAny_take ho hns hfree (by rw [hrd]; simpa using hi) (fun c a w hq => PA.put hq) (.inl ⟨hw, hrun⟩) ?_
          exact anyE_ok hns n _ _ E _ w h hle (Rel.mk' (Env.le_refl E) htm hd hv hW)
        · refine wpAny_take ho hns hfree (by rw [hrd]; simpa using hi) (fun c a w hq => PA.put hq) (.inr ⟨hw, rfl⟩) ?_
          exact anyE_ok hns n _ _ E _ w h hle (Rel.mk' (Env.le_refl E) htm hd VR_undef hW)
      · refine wpAny_all hrd (by simp) ?_
        intro i hi
        have h := allE_mem h i hi
        obtain ⟨o, ho, h⟩ := (optP_iff _ _).1 h
        refine step_ok ho hr h ?_ ?_
        · intro D a' w' g hk hle' hr'
          exact anyE_ok hns n _ g D a' w' hk (Env.le_trans hle hle') hr'
        · intro D w' v cv J hx hle' hv hW
          exact PA.mono hle (PA.pan hr.1 hr.2.1 hx hle' hv hW)
end Go.Proofs.Ytmpheeanjjfddaa.SM
