/- Code and calls answer so. -/
import Derived.Test.YtmpheeanjjfddaaSOkB
namespace Go.Proofs.Ytmpheeanjjfddaa.SM
open Go Go.RowKit
set_option linter.unusedVariables false
set_option linter.unusedSimpArgs false
variable {X : Cx} {P : Program} {E : Env} {tm : Tm} {a : Act} {o : Oper} {v : V} {base : Nat} {w0 w : World} {H : Hp}

theorem keepT_ok (ks : List Nat) : ∀ (i : Nat) (tm : Tm) (l : List Value), VRs E tm l → VRs E (keepT ks i tm) l
  | _, [], l, h => h
  | i, v :: r, l, h => by
    simp only [VRs] at h
    obtain ⟨x, m, rfl, h1, h2⟩ := h
    simp only [keepT]
    refine VRs_cons ?_ (keepT_ok ks (i + 1) r m h2)
    split
    · exact h1
    · simp only [VR]
theorem Aw.keep {c : Code} {f : Fr} {Q : Pp} (ks : List Nat) (h : Aw X c ⟨keepT ks 0 f.tm, f.H, f.df⟩ Q) : Aw X c f Q :=
  fun E a w hr => h E a w ⟨keepT_ok ks 0 _ _ hr.1, hr.2.1, hr.2.2⟩
theorem Al.keep {c : Code} {f : Fr} {Q : Pp} (ks : List Nat) (h : Al X c ⟨keepT ks 0 f.tm, f.H, f.df⟩ Q) : Al X c f Q :=
  fun E a w hr => h E a w ⟨keepT_ok ks 0 _ _ hr.1, hr.2.1, hr.2.2⟩
theorem Al.loop {c : Code} {f : Fr} {Q : Pp} (h : Al X c f Q) : Aw X (.loop c) f Q := by
  intro E a w hr b k cs
  obtain ⟨e, a', w', hq, harr⟩ := h E a w hr b k cs
  exact ⟨e, a', w', hq, .of_steps (.one step_loop) harr⟩
theorem Pst.mono' {E D : Env} (hle : E.le D) {Q : Pp} {e : Exit} {a : Act} {w : World} (h : Pst X D Q e a w) : Pst X E Q e a w := by
  obtain ⟨x, g, F, h, hl, hr, he⟩ := h
  exact ⟨x, g, F, h, Env.le_trans hle hl, hr, he⟩
theorem Aw.mono {c : Code} {f : Fr} {Q R : Pp} (h : Aw X c f Q) (k : ∀ x g, Q x g → R x g) : Aw X c f R := by
  intro E a w hr
  refine wp_mono (h E a w hr) ?_
  rintro e a' w' ⟨x, g, D, hq, rest⟩
  exact ⟨x, g, D, k x g hq, rest⟩
theorem ExR.normal {D : Env} {e : Exit} : ExR D .normal e ↔ e = .normal := Iff.rfl
theorem Aw.seq {c d : Code} {f : Fr} {Q : Pp} {k : Fr → Prop} (h : Aw X c f (kSeq k Q)) (hk : ∀ g, k g → Aw X d g Q) : Aw X (.seq c d) f Q := by
  intro E a w hr
  refine wp_seq (wp_mono (h E a w hr) ?_)
  rintro e a' w' ⟨x, g, D, hq, hle, hr', he⟩
  cases x with
  | normal =>
    obtain rfl := ExR.normal.1 he
    exact wp_mono (hk g hq D a' w' hr') (fun e a w hp => Pst.mono' hle hp)
  | exit id => obtain rfl : e = .exit id := he; exact ⟨.exit id, g, D, hq, hle, hr', rfl⟩
  | ret => obtain rfl : e = .ret := he; exact ⟨.ret, g, D, hq, hle, hr', rfl⟩
  | pan v => obtain ⟨cv, rfl, hv⟩ := he; exact ⟨.pan v, g, D, hq, hle, hr', cv, rfl, hv⟩
theorem Aw.block {id : Nat} {c : Code} {f : Fr} {Q : Pp} (h : Aw X c f (kBlock id Q)) : Aw X (.block id c) f Q := by
  intro E a w hr
  refine wp_block (wp_mono (h E a w hr) ?_)
  rintro e a' w' ⟨x, g, D, hq, hle, hr', he⟩
  cases x with
  | normal => obtain rfl := ExR.normal.1 he; exact ⟨.normal, g, D, hq, hle, hr', rfl⟩
  | exit i =>
    obtain rfl : e = .exit i := he
    simp only [kBlock] at hq
    simp only [Exit.inBlock]
    split at hq
    · rename_i hb
      rw [if_pos (Nat.eq_of_beq_eq_true hb)]
      exact ⟨.normal, g, D, hq, hle, hr', rfl⟩
    · rename_i hb
      have hne : ¬ i = id := by rintro rfl; simp at hb
      rw [if_neg hne]
      exact ⟨.exit i, g, D, hq, hle, hr', rfl⟩
  | ret => obtain rfl : e = .ret := he; exact ⟨.ret, g, D, hq, hle, hr', rfl⟩
  | pan v => obtain ⟨cv, rfl, hv⟩ := he; exact ⟨.pan v, g, D, hq, hle, hr', cv, rfl, hv⟩
/-- A loop, one round. -/
theorem Al.round {c : Code} {f : Fr} {Q : Pp} (ks : List Nat) (h : Aw X c f (kLoop X ks c Q)) : Al X c f Q := by
  intro E a w hr b k cs
  obtain ⟨e, a₁, w₁, ⟨x, g, D, hq, hle, hr', he⟩, harr⟩ := h E a w hr b (.inLoop c :: k) cs
  cases x with
  | normal =>
    obtain rfl := ExR.normal.1 he
    have hq : Al X c g Q := Al.keep ks hq
    obtain ⟨e₂, a₂, w₂, hq₂, harr₂⟩ := hq D a₁ w₁ hr' b k cs
    exact ⟨e₂, a₂, w₂, Pst.mono' hle hq₂, .of_steps (Steps.trans harr (.one step_inLoop)) harr₂⟩
  | exit id =>
    obtain rfl : e = .exit id := he
    exact ⟨_, a₁, w₁, ⟨.exit id, g, D, hq, hle, hr', rfl⟩, .pass (x := .inLoop c) rfl (fun _ _ => .inl (by simp)) harr⟩
  | ret =>
    obtain rfl : e = .ret := he
    exact ⟨_, a₁, w₁, ⟨.ret, g, D, hq, hle, hr', rfl⟩, .pass (x := .inLoop c) rfl (fun _ _ => .inl (by simp)) harr⟩
  | pan v =>
    obtain ⟨cv, rfl, hv⟩ := he
    exact ⟨_, a₁, w₁, ⟨.pan v, g, D, hq, hle, hr', cv, rfl, hv⟩, .pass (x := .inLoop c) rfl (fun _ _ => .inl (by simp)) harr⟩
/-- What is told of code holds behind it. -/
theorem wpE_ok (hm : X.P.follows .mixedOrders = true) {pl pL : Plan} : ∀ (c : Code) (f : Fr) (Q : Pp), wpE X pl pL c f Q → Aw X c f Q
  | .skip, f, Q, h => fun E a w hr => wp_skip ⟨.normal, f, E, h, Env.le_refl E, hr, rfl⟩
  | .region id ops false, f, Q, h => fun E a w hr => by
    refine wp_mono (wp_region (Q := PA X E Q) ?_) (fun e a w hp => PA.pst hp)
    rw [List.range_eq_range']
    exact opsE_ok ops.size 0 f E a w (by omega) (by simpa [wpE] using h) (Env.le_refl E) hr
  | .region id ops true, f, Q, h => fun E a w hr => by
    simp only [wpE] at h
    split at h
    · rename_i hns
      refine wp_mono (wp_region_any (Q := PA X E Q) hm ?_) (fun e a w hp => PA.pst hp)
      split at h
      · rename_i hn
        exact anyE2_ok hn hns h (Env.le_refl E) ⟨hr.1, hr.2.1, hr.2.2.drew⟩
      · exact anyE_ok hns ops.size _ f E a _ h (Env.le_refl E) ⟨hr.1, hr.2.1, hr.2.2.drew⟩
    · exact h.elim
  | .seq b c, f, Q, h => by
    simp only [wpE, kS] at h
    refine Aw.seq (wpE_ok hm b f _ h) (fun g hg => ?_)
    unfold cutE at hg
    split at hg
    · exact wpE_ok hm c g Q hg
    · exact Aw.keep _ hg
  | .cond c x y, f, Q, h => fun E a w hr => by
    simp only [wpE] at h
    obtain ⟨b, he, _, h⟩ := boolE_ok h (ev_ok hr.1 c)
    have hset : ∀ b, a.eval c = .bool b → Rel X E (setB f c b) a w := by
      intro b he
      cases c with
      | tmp t =>
        refine ⟨TR_set (b := b) hr.1 ?_ rfl, hr.2.1, hr.2.2⟩
        simpa [Act.eval, Array.getD_eq_getD_getElem?, List.getD] using he
      | _ => exact hr
    cases b
    · exact wp_cond_false he (wpE_ok hm y _ Q h E a w (hset _ he))
    · exact wp_cond_true he (wpE_ok hm x _ Q h E a w (hset _ he))
  | .block id c, f, Q, h => Aw.block (wpE_ok hm c f _ h)
  | .loop c, f, Q, h => by
    simp only [wpE] at h
    obtain ⟨ks, _, h⟩ := (optP_iff _ _).1 h
    exact (Al.keep ks h).loop
  | .exit id, f, Q, h => fun E a w hr => wp_exit ⟨.exit id, f, E, h, Env.le_refl E, hr, rfl⟩
  | .ret, f, Q, h => fun E a w hr => wp_ret ⟨.ret, f, E, h, Env.le_refl E, hr, rfl⟩
  | .rangeFunc .., f, Q, h => h.elim
  | .scope _, f, Q, h => h.elim
  | .label _, f, Q, h => h.elim
  | .goto _, f, Q, h => h.elim
  | .refuse _, f, Q, h => h.elim
theorem resE_ok {tm : Tm} {tmps : Array Value} (F : ResultVar → Sem Value) (hF1 : ∀ t, F (.tmp t) = pure (tmps.getD t undef)) (hF2 : ∀ a t, F (.cell a t) = (do loadVar t (← asAddr (tmps.getD a undef)))) (htm : VRs E tm tmps.toList) (hW : WR E base w0 H w) :
    ∀ (l : List ResultVar) (K : List V → Prop), resE P tm H l K → ∃ vs, K vs ∧ ∃ cvs : List Value, VRs E vs cvs ∧ (l.mapM F).run P w = .ok cvs w
  | [], K, h => ⟨[], h, [], VRs_nil, by simp⟩
  | .tmp t :: l, K, h => by
    have hv := VRs_getD htm t
    obtain ⟨vs, h, cvs, h3, h4⟩ := resE_ok F hF1 hF2 htm hW l _ h
    refine ⟨_, h, tmps.toList.getD t undef :: cvs, VRs_cons hv h3, ?_⟩
    rw [List.mapM_cons]
    simp only [Sem.run_bind, hF1, Sem.run_pure, Result.andThen_ok, h4]
    simp [Array.getD_eq_getD_getElem?, List.getD]
  | .cell b t :: l, K, h => by
    have hv := VRs_getD htm b
    obtain ⟨v, h, cv, hcv, hr⟩ := ldT_ok (P := P) hW hv h
    have h := openE_ok h
    obtain ⟨vs, h, cvs, h3, h4⟩ := resE_ok F hF1 hF2 htm hW l _ h
    refine ⟨_, h, cv :: cvs, VRs_cons hcv h3, ?_⟩
    have e1 : tmps.getD b undef = tmps.toList.getD b undef := by simp [Array.getD_eq_getD_getElem?, List.getD]
    have hr2 : (F (.cell b t)).run P w = .ok cv w := by
      rw [hF2, e1]
      have : ∀ x : Value, (Instr.loadAt t x).run P w = .ok cv w → ((do loadVar t (← asAddr x) : Sem Value)).run P w = .ok cv w := by
        intro x hx
        cases x with
        | pointer p => cases p with
          | none => simp [Instr.loadAt, Instr.sureAddr, stuck, Sem.run] at hx
          | some p => simpa [Instr.loadAt, Instr.sureAddr, asAddr] using hx
        | _ => simp [Instr.loadAt, Instr.sureAddr, stuck, Sem.run] at hx
      exact this _ hr
    rw [List.mapM_cons]
    simp only [Sem.run_bind, hr2, Result.andThen_ok, h4, Sem.run_pure]
theorem retV_ok {vs : List V} {cvs : List Value} (h : VRs E vs cvs) : VR E (retV vs) (if hh : cvs.toArray.size = 1 then cvs.toArray[0] else .tuple cvs.toArray) := by
  match vs, h with
  | [], h =>
    simp only [VRs] at h; subst h
    simp only [retV]
    exact ⟨#[], rfl, VRs_nil⟩
  | [v], h =>
    simp only [VRs] at h
    obtain ⟨x, m, rfl, hv, rfl⟩ := h
    simpa [retV] using hv
  | v :: v' :: r, h =>
    have hl := VRs_length _ _ h
    simp only [retV]
    rw [dif_neg (by simp at hl ⊢; omega)]
    simp only [VR]
    exact ⟨_, rfl, by simpa using h⟩
theorem fin_ok {fn : Func} {f : Fr} {a' : Act} {w' : World} {D : Env} {Q : Rs → Hp → Prop} (hr : Rel X D f a' w') (h : resE X.P f.tm f.H fn.results.toList fun l => Q (.ret (retV l)) f.H) :
    ∃ v cv, Q (.ret v) f.H ∧ VR D v cv ∧ (results fn a'.tmps).run X.P w' = .ok cv w' := by
  obtain ⟨F, hF1, hF2, hres⟩ : ∃ F : ResultVar → Sem Value, (∀ t, F (.tmp t) = pure (a'.tmps.getD t undef)) ∧ (∀ b t, F (.cell b t) = (do loadVar t (← asAddr (a'.tmps.getD b undef)))) ∧
      results fn a'.tmps = (do let vs ← fn.results.mapM F; pure (if hh : vs.size = 1 then vs[0] else .tuple vs)) := by
    refine ⟨_, ?_, ?_, rfl⟩
    · intro t; rfl
    · intro b t; rfl
  obtain ⟨vs, h, cvs, hcvs, hrun⟩ := resE_ok (P := X.P) F hF1 hF2 hr.1 hr.2.2 _ _ h
  refine ⟨_, _, h, retV_ok hcvs, ?_⟩
  rw [hres]
  simp only [Sem.run_bind, Array.mapM_eq_mapM_toList, Sem.run_map, hrun, Result.andThen_ok, Sem.run_pure]
/-- A call of a function that defers nothing. -/
theorem Ac.enter (hm : X.P.follows .mixedOrders = true) {pl pL : Plan} {fid : FuncId} {fn : Func} {c : Code} (hf : X.P.funcs[fid]? = some fn) (hb : fn.body = some c) {args : List V} {Q : Rs → Hp → Prop}
    (h : wpE X pl pL c ⟨args ++ List.replicate (fn.ntmps - args.length) .any, H, []⟩ (kFin X.P fn.results.toList Q)) : Ac X fid args H Q := by
  intro E w cargs hW ha
  have hal := VRs_length _ _ ha
  have hal' : cargs.size = args.length := by simpa using hal
  have hr : Rel X E ⟨args ++ List.replicate (fn.ntmps - args.length) .any, H, []⟩ { tmps := cargs ++ Array.replicate (fn.ntmps - cargs.size) undef, defers := [] } w := by
    refine ⟨?_, rfl, hW⟩
    simp only [Array.toList_append, Array.toList_replicate, hal']
    refine VRs_append ha ?_
    have := VRs_anys (E := E) (List.replicate (fn.ntmps - args.length) undef)
    simpa using this
  refine calls_of_wp hf hb (wp_mono (wpE_ok hm c _ _ h E _ w hr) ?_)
  rintro e a' w' ⟨x, g, D, hq, hle, hr', he⟩
  have hdf : g.df = [] := by
    cases hd : g.df with
    | nil => rfl
    | cons d r => simp only [kFin, hd] at hq
  have hd : a'.defers = [] := by
    have := hr'.2.1
    rw [hdf] at this; exact this
  simp only [kFin, hdf] at hq
  cases x with
  | normal =>
    obtain rfl := ExR.normal.1 he
    obtain ⟨v, cv, hQ, hv, hrun⟩ := fin_ok hr' hq
    exact ⟨hd, cv, hrun, _, _, D, hQ, hle, hr'.2.2, cv, rfl, hv⟩
  | ret =>
    obtain rfl : e = .ret := he
    obtain ⟨v, cv, hQ, hv, hrun⟩ := fin_ok hr' hq
    exact ⟨hd, cv, hrun, _, _, D, hQ, hle, hr'.2.2, cv, rfl, hv⟩
  | exit id => exact hq.elim
  | pan v =>
    obtain ⟨cv, rfl, hv⟩ := he
    exact ⟨hd, _, _, D, hq, hle, hr'.2.2, cv, rfl, hv⟩
end Go.Proofs.Ytmpheeanjjfddaa.SM
