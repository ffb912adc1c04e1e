/- The program's path and Goals. -/
import Derived.Test.YtmpheeanjjfddaaUPrg3
namespace Go.Proofs.Ytmpheeanjjfddaa.S
open Go Go.RowKit Go.Proofs Go.Proofs.Ytmpheeanjjfddaa.SM Go.Proofs.Ytmpheeanjjfddaa.Upd
set_option linter.unusedVariables false
set_option linter.unusedSimpArgs false
set_option maxRecDepth 100000
section
variable {b : Nat} {w0 : World} {q n nL nW D : Nat} {H0 H : Hp} {χ0 χ : Nat → Nat}
theorem needs_spec (m : Nat) (hU : PathIH b w0 q n nL nW m) {p nm : Bs} {x : It} {s s' : Upd.St} {k : Nat} {ea : Bs} {c : List Bs} {vs : List V} {C : Nat} (hq : 0 < q) (hD : q + 7 ≤ D) (hx : x.needs.length + x.order.length ≤ 1000) (hv : NodeV p nm x vs) (h : PW H χ q n nL nW s) (hi : Upd.Inv C s) (hC : C + (x.needs.length + x.order.length) ≤ 1000) (hl : s.l.length ≤ 1000)
    (hn : needs m s p (todo' x) [] = some (s', k, ea, c)) : Ac (cx b w0) 70 [.ptr nW 0, .agg vs] H (NdQ q n nL nW D H χ s' k ea c) := by
  have hv0 := hv
  obtain ⟨nv, ov, rv, e1, e2, e3, rfl⟩ := hv
  refine update_work_needs.s b w0 _ _ _ _ _ _ _ _ _ _ H _ ?_
  refine newB D h.cl ?_
  intro an J1 ψ1 hB1 cl1 k1
  refine newB (D + 1) cl1 ?_
  intro ar J2 ψ2 hB2 cl2 k2
  have hB1' := hB1.keep (k2 (fun _ => False)) id
  refine hB1'.ld rfl (hB1'.ld rfl (e1.vals ?_))
  refine (GS.nil J2 ψ2 (D + 2) 2 111).app0 cl2 (by simp; omega) ?_
  intro v1 J3 ψ3 hG3 cl3 k3
  have hB3 := hB1'.keep (k3 (fun c => c = D + 2) rfl) (by omega)
  refine ⟨hB3.ld rfl rfl, e2.vals ?_⟩
  refine hG3.app0 cl3 (by simp; omega) ?_
  intro v2 J4 ψ4 hG4 cl4 k4
  have hB4 := hB3.keep (k4 (fun c => c = D + 2) rfl) (by omega)
  have hR4 := (hB2.keep (k3 (fun c => c = D + 2) rfl) (by omega)).keep (k4 (fun c => c = D + 2) rfl) (by omega)
  have hva : FV v2 (x.needs ++ x.order) := by
    rw [List.nil_append, ← List.map_append] at hG4
    exact hG4.fv
  have k04 : Keep (fun c => c = D + 2) H J4 χ ψ4 := (((k1 (fun c => c = D + 2)).trans (k2 _)).trans (k3 _ rfl)).trans (k4 _ rfl)
  refine hva.len ?_
  refine update_work_needs.j3s _ _ _ _ _ _ _ _ _ _ _ ?_
  have := n3_spec (b := b) (w0 := w0) (q := q) (n := n) (nL := nL) (nW := nW) (D := D) (H0 := H) (χ0 := χ) m hU (p := p) (nm := nm) (x := x) (an := an) (ar := ar) (s' := s') (k := k) (ea := ea) (c := c) hva hq hD s.l.length hl hx 0 (Nat.zero_le _) J4 ψ4 s .nilsl [] C
    ⟨h.keep k04 cl4 (by omega), k04.mono (fun c h => by unfold colS; omega), ⟨_, _, hB4, hv0⟩, ⟨_, _, _, _, hR4⟩, GS.nil ..⟩ hi (by rw [List.length_append]; omega) rfl (by simp) (by simpa using hn)
  exact this
theorem path_spec (hq : 0 < q) : ∀ m, PathIH b w0 q n nL nW m
  | 0 => fun _ _ _ _ _ _ _ _ _ _ h => by simp [upd] at h
  | m + 1 => by
    intro C D s p nm s' k ea H χ hu h hi hC hl hp hD
    have hpl : (paths s).length = s.l.length := by simp [paths]
    have hdl := hi.done_le
    have hbl := hi.begun_le
    refine update_work_path.s b w0 _ _ _ H _ ?_
    refine newB D h.cl ?_
    intro af J1 ψ1 hB1 cl1 k1
    refine newB (D + 1) cl1 ?_
    intro ar J2 ψ2 hR2 cl2 k2
    have hF2 := hB1.keep (k2 (fun _ => False)) id
    have k12 : ∀ S : Nat → Prop, Keep S H J2 χ ψ2 := fun S => (k1 S).trans (k2 S)
    have h2 := h.keep (k12 (fun _ => False)) cl2 (fun _ _ _ h => h)
    obtain ⟨cs, vM, vD, nS, nT, t, g0, g1, g2, g3, g4, g5⟩ := h2.ex
    refine nf (g1.ld rfl (hF2.ld rfl (str_i (g4.lk p ?_))))
    intro bb
    refine intK_i ?_
    simp only [upd] at hu
    have hdec : (decide ((if p ∈ s.done then (2 : Int) else if p ∈ s.begun then 1 else 0) = 2)) = decide (p ∈ s.done) := by
      by_cases hd : p ∈ s.done
      · simp [hd]
      · by_cases hb : p ∈ s.begun <;> simp [hd, hb]
    rw [hdec]
    refine cnd_dec (fun hd => ?_) (fun hd => ?_)
    · rw [if_pos hd] at hu
      cases hu
      refine ret_res hR2 cl2 ?_
      intro J3 hB3 cl3 k3
      exact ⟨ψ2, rfl, h2.keep (k3 (fun c => c = D + 1) rfl) cl3 (by omega), (k12 _).trans (k3 _ (.inr (by omega)))⟩
    · rw [if_neg hd] at hu
      refine update_work_path.j3s _ _ _ _ _ _ _ ?_
      refine nf (g1.ld rfl (fa0 (hF2.ld rfl (str_i ?_))))
      refine g4.up cl2 p (.int .i64 1) (stF (s.begun ++ [p]) s.done) (fun r => ?_) ?_
      · unfold stF
        by_cases hr : r = p
        · subst hr; simp [hd]
        · simp [hr]
      intro J3 m3 cl3 k3
      have k3' := k3 (fun c => c = q + 5) rfl
      have h3 : PW J3 ψ2 q n nL nW { s with begun := s.begun ++ [p] } := ⟨cs, vM, vD, nS, nT, t, g0.keep k3' cl3 (by omega) (by omega), g1.keep k3' (by omega), g2.keep k3' (by omega), g3.keep k3' (by omega), m3, g5.keep k3' (by omega)⟩
      have hF3 := hF2.keep k3' (by omega)
      have hR3 := hR2.keep k3' (by omega)
      have k03 : Keep (colS q D) H J3 χ ψ2 := (k12 _).trans (k3 _ (.inl ⟨by omega, by omega⟩))
      clear g0 g1 g2 g3 g4 g5 h2 hB1 hF2 hR2 k1 k2 k3 cl1 cl2 m3 k3' k12
      have hxl : (Upd.get s.l p).needs.length ≤ 1000 ∧ (Upd.get s.l p).order.length ≤ 1000 := by
        by_cases hin : p ∈ paths s
        · have := (hi.begin hin hp hd).2
          unfold wt at this; omega
        · rw [get_none hin]; simp [none_]
      -- behind Find
      have after : ∀ J ψ an t vs, PH q n nL nW D H χ J ψ { s with begun := s.begun ++ [p] } p nm (Upd.get s.l p) af ar an → Bx J ψ (D + 2) an vs t → update_work_path.j5 b w0 (.ptr nW 0) (.ptr af 0) (.ptr ar 0) (.ptr an 0) J (PthQ q n nL nW D H χ (s', k, ea)) := by
        intro J ψ an t vs hP _
        refine update_work_path.j5s _ _ _ _ _ _ _ _ ?_
        obtain ⟨tf, hf⟩ := hP.f
        obtain ⟨cs, vM, vD, nS, nT, t, g0, g1, g2, g3, g4, g5⟩ := hP.pw.ex
        refine nf (g1.ld rfl (fa0 (hf.ld rfl (str_i (inv_i m_time (call_b b_time ?_))))))
        refine (time_spec n nL s.l hl p J g0.wl).mono ?_
        rintro r0 K ⟨rfl, he⟩
        refine ret_i (openT ?_)
        have hK := hP.ext he
        refine update_work_path.j6s _ _ _ _ _ _ _ _ _ ?_
        obtain ⟨tn, vs, hnd, hnv⟩ := hK.nd
        have hnv' := hnv
        obtain ⟨nv, ov, rv, e1, e2, e3, rfl⟩ := hnv'
        have tail : ∀ c, c = decide ((Upd.get s.l p).rule = false ∧ (Upd.get s.l p).time = 0) → update_work_path.j7 b w0 (.ptr nW 0) (.ptr af 0) (.ptr ar 0) (.ptr an 0) c K (PthQ q n nL nW D H χ (s', k, ea)) := by
          rintro c rfl
          refine update_work_path.j7s _ _ _ _ _ _ _ _ _ ?_
          obtain ⟨tf, hf⟩ := hK.f
          obtain ⟨tr, c1, c2, c3, hr⟩ := hK.r
          refine cnd_dec (fun hno => ?_) (fun hno => ?_)
          · rw [if_pos hno] at hu
            cases hu
            refine fa0 (hf.ld rfl (str_i (ret_res hr hK.pw.cl ?_)))
            intro J4 hB4 cl4 k4
            exact ⟨ψ, rfl, hK.pw.keep (k4 (fun c => c = D + 1) rfl) cl4 (by omega), hK.keep.trans (k4 _ (.inr (by omega)))⟩
          · rw [if_neg hno] at hu
            refine update_work_path.j8s _ _ _ _ _ _ _ _ ?_
            have hin : p ∈ paths s := Classical.byContradiction fun hni => hno (by rw [get_none hni]; exact ⟨rfl, rfl⟩)
            obtain ⟨hi1, hw⟩ := hi.begin hin hp hd
            have hu' : (match needs m { s with begun := s.begun ++ [p] } p (todo' (Upd.get s.l p)) [] with
              | none => none
              | some (s, k, at_, count) => if k ≠ 0 then some (s, k, at_) else some (close s p count)) = some (s', k, ea) := hu
            cases hnd2 : needs m { s with begun := s.begun ++ [p] } p (todo' (Upd.get s.l p)) [] with
            | none => rw [hnd2] at hu'; cases hu'
            | some y =>
              obtain ⟨s1, k1, a1, c1⟩ := y
              rw [hnd2] at hu'
              simp only at hu'
              have h1 := needs_after m (upd_after m) p (todo' (Upd.get s.l p)) _ _ s1 [] c1 k1 a1 hnd2 hi1
              have hst1 := needs_strip m (upd_strip m) p _ _ s1 [] c1 k1 a1 hnd2
              have hln1 : s1.l.length = s.l.length := by have := congrArg List.length hst1; simpa using this
              have hcl : c1.length ≤ (todo' (Upd.get s.l p)).length ∨ k1 ≠ 0 := by
                by_cases hk0 : k1 = 0
                · left
                  have : ∀ (l : List (Bs × Bool)) (s s1 : Upd.St) (count c1 : List Bs) (k1 : Nat) (a1 : Bs), needs m s p l count = some (s1, k1, a1, c1) → c1.length ≤ count.length + l.length := by
                    intro l
                    induction l with
                    | nil => intro s s1 count c1 k1 a1 h; simp only [needs, Option.some.injEq, Prod.mk.injEq] at h; obtain ⟨_, _, _, rfl⟩ := h; simp
                    | cons y r ih =>
                      obtain ⟨qq, cc⟩ := y
                      intro s s1 count c1 k1 a1 h
                      simp only [needs] at h
                      split at h
                      · have := ih _ _ _ _ _ _ h; simp; omega
                      · cases hup : upd m s qq with
                        | none => rw [hup] at h; cases h
                        | some z =>
                          obtain ⟨s2, k2, a2⟩ := z
                          rw [hup] at h
                          simp only at h
                          split at h
                          · cases h; simp
                          · have := ih _ _ _ _ _ _ h
                            split at this <;> simp at this ⊢ <;> omega
                  have := this _ _ _ _ _ _ _ hnd2
                  simpa using this
                · exact .inr hk0
              have htl : (todo' (Upd.get s.l p)).length = (Upd.get s.l p).needs.length + (Upd.get s.l p).order.length := by simp [todo']
              refine hnd.ldw rfl (open9 ?_)
              refine (needs_spec m (path_spec hq m) (D := D + 4) (C := C - wt (Upd.get s.l p)) hq (by omega) (by unfold wt at hw; omega) hnv hK.pw hi1 (by unfold wt at hw ⊢; omega) hl hnd2).mono ?_
              rintro r0 J4 ⟨ψ4, vc, rfl, hP4, k4, hfv⟩
              have hk4 : Keep (colS q D) K J4 ψ ψ4 := k4.mono (fun c => colS_mono (by omega))
              have hJ4 : PH q n nL nW D H χ J4 ψ4 s1 p nm (Upd.get s.l p) af ar an := ⟨hP4, hK.keep.trans hk4, ⟨tf, hf.keep k4 (by unfold colS; omega)⟩, ⟨tr, _, _, _, hr.keep k4 (by unfold colS; omega)⟩, ⟨tn, _, hnd.keep k4 (by unfold colS; omega), hnv⟩⟩
              refine ret_i (tup_i (head_i (head_i (open_fault (end_i ?_)))))
              refine newBox (i := D + 3) hP4.cl rfl rfl ?_
              intro ae J5 ψ5 hE cl5 k5
              have hJ5 := hJ4.more (k5 (fun _ => False)) cl5 (fun _ _ h => h) (fun _ h => h.elim)
              refine hE.ld rfl (intK_i ?_)
              rw [show (decide ((k1 : Int) = 0)) = decide (k1 = 0) from by simp, cnd_not]
              refine cnd_dec (fun hk0 => ?_) (fun hk0 => ?_)
              · subst hk0
                rw [if_neg (by simp)] at hu'
                have hu'' := Option.some.inj hu'
                obtain ⟨tf5, hf5⟩ := hJ5.f
                obtain ⟨cs5, vM5, vD5, nS5, nT5, t5, b0, b1, b2, b3, b4, b5⟩ := hJ5.pw.ex
                refine nf (b1.ld rfl (fa0 (hf5.ld rfl (str_i (inv_i m_time (call_b b_time ?_))))))
                refine (time_spec n nL s1.l (by omega) p J5 b0.wl).mono ?_
                rintro r0 J6 ⟨rfl, he6⟩
                refine ret_i (openT ?_)
                have hJ6 := hJ5.ext he6
                have hbg : s1.begun = s.begun ++ [p] := h1.beg
                have hpst : p ∉ s1.stale := fun hps => by
                  have := h1.ok.ss p hps
                  have hnd3 := h1.ok.nd
                  rw [hbg] at hnd3
                  exact (List.nodup_append.1 hnd3).2.2 p (by simp) p this rfl
                have hx : (Upd.get s.l p).rule = (Upd.get s1.l p).rule ∧ (Upd.get s.l p).recipe = (Upd.get s1.l p).recipe ∧ (Upd.get s.l p).phony = (Upd.get s1.l p).phony := by
                  obtain ⟨a, b, c⟩ := get_rule hst1 p
                  exact ⟨a.symm, b.symm, c.symm⟩
                have := p12_spec (b := b) (w0 := w0) (count := c1) hbg hpst hq hD h1.ok (by omega) hx (hfv rfl) (by rcases hcl with h | h; rw [htl] at h; unfold wt at hw; omega; exact absurd rfl h) hJ6
                rw [hu''] at this
                exact this
              · rw [if_pos hk0] at hu'
                cases hu'
                obtain ⟨tr5, d1, d2, d3, hr5⟩ := hJ5.r
                refine hE.ldw rfl (open_fault (ret_res hr5 cl5 ?_))
                intro J6 hB6 cl6 k6
                exact ⟨ψ5, rfl, hJ5.pw.keep (k6 (fun c => c = D + 1) rfl) cl6 (by omega), hJ5.keep.trans (k6 _ (.inr (by omega)))⟩
        refine fa0 (hnd.ld rfl (bool_i ?_))
        cases hr : (Upd.get s.l p).rule with
        | false => exact cndT_i (tail _ (by simp [hr]))
        | true => exact cndF_i (tail _ (by simp [hr]))
      refine update_work_path.j4s _ _ _ _ _ _ _ ?_
      obtain ⟨cs, vM, vD, nS, nT, t, g0, g1, g2, g3, g4, g5⟩ := h3.ex
      refine nf (g1.ld rfl (hF3.ldw rfl (open2 ⟨inv_i m_find (call_b b_find ?_), ?_⟩)))
      · refine (find_spec n nL s.l hl p nm hxl J3 g0.wl).mono ?_
        rintro r0 J4 ⟨vs, rfl, hnv, he⟩
        have hnv' := hnv
        obtain ⟨nv, ov, rv, e1, e2, e3, rfl⟩ := hnv'
        refine ret_i (open9 ?_)
        refine newBox (i := D + 2) (cl3.ext he) rfl (by simp only [List.all_cons, List.all_nil, e1.one, e2.one, e3.one]; rfl) ?_
        intro an J5 ψ5 hB5 cl5 k5
        have k35 : ∀ S : Nat → Prop, Keep S J3 J5 ψ2 ψ5 := fun S => (Keep.ext he).trans (k5 S)
        exact after J5 ψ5 an _ _ ⟨h3.keep (k35 (fun _ => False)) cl5 (fun _ _ _ h => h), k03.trans (k35 _), ⟨_, hF3.keep (k35 (fun _ => False)) id⟩, ⟨_, _, _, _, hR3.keep (k35 (fun _ => False)) id⟩, ⟨_, _, hB5, hnv⟩⟩ hB5
      · refine newB (D + 2) cl3 ?_
        intro an J4 ψ4 hB4 cl4 k4
        refine ⟨(hF3.keep (k4 (fun _ => False)) id).ldw rfl (open2 rfl), (g1.keep (k4 (fun _ => False)) id).ld rfl rfl, inv_i m_find (call_b b_find ?_)⟩
        refine (find_spec n nL s.l hl p nm hxl J4 (g0.keep (k4 (fun _ => False)) cl4 id id).wl).mono ?_
        rintro r0 J5 ⟨vs, rfl, hnv, he⟩
        have hnv' := hnv
        obtain ⟨nv, ov, rv, e1, e2, e3, rfl⟩ := hnv'
        refine ret_i (open9 ?_)
        refine (hB4.keep (Keep.ext (S := fun _ => False) he) id).stw (cl4.ext he) rfl (by simp only [List.all_cons, List.all_nil, e1.one, e2.one, e3.one]; rfl) ?_
        intro J6 hB6 cl6 k6
        have k36 : Keep (fun c => c = D + 2) J3 J6 ψ2 ψ4 := ((k4 _).trans (Keep.ext he)).trans (k6 _ rfl)
        exact after J6 ψ4 an _ _ ⟨h3.keep k36 cl6 (by omega), k03.trans (k36.mono (fun c h => by unfold colS; omega)), ⟨_, hF3.keep k36 (by omega)⟩, ⟨_, _, _, _, hR3.keep k36 (by omega)⟩, ⟨_, _, hB6, hnv⟩⟩ hB6
end
end Go.Proofs.Ytmpheeanjjfddaa.S
