/- The program's Goals. -/
import Derived.Test.YtmpheeanjjfddaaUPrg4
namespace Go.Proofs.Ytmpheeanjjfddaa.S
open Go Go.RowKit Go.Proofs Go.Proofs.Ytmpheeanjjfddaa.SM Go.Proofs.Ytmpheeanjjfddaa.Upd
set_option linter.unusedVariables false
set_option linter.unusedSimpArgs false
set_option maxRecDepth 100000
theorem ld12 {H : Hp} {χ : Nat → Nat} {i n t : Nat} {v0 v1 v2 v3 v4 : V} {K : V → Prop} (h : Bx H χ i n [v0, v1, v2, v3, v4] t) (k : K (.agg [v1, v2])) : ldE true 2 (.ptr n 1) H K := by rw [ldE_box h.at_]; exact k
theorem nil_if {t : Nat} {v : V} {K : Bool → Prop} (h : K false) : nilE 4 (.iface t v) K := h
theorem openR {a c : V} {K : V → V → Prop} (k : K a c) : aggE (.agg [a, c]) fun l => headE l fun x r => headE r fun y r => endE r (K x y) := k
theorem GS.one {H : Hp} {χ : Nat → Nat} {i sz e : Nat} {v : V} {l : List V} (h : GS H χ i v sz e l) : oneV v = true := by rcases h with ⟨rfl, _⟩ | ⟨_, m, rfl, _⟩ <;> rfl
section
variable {b : Nat} {w0 : World} {q n nL D : Nat} {H : Hp} {χ : Nat → Nat}
/-- What Goals comes to. -/
def GlsQ (q n nL D : Nat) (H0 : Hp) (χ0 : Nat → Nat) (s' : Upd.St) (k : Nat) (a : Bs) : Rs → Hp → Prop := fun r J => ∃ ψ cs vM vD, r = .ret (.tuple [.agg [vM, vD], faultV k a]) ∧ WS J ψ q n nL s'.l s'.now cs ∧ GS J ψ (q + 3) vM 1 9 (s'.made.map .str) ∧ GS J ψ (q + 4) vD 2 46 (s'.dropped.map prV) ∧ Keep (colS q D) H0 J χ0 ψ
theorem pgoals_spec (hq : 0 < q) (m C : Nat) (hC : C ≤ 1000) (gs : List Bs) (hg : gs.length ≤ 1000) {gv : V} (hgv : FV gv gs) (s : Upd.St) (s' : Upd.St) (k : Nat) (a : Bs) (cs : List V) (hl : s.l.length ≤ 1000) (hD : q + 7 ≤ D) (hu : goals m s gs = some (s', k, a)) (h : WS H χ q n nL s.l s.now cs) (hi : Upd.Inv C s) (he : s.made = [] ∧ s.dropped = [] ∧ s.done = [] ∧ s.begun = [] ∧ s.stale = []) :
    Ac (cx b w0) 11 [.iface 37 (.agg [.ptr n 0]), gv] H (GlsQ q n nL D H χ s' k a) := by
  obtain ⟨he1, he2, he3, he4, he5⟩ := he
  refine update_Goals.s b w0 _ _ H _ ?_
  refine newB D h.cl ?_
  intro a1 J1 ψ1 hB1 cl1 k1
  refine newB (D + 1) cl1 ?_
  intro a2 J2 ψ2 hB2 cl2 k2
  refine nil_if (cndF_i ?_)
  refine newM (q + 5) (.int .i64 0) cl2 ?_
  intro n1 J3 ψ3 hM1 cl3 k3
  refine newM (q + 6) (.bool false) cl3 ?_
  intro n2 J4 ψ4 hM2 cl4 k4
  refine one_i rfl ?_
  refine newB (q + 2) cl4 ?_
  intro nW J5 ψ5 hB5 cl5 k5
  refine hgv.len ?_
  have k05 : ∀ S : Nat → Prop, Keep S H J5 χ ψ5 := fun S => ((((k1 S).trans (k2 S)).trans (k3 S)).trans (k4 S)).trans (k5 S)
  have hA1 : ∃ t c1 c2, Bx J5 ψ5 D a1 [c1, c2] t := ⟨_, _, _, (((hB1.keep (k2 (fun _ => False)) id).keep (k3 (fun _ => False)) id).keep (k4 (fun _ => False)) id).keep (k5 (fun _ => False)) id⟩
  have hA2 : ∃ t c1 c2 c3, Bx J5 ψ5 (D + 1) a2 [c1, c2, c3] t := ⟨_, _, _, _, ((hB2.keep (k3 (fun _ => False)) id).keep (k4 (fun _ => False)) id).keep (k5 (fun _ => False)) id⟩
  have hW5 : PW J5 ψ5 q n nL nW s := by
    refine ⟨cs, .nilsl, .nilsl, n1, n2, _, h.keep (k05 (fun _ => False)) cl5 id id, hB5, by rw [he1]; exact GS.nil .., by rw [he2]; exact GS.nil .., ?_, ?_⟩
    · have := (hM1.keep (k4 (fun _ => False)) id).keep (k5 (fun _ => False)) id
      have e : stF s.begun s.done = fun _ => V.int .i64 0 := by funext r; simp [stF, he3, he4]
      rw [e]; exact this
    · have := hM2.keep (k5 (fun _ => False)) id
      have e : mdF s.stale = fun _ => V.bool false := by funext r; simp [mdF, he5]
      rw [e]; exact this
  clear hB1 hB2 hM1 hM2 hB5 k1 k2 k3 k4 k5 cl1 cl2 cl3 cl4
  have key : ∀ i, i ≤ gs.length → ∀ J ψ t, PW J ψ q n nL nW t → Keep (colS q D) H J χ ψ → (∃ t c1 c2, Bx J ψ D a1 [c1, c2] t) → (∃ t c1 c2 c3, Bx J ψ (D + 1) a2 [c1, c2, c3] t) → Upd.Inv C t → t.begun = [] → t.l.length = s.l.length → goals m t (gs.drop i) = some (s', k, a) →
      update_Goals.l5 b w0 (.ptr a1 0) (.ptr a2 0) (.ptr nW 0) gv (gs.length : Int) (i : Int) J (GlsQ q n nL D H χ s' k a) := by
    refine upto ?_ ?_
    · rintro J ψ t hP hk ⟨t1, c1, c2, hA⟩ ⟨t2, d1, d2, d3, hF⟩ hI hbt hlt hgo
      rw [List.drop_eq_nil_of_le (Nat.le_refl _)] at hgo
      simp only [goals, Option.some.injEq, Prod.mk.injEq] at hgo
      obtain ⟨rfl, rfl, rfl⟩ := hgo
      refine update_Goals.l5s _ _ _ _ _ _ _ _ _ _ ?_
      refine cnd_dec (fun h => by omega) fun _ => ?_
      obtain ⟨cs, vM, vD, nS, nT, tw, g0, g1, g2, g3, g4, g5⟩ := hP.ex
      refine nf (ld12 g1 (openR ?_))
      refine hA.stw g0.cl rfl (by simp only [List.all_cons, List.all_nil, g2.one, g3.one]; rfl) ?_
      intro J2 hB2 cl2 k2
      have hF2 := hF.keep (k2 (fun c => c = D) rfl) (by omega)
      refine hF2.stw cl2 rfl rfl ?_
      intro J3 hB3 cl3 k3
      refine (hB2.keep (k3 (fun c => c = D + 1) rfl) (by omega)).ldw rfl (openR (hB3.ldw rfl (open_fault ?_)))
      have k13 : Keep (fun c => c = D ∨ c = D + 1) J J3 ψ ψ := (k2 _ (.inl rfl)).trans (k3 _ (.inr rfl))
      exact ⟨ψ, cs, vM, vD, rfl, g0.keep k13 cl3 (by omega) (by omega), g2.keep k13 (by omega), g3.keep k13 (by omega), hk.trans (k13.mono (fun c h => by unfold colS; omega))⟩
    · rintro i hil ih J ψ t hP hk hA hF hI hbt hlt hgo
      refine update_Goals.l5s _ _ _ _ _ _ _ _ _ _ ?_
      refine cnd_dec (fun _ => ?_) (fun h => by omega)
      refine hgv.at hil (open2 (newBox (i := D + 2) hP.cl rfl rfl ?_))
      intro af J1 ψ1 hB1 cl1 k1
      refine hB1.ldw rfl (open2 ?_)
      rw [List.drop_eq_getElem_cons hil] at hgo
      simp only [goals] at hgo
      cases hu : upd m t gs[i] with
      | none => rw [hu] at hgo; cases hgo
      | some y =>
        obtain ⟨t1, k1', a1'⟩ := y
        rw [hu] at hgo
        simp only at hgo
        have hnb : gs[i] ∉ t.begun := by rw [hbt]; simp
        have haf := upd_after m C t gs[i] t1 k1' a1' hu hI hnb
        have hP1 := hP.keep (k1 (fun _ => False)) cl1 (fun _ _ _ h => h)
        refine (path_spec hq m C (D + 4) t gs[i] gs[i] t1 k1' a1' J1 ψ1 hu hP1 hI hC (by omega) hnb (by omega)).mono ?_
        rintro r J2 ⟨ψ2, rfl, hP2, k2⟩
        refine ret_i (open_fault ?_)
        refine newBox (i := D + 3) hP2.cl rfl rfl ?_
        intro ae J3 ψ3 hE cl3 k3
        have k13 : Keep (colS q (D + 4)) J J3 ψ ψ3 := ((k1 _).trans k2).trans (k3 _)
        have hk3 := hk.trans (k13.mono (fun c => colS_mono (D := D) (by omega)))
        have hP3 := hP2.keep (k3 (fun _ => False)) cl3 (fun _ _ _ h => h)
        obtain ⟨tA, c1, c2, hA⟩ := hA
        obtain ⟨tF, d1, d2, d3, hF⟩ := hF
        have hA3 := hA.keep k13 (by unfold colS; omega)
        have hF3 := hF.keep k13 (by unfold colS; omega)
        refine hE.ld rfl (intK_i ?_)
        rw [show (decide ((k1' : Int) = 0)) = decide (k1' = 0) from by simp, cnd_not]
        refine cnd_dec (fun hk0 => ?_) (fun hk0 => ?_)
        · subst hk0
          rw [if_neg (by simp)] at hgo
          rw [wrap1 i (by omega)]
          exact ih J3 ψ3 t1 hP3 hk3 ⟨_, _, _, hA3⟩ ⟨_, _, _, _, hF3⟩ haf.ok (by rw [haf.beg, hbt]) (by have := congrArg List.length haf.1; simp [paths] at this; omega) hgo
        · rw [if_pos hk0] at hgo
          cases hgo
          obtain ⟨cs, vM, vD, nS, nT, tw, g0, g1, g2, g3, g4, g5⟩ := hP3.ex
          refine nf (ld12 g1 (openR (hE.ldw rfl (open_fault ?_))))
          refine hA3.stw g0.cl rfl (by simp only [List.all_cons, List.all_nil, g2.one, g3.one]; rfl) ?_
          intro J4 hB4 cl4 k4
          refine ⟨(hE.keep (k4 (fun c => c = D) rfl) (by omega)).ldw rfl (open_fault rfl), ?_⟩
          have hF4 := hF3.keep (k4 (fun c => c = D) rfl) (by omega)
          refine hF4.stw cl4 rfl rfl ?_
          intro J5 hB5 cl5 k5
          refine (hB4.keep (k5 (fun c => c = D + 1) rfl) (by omega)).ldw rfl (openR (hB5.ldw rfl (open_fault ?_)))
          have k35 : Keep (fun c => c = D ∨ c = D + 1) J3 J5 ψ3 ψ3 := (k4 _ (.inl rfl)).trans (k5 _ (.inr rfl))
          exact ⟨ψ3, cs, vM, vD, rfl, g0.keep k35 cl5 (by omega) (by omega), g2.keep k35 (by omega), g3.keep k35 (by omega), hk3.trans (k35.mono (fun c h => by unfold colS; omega))⟩
  exact key 0 (Nat.zero_le _) J5 ψ5 s hW5 (k05 _) hA1 hA2 hi he4 rfl (by simpa using hu)
end
end Go.Proofs.Ytmpheeanjjfddaa.S
