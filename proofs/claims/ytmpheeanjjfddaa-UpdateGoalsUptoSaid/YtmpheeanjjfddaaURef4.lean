/- The reference's Update. -/
import Derived.Test.YtmpheeanjjfddaaURef3
import Derived.Test.YtmpheeanjjfddaaSU2
namespace Go.Proofs.Ytmpheeanjjfddaa.S
open Go Go.RowKit Go.Proofs Go.Proofs.Ytmpheeanjjfddaa.SM Go.Proofs.Ytmpheeanjjfddaa.Upd
set_option linter.unusedVariables false
set_option linter.unusedSimpArgs false
/-- The reference's world. -/
structure RW (H : Hp) (χ : Nat → Nat) (q n nL : Nat) (s : Upd.St) : Prop where
  ex : ∃ vM vD vO vB vS, WS H χ q n nL s.l s.now [vM, vD, vO, vB, vS] ∧ GS H χ (q + 2) vM 1 9 (s.made.map .str) ∧ GS H χ (q + 3) vD 2 46 (s.dropped.map prV) ∧ GS H χ (q + 4) vO 1 9 (s.done.map .str) ∧ BS H χ (q + 5) vB 9 s.begun ∧ GS H χ (q + 6) vS 1 9 (s.stale.map .str)
theorem RW.keep {S : Nat → Prop} {H J : Hp} {χ ψ : Nat → Nat} {q n nL : Nat} {s : Upd.St} (h : RW H χ q n nL s) (k : Keep S H J χ ψ) (hc : Cl J ψ) (hS : ∀ c, q ≤ c → c < q + 7 → ¬ S c) : RW J ψ q n nL s := by
  obtain ⟨vM, vD, vO, vB, vS, h0, h1, h2, h3, h4, h5⟩ := h.ex
  exact ⟨vM, vD, vO, vB, vS, h0.keep k hc (hS _ (by omega) (by omega)) (hS _ (by omega) (by omega)), h1.keep k (hS _ (by omega) (by omega)), h2.keep k (hS _ (by omega) (by omega)), h3.keep k (hS _ (by omega) (by omega)), h4.keep k (hS _ (by omega) (by omega)), h5.keep k (hS _ (by omega) (by omega))⟩
theorem RW.cl {H : Hp} {χ : Nat → Nat} {q n nL : Nat} {s : Upd.St} (h : RW H χ q n nL s) : Cl H χ := by
  obtain ⟨_, _, _, _, _, h0, _⟩ := h.ex
  exact h0.cl
theorem RW.wl {H : Hp} {χ : Nat → Nat} {q n nL : Nat} {s : Upd.St} (h : RW H χ q n nL s) : WL H n nL s.l := by
  obtain ⟨_, _, _, _, _, h0, _⟩ := h.ex
  exact h0.wl
theorem WS.of_set {H J : Hp} {χ ψ : Nat → Nat} {q n nL now t i : Nat} {l : List It} {cs cs' : List V} (h : WS H χ q n nL l now cs) (hb : Bx J ψ q n (lV nL l :: .int .i64 (now : Int) :: cs') t) (hc : Cl J ψ) (hk : ∀ S : Nat → Prop, S q → S i → Keep S H J χ ψ) (hi : i ≠ q + 1) : WS J ψ q n nL l now cs' := by
  refine ⟨⟨t, hb⟩, fun hne => ?_, hc⟩
  obtain ⟨e, tr, hr, hcol⟩ := h.row hne
  obtain ⟨k1, k2⟩ := hk (fun c => c = q ∨ c = i) (.inl rfl) (.inr rfl) nL _ hr (by rw [hcol]; omega)
  exact ⟨e, tr, k1, k2.trans hcol⟩
section
variable {H : Hp} {χ : Nat → Nat} {q n nL : Nat} {s : Upd.St} {o : O} {K : Hp → Prop}
theorem mono2 {i D : Nat} {J : Hp} {ψ : Nat → Nat} (hk : ∀ S : Nat → Prop, S q → S i → Keep S H J χ ψ) (h0 : q ≤ i) (h1 : i < q + 7) : Keep (colS q D) H J χ ψ := hk _ (.inl ⟨Nat.le_refl _, by omega⟩) (.inl ⟨h0, h1⟩)
theorem RW.pushMade (h : RW H χ q n nL s) {p : Bs} (hb : s.made.length < 4294967296) (D : Nat) (k : ∀ J ψ, RW J ψ q n nL { s with made := s.made ++ [p] } → Keep (colS q D) H J χ ψ → K J) :
    nckE (.ptr n 0) fun v0 => faE 2 v0 fun p0 => ldE false 1 p0 H fun v => newE H o fun a H1 => appE 1 9 v [.str p] H1 fun v' H2 => nckE (.ptr n 0) fun v1 => faE 2 v1 fun p1 => oneE v' (stE p1 [v'] H2 K) := by
  obtain ⟨vM, vD, vO, vB, vS, h0, h1, h2, h3, h4, h5⟩ := h.ex
  obtain ⟨t, hB⟩ := h0.box
  refine push hB rfl h1 h0.cl (by omega) (by simpa using hb) ?_
  intro J ψ v' hB' hG' hc' hk
  have hkk := hk (fun c => c = q ∨ c = q + 2) (.inl rfl) (.inr rfl)
  refine k J ψ ⟨v', vD, vO, vB, vS, h0.of_set hB' hc' hk (by omega), by simpa using hG', h2.keep hkk (by omega), h3.keep hkk (by omega), h4.keep hkk (by omega), h5.keep hkk (by omega)⟩ (mono2 hk (by omega) (by omega))
theorem RW.pushDrop (h : RW H χ q n nL s) {p r : Bs} (hb : s.dropped.length < 4294967296) (D : Nat) (k : ∀ J ψ, RW J ψ q n nL { s with dropped := s.dropped ++ [(p, r)] } → Keep (colS q D) H J χ ψ → K J) :
    nckE (.ptr n 0) fun v0 => faE 3 v0 fun p0 => ldE false 1 p0 H fun v => newE H o fun a H1 => appE 2 46 v [.agg [.str p, .str r]] H1 fun v' H2 => nckE (.ptr n 0) fun v1 => faE 3 v1 fun p1 => oneE v' (stE p1 [v'] H2 K) := by
  obtain ⟨vM, vD, vO, vB, vS, h0, h1, h2, h3, h4, h5⟩ := h.ex
  obtain ⟨t, hB⟩ := h0.box
  refine push hB rfl h2 h0.cl (by omega) (by simpa using hb) ?_
  intro J ψ v' hB' hG' hc' hk
  have hkk := hk (fun c => c = q ∨ c = q + 3) (.inl rfl) (.inr rfl)
  refine k J ψ ⟨vM, v', vO, vB, vS, h0.of_set hB' hc' hk (by omega), h1.keep hkk (by omega), by simpa [prV] using hG', h3.keep hkk (by omega), h4.keep hkk (by omega), h5.keep hkk (by omega)⟩ (mono2 hk (by omega) (by omega))
theorem RW.pushDone (h : RW H χ q n nL s) {p : Bs} (hb : s.done.length < 4294967296) (D : Nat) (k : ∀ J ψ, RW J ψ q n nL { s with done := s.done ++ [p] } → Keep (colS q D) H J χ ψ → K J) :
    nckE (.ptr n 0) fun v0 => faE 4 v0 fun p0 => ldE false 1 p0 H fun v => newE H o fun a H1 => appE 1 9 v [.str p] H1 fun v' H2 => nckE (.ptr n 0) fun v1 => faE 4 v1 fun p1 => oneE v' (stE p1 [v'] H2 K) := by
  obtain ⟨vM, vD, vO, vB, vS, h0, h1, h2, h3, h4, h5⟩ := h.ex
  obtain ⟨t, hB⟩ := h0.box
  refine push hB rfl h3 h0.cl (by omega) (by simpa using hb) ?_
  intro J ψ v' hB' hG' hc' hk
  have hkk := hk (fun c => c = q ∨ c = q + 4) (.inl rfl) (.inr rfl)
  refine k J ψ ⟨vM, vD, v', vB, vS, h0.of_set hB' hc' hk (by omega), h1.keep hkk (by omega), h2.keep hkk (by omega), by simpa using hG', h4.keep hkk (by omega), h5.keep hkk (by omega)⟩ (mono2 hk (by omega) (by omega))
theorem RW.pushBegun (h : RW H χ q n nL s) {p : Bs} (hb : s.begun.length < 4294967296) (D : Nat) (k : ∀ J ψ, RW J ψ q n nL { s with begun := s.begun ++ [p] } → Keep (colS q D) H J χ ψ → K J) :
    nckE (.ptr n 0) fun v0 => faE 5 v0 fun p0 => ldE false 1 p0 H fun v => newE H o fun a H1 => appE 1 9 v [.str p] H1 fun v' H2 => nckE (.ptr n 0) fun v1 => faE 5 v1 fun p1 => oneE v' (stE p1 [v'] H2 K) := by
  obtain ⟨vM, vD, vO, vB, vS, h0, h1, h2, h3, h4, h5⟩ := h.ex
  obtain ⟨t, hB⟩ := h0.box
  refine pushB hB rfl h4 h0.cl (by omega) hb ?_
  intro J ψ v' hB' hG' hc' hk
  have hkk := hk (fun c => c = q ∨ c = q + 5) (.inl rfl) (.inr rfl)
  refine k J ψ ⟨vM, vD, vO, v', vS, h0.of_set hB' hc' hk (by omega), h1.keep hkk (by omega), h2.keep hkk (by omega), h3.keep hkk (by omega), hG', h5.keep hkk (by omega)⟩ (mono2 hk (by omega) (by omega))
theorem RW.pushStale (h : RW H χ q n nL s) {p : Bs} (hb : s.stale.length < 4294967296) (D : Nat) (k : ∀ J ψ, RW J ψ q n nL { s with stale := s.stale ++ [p] } → Keep (colS q D) H J χ ψ → K J) :
    nckE (.ptr n 0) fun v0 => faE 6 v0 fun p0 => ldE false 1 p0 H fun v => newE H o fun a H1 => appE 1 9 v [.str p] H1 fun v' H2 => nckE (.ptr n 0) fun v1 => faE 6 v1 fun p1 => oneE v' (stE p1 [v'] H2 K) := by
  obtain ⟨vM, vD, vO, vB, vS, h0, h1, h2, h3, h4, h5⟩ := h.ex
  obtain ⟨t, hB⟩ := h0.box
  refine push hB rfl h5 h0.cl (by omega) (by simpa using hb) ?_
  intro J ψ v' hB' hG' hc' hk
  have hkk := hk (fun c => c = q ∨ c = q + 6) (.inl rfl) (.inr rfl)
  refine k J ψ ⟨vM, vD, vO, vB, v', h0.of_set hB' hc' hk (by omega), h1.keep hkk (by omega), h2.keep hkk (by omega), h3.keep hkk (by omega), h4.keep hkk (by omega), by simpa using hG'⟩ (mono2 hk (by omega) (by omega))
end
/-- An item's copy. -/
def XB (H : Hp) (χ : Nat → Nat) (i a : Nat) (x : It) : Prop := ∃ nv ov t, TS nv x.needs ∧ TS ov x.order ∧ Bx H χ i a [.str x.path, nv, ov, .bool x.rule, .bool x.recipe, .bool x.phony, .int .i64 (x.time : Int), .bool x.fails, .bool x.writes] t
theorem XB.keep {S : Nat → Prop} {H J : Hp} {χ ψ : Nat → Nat} {i a : Nat} {x : It} (h : XB H χ i a x) (k : Keep S H J χ ψ) (h0 : ¬ S i) : XB J ψ i a x := by
  obtain ⟨nv, ov, t, h1, h2, h3⟩ := h
  exact ⟨nv, ov, t, h1, h2, h3.keep k h0⟩
theorem TS.tv {H : Hp} {v : V} {l : List Bs} (h : TS v l) : TV H v l := by
  rcases h with rfl | ⟨rfl, rfl⟩
  · exact TV.vsl H l
  · exact TV.nil H
/-- What Update comes to. -/
def UpdQ (q n nL D : Nat) (H0 : Hp) (χ0 : Nat → Nat) (s' : Upd.St) (k : Nat) (a : Bs) : Rs → Hp → Prop := fun r J => ∃ ψ, r = .ret (.tuple [.int .i64 (k : Int), .str a]) ∧ RW J ψ q n nL s' ∧ Keep (colS q D) H0 J χ0 ψ
section
variable {b : Nat} {w0 : World} {q n nL D : Nat} {H0 H : Hp} {χ0 χ : Nat → Nat}
theorem j40_spec {s : Upd.St} {p : Bs} (h : RW H χ q n nL s) (hk : Keep (colS q D) H0 H χ0 χ) (h1 : s.done.length < 4294967296) (h2 : s.begun.length < 4294967296) (h3 : s.begun ≠ []) :
    flatironref18_Update.j40 b w0 (.ptr n 0) p H (UpdQ q n nL D H0 χ0 { s with done := s.done ++ [p], begun := s.begun.dropLast } 0 []) := by
  refine flatironref18_Update.j40s _ _ _ _ _ _ ?_
  refine h.pushDone h1 D ?_
  intro J ψ h' hk'
  obtain ⟨vM, vD, vO, vB, vS, g0, g1, g2, g3, g4, g5⟩ := h'.ex
  obtain ⟨t, hB⟩ := g0.box
  refine nf (hB.ld rfl ?_)
  refine (without_spec b w0 (q + 5) _ vB s.begun h2 h3 J ψ g4).mono ?_
  rintro r K ⟨v', rfl, hone, rfl, hG⟩
  refine ret_i (nf (one_i hone ?_))
  refine hB.st (off := 5) g0.cl (by simp) hone ?_
  intro J2 hB2 hc2 hk2
  have hkk := hk2 (fun c => c = q) rfl
  exact ⟨ψ, rfl, ⟨vM, vD, vO, v', vS, g0.of_set (i := q) hB2 hc2 (fun S h0 _ => hk2 S h0) (by omega), g1.keep hkk (by omega), g2.keep hkk (by omega), g3.keep hkk (by omega), hG.keep hkk (by omega), g5.keep hkk (by omega)⟩, (hk.trans hk').trans (hk2 _ (.inl ⟨Nat.le_refl _, by omega⟩))⟩
theorem j38_spec {s : Upd.St} {p : Bs} (st : Bool) (h : RW H χ q n nL s) (hk : Keep (colS q D) H0 H χ0 χ) (h1 : s.done.length < 4294967296) (h2 : s.begun.length < 4294967296) (h3 : s.begun ≠ []) (h4 : s.stale.length < 4294967296) :
    flatironref18_Update.j38 b w0 (.ptr n 0) p st H (UpdQ q n nL D H0 χ0 { s with stale := if st = true then s.stale ++ [p] else s.stale, done := s.done ++ [p], begun := s.begun.dropLast } 0 []) := by
  refine flatironref18_Update.j38s _ _ _ _ _ _ _ ?_
  refine cnd_of (fun hs => ?_) (fun hs => ?_)
  · rw [if_pos hs]
    refine h.pushStale h4 D ?_
    intro J ψ h' hk'
    exact j40_spec h' (hk.trans hk') h1 h2 h3
  · rw [if_neg (by simp [hs])]
    exact j40_spec h hk h1 h2 h3
/-- What Update comes to by what the plain machine tells. -/
abbrev CloQ (q n nL D : Nat) (H0 : Hp) (χ0 : Nat → Nat) (x : Upd.St × Nat × Bs) : Rs → Hp → Prop := UpdQ q n nL D H0 χ0 x.1 x.2.1 x.2.2
theorem j34_spec {s : Upd.St} {p : Bs} (st re : Bool) (h : RW H χ q n nL s) (hk : Keep (colS q D) H0 H χ0 χ) {C : Nat} (hi : Inv C s) (hl : s.l.length ≤ 1000) (h3 : s.begun ≠ []) :
    flatironref18_Update.j34 b w0 (.ptr n 0) p st (st && re) H (CloQ q n nL D H0 χ0 (clo s p st re)) := by
  have hd := hi.done_le
  have hbl := hi.begun_le
  have hpl : (paths s).length = s.l.length := by simp [paths]
  have hnow := hi.now
  have hmd := hi.made
  have hst := hi.stale
  refine flatironref18_Update.j34s _ _ _ _ _ _ _ _ ?_
  unfold clo
  refine cnd_of (fun hs => ?_) (fun hs => ?_)
  · rw [if_pos hs]
    obtain ⟨vM, vD, vO, vB, vS, g0, g1, g2, g3, g4, g5⟩ := h.ex
    refine (make_spec b w0 q n nL s.l hl s.now (by omega) _ p H χ g0).mono ?_
    rintro r J hM
    unfold MakeP at hM
    rw [make_W]
    cases hm : makeW s.l s.now p with
    | none =>
      rw [hm] at hM
      obtain ⟨rfl, rfl⟩ := hM
      exact ⟨χ, rfl, h, hk⟩
    | some x =>
      obtain ⟨l', now'⟩ := x
      rw [hm] at hM
      obtain ⟨rfl, hW, hkm⟩ := hM
      have hkk := hkm (fun c => c = q ∨ c = q + 1) (.inl rfl) (.inr rfl)
      have hR : RW J χ q n nL { s with l := l', now := now' } := ⟨vM, vD, vO, vB, vS, hW, g1.keep hkk (by omega), g2.keep hkk (by omega), g3.keep hkk (by omega), g4.keep hkk (by omega), g5.keep hkk (by omega)⟩
      refine hR.pushMade (show s.made.length < _ by omega) D ?_
      intro J2 ψ h' hk'
      have := j38_spec (b := b) (w0 := w0) (D := D) (H0 := H0) (χ0 := χ0) (p := p) st h' ((hk.trans (hkm _ (.inl ⟨Nat.le_refl _, by omega⟩) (.inl ⟨by omega, by omega⟩))).trans hk') (show s.done.length < _ by omega) (show s.begun.length < _ by omega) h3 (show s.stale.length < _ by omega)
      exact this
  · rw [if_neg (by simp [hs])]
    exact j38_spec st h hk (by omega) (by omega) h3 (by omega)
end
end Go.Proofs.Ytmpheeanjjfddaa.S
