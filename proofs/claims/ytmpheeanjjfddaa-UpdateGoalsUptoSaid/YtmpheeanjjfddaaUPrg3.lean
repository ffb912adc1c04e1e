/- The program's path: its needs, itself. -/
import Derived.Test.YtmpheeanjjfddaaUPrg2
namespace Go.Proofs.Ytmpheeanjjfddaa.S
open Go Go.RowKit Go.Proofs Go.Proofs.Ytmpheeanjjfddaa.SM Go.Proofs.Ytmpheeanjjfddaa.Upd
set_option linter.unusedVariables false
set_option linter.unusedSimpArgs false
set_option maxRecDepth 100000
theorem wrap1 (i : Nat) (h : i < 4294967296) : IntKind.i64.wrap ((i : Int) + 1) = ((i + 1 : Nat) : Int) := by
  rw [show ((i : Int) + 1) = ((i + 1 : Nat) : Int) from rfl, wrap_nat _ (by omega)]
section
variable {b : Nat} {w0 : World} {q n nL nW D : Nat} {H0 H : Hp} {χ0 χ : Nat → Nat}
theorem p14_spec {s : Upd.St} {p nm : Bs} {x : It} {af ar an : Nat} {bg : List Bs} {v : V} {count : List Bs} (hb : s.begun = bg ++ [p]) (hs : p ∉ s.stale) (hq : 0 < q) (hD : q + 7 ≤ D) {C : Nat} (hi : Upd.Inv C s) (hl : s.l.length ≤ 1000)
    (hx : x.rule = (Upd.get s.l p).rule ∧ x.recipe = (Upd.get s.l p).recipe ∧ x.phony = (Upd.get s.l p).phony) (hv : FV v count) (hc : count.length ≤ 1000) :
    ∀ i, i ≤ count.length → ∀ H χ, PH q n nL nW D H0 χ0 H χ s p nm x af ar an →
      update_work_path.l14 b w0 (.ptr nW 0) (.ptr af 0) (.ptr ar 0) (.ptr an 0) ((Upd.get s.l p).rule && (((Upd.get s.l p).phony || decide ((Upd.get s.l p).time = 0)) || (count.take i).any (cnt s (Upd.get s.l p)))) v (count.length : Int) (i : Int) H (PthQ q n nL nW D H0 χ0 (close s p count)) := by
  refine upto ?_ ?_
  · intro H χ h
    refine update_work_path.l14s _ _ _ _ _ _ _ _ _ _ _ _ ?_
    refine cnd_dec (fun h => by omega) fun _ => ?_
    rw [List.take_of_length_le (Nat.le_refl _), close_clo, Bool.and_comm]
    obtain ⟨tn, vs, hn, hnv⟩ := h.nd
    have hnv' := hnv
    obtain ⟨nv, ov, rv, e1, e2, e3, rfl⟩ := hnv'
    cases hst : (((Upd.get s.l p).phony || decide ((Upd.get s.l p).time = 0) || count.any (cnt s (Upd.get s.l p))) && (Upd.get s.l p).rule) with
    | false => exact cndF_i (p19_spec false (Upd.get s.l p).recipe h hb hs hq hD hi hl)
    | true =>
      refine cndT_i (fa0 (hn.ld rfl ?_))
      rcases e3 with ⟨hr, rfl⟩ | ⟨hr, m, c, rfl⟩
      · have := p19_spec (b := b) (w0 := w0) true (Upd.get s.l p).recipe h hb hs hq hD hi hl
        rw [← hx.2.1, hr] at this ⊢
        exact this
      · have := p19_spec (b := b) (w0 := w0) true (Upd.get s.l p).recipe h hb hs hq hD hi hl
        rw [← hx.2.1, hr] at this ⊢
        exact this
  · intro i hil ih H χ h
    refine update_work_path.l14s _ _ _ _ _ _ _ _ _ _ _ _ ?_
    refine cnd_dec (fun _ => ?_) (fun h => by omega)
    refine hv.at hil (open2 (newBox (i := D + 3) h.pw.cl rfl rfl ?_))
    intro a J ψ hB hcl hk
    have hJ := h.more (hk (fun _ => False)) hcl (fun _ _ h => h) (fun _ h => h.elim)
    have take1 : (count.take (i + 1)).any (cnt s (Upd.get s.l p)) = ((count.take i).any (cnt s (Upd.get s.l p)) || cnt s (Upd.get s.l p) count[i]) := by
      rw [List.take_succ_eq_append_getElem hil, List.any_append]; simp
    rw [wrap1 i (by omega)]
    obtain ⟨tf, hf⟩ := hJ.f
    obtain ⟨tn, vs, hn, hnv⟩ := hJ.nd
    obtain ⟨nv, ov, rv, e1, e2, e3, rfl⟩ := hnv
    cases hr : (Upd.get s.l p).rule with
    | false =>
      refine cndT_i (fa0 (hn.ld rfl (bool_i ?_)))
      rw [hx.1, hr]
      refine cndF_i ?_
      have := ih J ψ hJ
      rw [hr] at this
      exact this
    | true =>
      cases hp : (((Upd.get s.l p).phony || decide ((Upd.get s.l p).time = 0)) || (count.take i).any (cnt s (Upd.get s.l p))) with
      | true =>
        refine cndF_i ?_
        have := ih J ψ hJ
        rw [hr, take1, ← Bool.or_assoc, hp] at this
        exact this
      | false =>
        refine cndT_i (fa0 (hn.ld rfl (bool_i ?_)))
        rw [hx.1, hr]
        refine cndT_i (hB.ld rfl (str_i (fa0 (hf.ld rfl (str_i ?_)))))
        refine (newer_spec hJ.pw hl count[i] p).mono ?_
        rintro r K ⟨rfl, he⟩
        refine ret_i (bool_i ?_)
        have := ih K ψ (hJ.ext he)
        rw [hr, take1, ← Bool.or_assoc, hp] at this
        have ht : decide ((Upd.get s.l p).time = 0) = false := by
          cases h1 : decide ((Upd.get s.l p).time = 0) with
          | false => rfl
          | true => rw [h1] at hp; simp at hp
        have e : (decide (count[i] ∈ s.stale) || (!decide ((Upd.get s.l count[i]).time = 0) && !decide ((Upd.get s.l p).time = 0) && decide ((Upd.get s.l p).time < (Upd.get s.l count[i]).time))) = (true && (false || cnt s (Upd.get s.l p) count[i])) := by
          unfold cnt
          rw [ht]
          by_cases hlt : (Upd.get s.l p).time < (Upd.get s.l count[i]).time
          · have : (Upd.get s.l count[i]).time ≠ 0 := by omega
            simp [hlt, this]
          · simp [hlt]
        rw [e]
        exact this
theorem p12_spec {s : Upd.St} {p nm : Bs} {x : It} {af ar an : Nat} {bg : List Bs} {v : V} {count : List Bs} (hb : s.begun = bg ++ [p]) (hs : p ∉ s.stale) (hq : 0 < q) (hD : q + 7 ≤ D) {C : Nat} (hi : Upd.Inv C s) (hl : s.l.length ≤ 1000)
    (hx : x.rule = (Upd.get s.l p).rule ∧ x.recipe = (Upd.get s.l p).recipe ∧ x.phony = (Upd.get s.l p).phony) (hv : FV v count) (hc : count.length ≤ 1000) (h : PH q n nL nW D H0 χ0 H χ s p nm x af ar an) :
    update_work_path.j12 b w0 (.ptr nW 0) (.ptr af 0) (.ptr ar 0) (.ptr an 0) (!decide ((Upd.get s.l p).time = 0)) v H (PthQ q n nL nW D H0 χ0 (close s p count)) := by
  refine update_work_path.j12s _ _ _ _ _ _ _ _ _ _ ?_
  have go : ∀ c, c = ((Upd.get s.l p).rule && ((Upd.get s.l p).phony || decide ((Upd.get s.l p).time = 0))) → update_work_path.j13 b w0 (.ptr nW 0) (.ptr af 0) (.ptr ar 0) (.ptr an 0) v c H (PthQ q n nL nW D H0 χ0 (close s p count)) := by
    rintro c rfl
    refine update_work_path.j13s _ _ _ _ _ _ _ _ _ _ ?_
    refine hv.len ?_
    have := p14_spec (b := b) (w0 := w0) (D := D) (H0 := H0) (χ0 := χ0) (n := n) (nL := nL) (nW := nW) (nm := nm) (x := x) (af := af) (ar := ar) (an := an) hb hs hq hD hi hl hx hv hc 0 (Nat.zero_le _) H χ h
    simp only [List.take_zero, List.any_nil, Bool.or_false] at this
    exact this
  obtain ⟨tn, vs, hn, hnv⟩ := h.nd
  obtain ⟨nv, ov, rv, e1, e2, e3, rfl⟩ := hnv
  refine fa0 (hn.ld rfl (bool_i ?_))
  rw [hx.1]
  cases hr : (Upd.get s.l p).rule with
  | false => exact cndF_i (go _ (by rw [hr]; rfl))
  | true =>
    refine cndT_i (fa0 (hn.ld rfl (bool_i ?_)))
    rw [hx.2.2]
    cases hp : (Upd.get s.l p).phony with
    | false => exact cndT_i (go _ (by rw [hr, hp]; simp))
    | true => exact cndF_i (go _ (by rw [hr, hp]; simp))
/-! needs -/
def todo' (x : It) : List (Bs × Bool) := x.needs.map (·, true) ++ x.order.map (·, false)
theorem todo_at (x : It) (i : Nat) (h : i < (x.needs ++ x.order).length) : (todo' x).drop i = ((x.needs ++ x.order)[i], decide (i < x.needs.length)) :: (todo' x).drop (i + 1) := by
  have hl : i < (todo' x).length := by simpa [todo'] using h
  rw [List.drop_eq_getElem_cons hl]
  congr 1
  have hg : (todo' x)[i]? = some (todo' x)[i] := List.getElem?_eq_getElem hl
  refine Option.some.inj (hg.symm.trans ?_)
  unfold todo'
  by_cases hin : i < x.needs.length
  · rw [List.getElem?_append_left (by simpa using hin), List.getElem_append_left hin]
    simp [hin]
  · have hj : i - x.needs.length < x.order.length := by simp at h; omega
    rw [List.getElem?_append_right (by simpa using hin), List.getElem_append_right (by omega)]
    simp [hin, hj]
structure NH (q n nL nW D : Nat) (H0 : Hp) (χ0 : Nat → Nat) (H : Hp) (χ : Nat → Nat) (s : Upd.St) (p nm : Bs) (x : It) (an ar : Nat) (v : V) (count : List Bs) : Prop where
  pw : PW H χ q n nL nW s
  keep : Keep (colS q D) H0 H χ0 χ
  nd : ∃ t vs, Bx H χ D an vs t ∧ NodeV p nm x vs
  r : ∃ t c1 c2 c3, Bx H χ (D + 1) ar [c1, c2, c3] t
  count : GS H χ (D + 3) v 2 111 (count.map fileV)
theorem NH.more {S : Nat → Prop} {J : Hp} {ψ : Nat → Nat} {s : Upd.St} {p nm : Bs} {x : It} {an ar : Nat} {v : V} {count : List Bs} (h : NH q n nL nW D H0 χ0 H χ s p nm x an ar v count) (k : Keep S H J χ ψ) (hc : Cl J ψ) (hS : ∀ c, (q ≤ c ∧ c < q + 7) ∨ (D ≤ c ∧ c < D + 4) → ¬ S c) (hT : ∀ c, S c → colS q D c) : NH q n nL nW D H0 χ0 J ψ s p nm x an ar v count := by
  obtain ⟨t2, c1, c2, c3, r⟩ := h.r
  obtain ⟨t3, vs, nd, hv⟩ := h.nd
  exact ⟨h.pw.keep k hc (fun c h1 h2 => hS c (.inl ⟨h1, h2⟩)), h.keep.trans (k.mono hT), ⟨t3, vs, nd.keep k (hS _ (.inr ⟨by omega, by omega⟩)), hv⟩, ⟨t2, c1, c2, c3, r.keep k (hS _ (.inr ⟨by omega, by omega⟩))⟩, h.count.keep k (hS _ (.inr ⟨by omega, by omega⟩))⟩
/-- What needs comes to. -/
def NdQ (q n nL nW D : Nat) (H0 : Hp) (χ0 : Nat → Nat) (s' : Upd.St) (k : Nat) (a : Bs) (c : List Bs) : Rs → Hp → Prop := fun r J => ∃ ψ v, r = .ret (.tuple [v, faultV k a]) ∧ PW J ψ q n nL nW s' ∧ Keep (colS q D) H0 J χ0 ψ ∧ (k = 0 → FV v c)
theorem GS.fv {H : Hp} {χ : Nat → Nat} {i e : Nat} {v : V} {l : List Bs} (h : GS H χ i v 2 e (l.map fileV)) : FV v l := by
  rcases h with ⟨rfl, h0⟩ | ⟨_, m, rfl, _⟩
  · exact .inl ⟨rfl, List.map_eq_nil_iff.1 h0⟩
  · exact .inr ⟨m, rfl⟩
def PathIH (b : Nat) (w0 : World) (q n nL nW m : Nat) : Prop := ∀ C D s p nm s' k a H χ, upd m s p = some (s', k, a) → PW H χ q n nL nW s → Upd.Inv C s → C ≤ 1000 → s.l.length ≤ 1000 → p ∉ s.begun → q + 7 ≤ D →
  Ac (cx b w0) 40 [.ptr nW 0, .agg [.str p, .str nm]] H (PthQ q n nL nW D H χ (s', k, a))
theorem n3_spec (m : Nat) (hU : PathIH b w0 q n nL nW m) {p nm : Bs} {x : It} {an ar : Nat} {s' : Upd.St} {k : Nat} {ea : Bs} {c : List Bs} {va : V} (hva : FV va (x.needs ++ x.order)) (hq : 0 < q) (hD : q + 7 ≤ D) (nl : Nat) (hl : nl ≤ 1000) (hx : x.needs.length + x.order.length ≤ 1000) :
    ∀ i, i ≤ (x.needs ++ x.order).length → ∀ H χ s v count C, NH q n nL nW D H0 χ0 H χ s p nm x an ar v count → Upd.Inv C s → C + ((x.needs ++ x.order).length - i) ≤ 1000 → s.l.length = nl → count.length ≤ i → needs m s p ((todo' x).drop i) count = some (s', k, ea, c) →
      update_work_needs.l3 b w0 (.ptr nW 0) (.ptr an 0) (.ptr ar 0) v va ((x.needs ++ x.order).length : Int) (i : Int) H (NdQ q n nL nW D H0 χ0 s' k ea c) := by
  refine upto ?_ ?_
  · intro H χ s v count C h hi hC hln hcl hn
    rw [List.drop_eq_nil_of_le (by simp [todo'])] at hn
    simp only [needs, Option.some.injEq, Prod.mk.injEq] at hn
    obtain ⟨rfl, rfl, rfl, rfl⟩ := hn
    refine update_work_needs.l3s _ _ _ _ _ _ _ _ _ _ _ ?_
    refine cnd_dec (fun h => by omega) fun _ => ?_
    refine update_work_needs.j13s _ _ _ _ _ _ ?_
    obtain ⟨tr, c1, c2, c3, hr⟩ := h.r
    refine ret_res hr h.pw.cl ?_
    intro J hB cl k
    exact ⟨χ, v, rfl, h.pw.keep (k (fun c => c = D + 1) rfl) cl (by omega), h.keep.trans (k _ (.inr (by omega))), fun _ => h.count.fv⟩
  · intro i hil ih H χ s v count C h hi hC hln hcl hn
    have hil2 := hil
    rw [List.length_append] at hil2
    rw [todo_at x i hil] at hn
    obtain ⟨r, hr⟩ : ∃ r, r = (x.needs ++ x.order)[i] := ⟨_, rfl⟩
    rw [← hr] at hn
    have hpl : (paths s).length = s.l.length := by simp [paths]
    have hdl := hi.drop
    refine update_work_needs.l3s _ _ _ _ _ _ _ _ _ _ _ ?_
    refine cnd_dec (fun _ => ?_) (fun h => by omega)
    refine hva.at hil ?_
    rw [← hr]
    refine open2 (newBox (i := D + 4) h.pw.cl rfl rfl ?_)
    intro af J ψ hB hcl' hk
    have hJ := h.more (hk (fun _ => False)) hcl' (fun _ _ h => h) (fun _ h => h.elim)
    clear h
    obtain ⟨cs, vM, vD, nS, nT, t, h0, h1, h2, h3, h4, h5⟩ := hJ.pw.ex
    refine nf (h1.ld rfl (hB.ld rfl (str_i (h4.lk r ?_))))
    intro bb
    refine intK_i ?_
    refine update_work_needs.j6s _ _ _ _ _ _ _ _ _ _ _ _ _ _ ?_
    have hdec : (decide ((if r ∈ s.done then (2 : Int) else if r ∈ s.begun then 1 else 0) = 1)) = decide (r ∈ s.begun) := by
      by_cases hbg : r ∈ s.begun
      · have hnd : r ∉ s.done := fun hd => (List.nodup_append.1 hi.nd).2.2 r hbg r hd rfl
        simp [hbg, hnd]
      · by_cases hd : r ∈ s.done <;> simp [hbg, hd]
    rw [hdec]
    simp only [needs] at hn
    refine cnd_dec (fun hbg => ?_) (fun hbg => ?_)
    · rw [if_pos hbg] at hn
      obtain ⟨tn, vs, hnd, hnv⟩ := hJ.nd
      have hnv' := hnv
      obtain ⟨nv, ov, rv, e1, e2, e3, rfl⟩ := hnv'
      refine nf2 (h1.ld rfl (fa0 (fa0 (hnd.ld rfl (str_i (fa0 (hB.ld rfl (str_i ?_))))))))
      refine newX h0.cl ?_
      intro a J1 cl1 k1
      refine ⟨(h1.keep (k1 (fun _ => False)) id).ld rfl rfl, ?_⟩
      refine (h3.keep (k1 (fun _ => False)) id).app cl1 (by simp) (by simp; omega) ?_
      intro m' J2 φ hG cl2 k2
      have k12 : Keep (fun c => c = q + 4) J J2 ψ φ := (k1 _).trans (k2 _ rfl)
      refine nf2 (one_i rfl ((h1.keep k12 (by omega)).st cl2 (by simp) rfl ?_))
      intro J3 hB3 cl3 k3
      have k13 : Keep (fun c => c = q + 4 ∨ c = q + 2) J J3 ψ φ := (k12.mono (fun c h => .inl h)).trans (k3 _ (.inr rfl))
      rw [wrap1 i (by omega)]
      refine ih J3 φ { s with dropped := s.dropped ++ [(p, r)] } v count (C + 1) ⟨⟨cs, vM, _, nS, nT, t, h0.keep k13 cl3 (by omega) (by omega), hB3, h2.keep k13 (by omega), by simpa [prV] using hG.keep (k3 (fun c => c = q + 2) rfl) (by omega), h4.keep k13 (by omega), h5.keep k13 (by omega)⟩, hJ.keep.trans (k13.mono (fun c h => by unfold colS; omega)), ?_, ?_, ?_⟩ (hi.dropped (p, r)) (by omega) hln (by omega) hn
      · exact ⟨tn, _, hnd.keep k13 (by omega), hnv⟩
      · obtain ⟨tr, c1, c2, c3, hr⟩ := hJ.r
        exact ⟨tr, c1, c2, c3, hr.keep k13 (by omega)⟩
      · exact hJ.count.keep k13 (by omega)
    · rw [if_neg hbg] at hn
      refine update_work_needs.j7s _ _ _ _ _ _ _ _ _ _ _ _ _ ?_
      cases hu : upd m s r with
      | none => rw [hu] at hn; cases hn
      | some y =>
        obtain ⟨s1, k1, a1⟩ := y
        rw [hu] at hn
        simp only at hn
        have haf := upd_after m C s r s1 k1 a1 hu hi hbg
        refine hB.ldw rfl (open2 ?_)
        refine (hU C (D + 6) s r r s1 k1 a1 J ψ hu hJ.pw hi (by omega) (by omega) hbg (by omega)).mono ?_
        rintro r0 J1 ⟨φ, rfl, hP, hk'⟩
        refine ret_i (open_fault ?_)
        have hkD : Keep (colS q D) J J1 ψ φ := hk'.mono (fun c => colS_mono (by omega))
        obtain ⟨tn, vs, hnd, hnv⟩ := hJ.nd
        obtain ⟨tr, c1, c2, c3, hrr⟩ := hJ.r
        have hJ1 : NH q n nL nW D H0 χ0 J1 φ s1 p nm x an ar v count := ⟨hP, hJ.keep.trans hkD, ⟨tn, vs, hnd.keep hk' (by unfold colS; omega), hnv⟩, ⟨tr, c1, c2, c3, hrr.keep hk' (by unfold colS; omega)⟩, hJ.count.keep hk' (by unfold colS; omega)⟩
        have hB1 := hB.keep hk' (by unfold colS; omega)
        refine newBox (i := D + 5) hP.cl rfl rfl ?_
        intro ae J2 φ2 hE cl2 k2
        have hJ2 := hJ1.more (k2 (fun _ => False)) cl2 (fun _ _ h => h) (fun _ h => h.elim)
        have hB2 := hB1.keep (k2 (fun _ => False)) id
        refine hE.ld rfl (intK_i ?_)
        rw [show (decide ((k1 : Int) = 0)) = decide (k1 = 0) from by simp, cnd_not]
        refine cnd_dec (fun hk0 => ?_) (fun hk0 => ?_)
        · subst hk0
          rw [if_neg (by simp)] at hn
          obtain ⟨tn2, vs2, hnd2, hnv2⟩ := hJ2.nd
          obtain ⟨nv, ov, rv, e1, e2, e3, rfl⟩ := hnv2
          refine fa0 (hnd2.ld rfl (e1.len ?_))
          rw [wrap1 i (by omega), show (decide ((i : Int) < (x.needs.length : Int))) = decide (i < x.needs.length) from by simp]
          have hlen1 : s1.l.length = nl := by have := congrArg List.length haf.1; simp [paths] at this; omega
          refine cnd_dec (fun hin => ?_) (fun hin => ?_)
          · rw [if_pos (by simpa using hin)] at hn
            refine hB2.ldw rfl (open2 ?_)
            refine newX cl2 ?_
            intro a3 J3 cl3 k3
            have hJ3 := hJ2.more (k3 (fun _ => False)) cl3 (fun _ _ h => h) (fun _ h => h.elim)
            refine hJ3.count.app cl3 (by simp) (by simp; omega) ?_
            intro m' J4 φ4 hG cl4 k4
            have k34 := k4 (fun c => c = D + 3) rfl
            obtain ⟨tn3, vs3, hnd3, hnv3⟩ := hJ3.nd
            obtain ⟨tr3, d1, d2, d3, hr3⟩ := hJ3.r
            exact ih J4 φ4 s1 _ (count ++ [r]) C ⟨hJ3.pw.keep k34 cl4 (by omega), hJ3.keep.trans (k4 _ (.inr (by omega))), ⟨tn3, vs3, hnd3.keep k34 (by omega), hnv3⟩, ⟨tr3, d1, d2, d3, hr3.keep k34 (by omega)⟩, by simpa [fileV] using hG⟩ haf.ok (by omega) hlen1 (by simp; omega) hn
          · rw [if_neg (by simpa using hin)] at hn
            exact ih J2 φ2 s1 v count C hJ2 haf.ok (by omega) hlen1 (by omega) hn
        · rw [if_pos hk0] at hn
          cases hn
          refine hE.ldw rfl (open_fault ?_)
          obtain ⟨tr2, d1, d2, d3, hr2⟩ := hJ2.r
          refine ret_res hr2 cl2 ?_
          intro J3 hB3 cl3 k3
          exact ⟨φ2, .nilsl, rfl, hJ2.pw.keep (k3 (fun c => c = D + 1) rfl) cl3 (by omega), hJ2.keep.trans (k3 _ (.inr (by omega))), fun h0 => absurd h0 hk0⟩
end
end Go.Proofs.Ytmpheeanjjfddaa.S
