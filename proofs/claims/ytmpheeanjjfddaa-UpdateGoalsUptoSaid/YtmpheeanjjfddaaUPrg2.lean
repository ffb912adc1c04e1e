/- The program's path: what stands, and its end. -/
import Derived.Test.YtmpheeanjjfddaaUPrg1
import Derived.Test.YtmpheeanjjfddaaUShape
import Derived.Test.YtmpheeanjjfddaaSU5
namespace Go.Proofs.Ytmpheeanjjfddaa.S
open Go Go.RowKit Go.Proofs Go.Proofs.Ytmpheeanjjfddaa.SM Go.Proofs.Ytmpheeanjjfddaa.Upd
set_option linter.unusedVariables false
set_option linter.unusedSimpArgs false
set_option maxRecDepth 100000
theorem inv_i {t f : Nat} {name : String} {x : V} {K : FuncId → V → Prop} (h : methodA prog t name = some f) (k : K f x) : invE prog (.iface t x) name K := by
  unfold invE; simp only; rw [h]; exact k
theorem call_b {b : Nat} {w0 : World} {f : Nat} {args : List V} {H : Hp} {K Xp : V → Hp → Prop} (h : hasBody prog f = true) (k : Ac (cx b w0) f args H (thenR K Xp)) : callE (cx b w0) f args H K Xp := by
  have h' : hasBody (cx b w0).P f = true := h
  unfold callE
  simp only [h']
  exact k
theorem m_find : methodA prog 37 "Find" = some 148 := by kernel_rfl
theorem m_time : methodA prog 37 "Time" = some 150 := by kernel_rfl
theorem m_make : methodA prog 37 "Make" = some 149 := by kernel_rfl
theorem b_find : hasBody prog 148 = true := by kernel_rfl
theorem b_time : hasBody prog 150 = true := by kernel_rfl
theorem b_make : hasBody prog 149 = true := by kernel_rfl
theorem nf2 {n a c : Nat} {K : V → Prop} (h : K (.ptr n (a + c))) : nckE (.ptr n 0) fun v => faE a v fun p => faE c p K := by
  show K (.ptr n (0 + a + c))
  rw [Nat.zero_add]; exact h
def stF (bg dn : List Bs) (k : Bs) : V := .int .i64 (if k ∈ dn then 2 else if k ∈ bg then 1 else 0)
def mdF (st : List Bs) (k : Bs) : V := .bool (decide (k ∈ st))
/-- The program's work. -/
structure PW (H : Hp) (χ : Nat → Nat) (q n nL nW : Nat) (s : Upd.St) : Prop where
  ex : ∃ cs vM vD nS nT t, WS H χ q n nL s.l s.now cs ∧ Bx H χ (q + 2) nW [.iface 37 (.agg [.ptr n 0]), vM, vD, .map nS, .map nT] t ∧ GS H χ (q + 3) vM 1 9 (s.made.map .str) ∧ GS H χ (q + 4) vD 2 46 (s.dropped.map prV) ∧
    Mp H χ (q + 5) nS (.int .i64 0) (stF s.begun s.done) ∧ Mp H χ (q + 6) nT (.bool false) (mdF s.stale)
theorem PW.keep {S : Nat → Prop} {H J : Hp} {χ ψ : Nat → Nat} {q n nL nW : Nat} {s : Upd.St} (h : PW H χ q n nL nW s) (k : Keep S H J χ ψ) (hc : Cl J ψ) (hS : ∀ c, q ≤ c → c < q + 7 → ¬ S c) : PW J ψ q n nL nW s := by
  obtain ⟨cs, vM, vD, nS, nT, t, h0, h1, h2, h3, h4, h5⟩ := h.ex
  exact ⟨cs, vM, vD, nS, nT, t, h0.keep k hc (hS _ (by omega) (by omega)) (hS _ (by omega) (by omega)), h1.keep k (hS _ (by omega) (by omega)), h2.keep k (hS _ (by omega) (by omega)), h3.keep k (hS _ (by omega) (by omega)), h4.keep k (hS _ (by omega) (by omega)), h5.keep k (hS _ (by omega) (by omega))⟩
theorem PW.cl {H : Hp} {χ : Nat → Nat} {q n nL nW : Nat} {s : Upd.St} (h : PW H χ q n nL nW s) : Cl H χ := by
  obtain ⟨_, _, _, _, _, _, h0, _⟩ := h.ex
  exact h0.cl
theorem PW.wl {H : Hp} {χ : Nat → Nat} {q n nL nW : Nat} {s : Upd.St} (h : PW H χ q n nL nW s) : WL H n nL s.l := by
  obtain ⟨_, _, _, _, _, _, h0, _⟩ := h.ex
  exact h0.wl
theorem open9 {a1 a2 a6 : List UInt8} {v3 v4 v5 : V} {n7 : Int} {b8 b9 : Bool} {K : List UInt8 → List UInt8 → V → V → V → List UInt8 → Int → Bool → Bool → Prop} (k : K a1 a2 v3 v4 v5 a6 n7 b8 b9) :
    aggE (.agg [.str a1, .str a2, v3, v4, v5, .str a6, .int .i64 n7, .bool b8, .bool b9]) fun l_25 => headE l_25 fun c_26 r_27 => strE c_26 fun s_28 => headE r_27 fun c_29 r_30 => strE c_29 fun s_31 => headE r_30 fun c_32 r_33 => headE r_33 fun c_34 r_35 => headE r_35 fun c_36 r_37 => headE r_37 fun c_38 r_39 => strE c_38 fun s_40 => headE r_39 fun c_41 r_42 => intK .i64 c_41 fun n_43 => headE r_42 fun c_44 r_45 => boolE c_44 fun b_46 => headE r_45 fun c_47 r_48 => boolE c_47 fun b_49 => endE r_48 (K s_28 s_31 c_32 c_34 c_36 s_40 n_43 b_46 b_49) := by
  simp only [aggE, headE, strE, boolE, intK, endE, decide_true]
  exact k
theorem open2 {a1 a2 : List UInt8} {K : List UInt8 → List UInt8 → Prop} (k : K a1 a2) : aggE (.agg [.str a1, .str a2]) fun l => headE l fun c r => strE c fun s => headE r fun c r => strE c fun t => endE r (K s t) := k
theorem openT {n : Int} {c : Bool} {K : Int → Bool → Prop} (k : K n c) : tupE (.tuple [.int .i64 n, .bool c]) fun l => headE l fun a r => intK .i64 a fun m => headE r fun a r => boolE a fun d => endE r (K m d) := by
  simp only [tupE, headE, boolE, intK, endE, decide_true]
  exact k
section
variable {b : Nat} {w0 : World} {q n nL nW D : Nat} {H0 H : Hp} {χ0 χ : Nat → Nat}
theorem call_time {s : Upd.St} (h : PW H χ q n nL nW s) (hl : s.l.length ≤ 1000) (r : Bs) {K Xp : V → Hp → Prop}
    (k : ∀ J, Ext H J → K (.tuple [.int .i64 ((Upd.get s.l r).time : Int), .bool (!decide ((Upd.get s.l r).time = 0))]) J) :
    nckE (.ptr nW 0) fun v => faE 0 v fun p => ldE false 1 p H fun v => invE prog v "Time" fun g x => callE (cx b w0) g (x :: [.str r]) H K Xp := by
  obtain ⟨cs, vM, vD, nS, nT, t, h0, h1, h2, h3, h4, h5⟩ := h.ex
  refine nf (h1.ld rfl (inv_i m_time (call_b b_time ?_)))
  refine (time_spec n nL s.l hl r H h0.wl).mono ?_
  rintro r0 J ⟨rfl, he⟩
  exact ret_i (k J he)
theorem newer_spec {s : Upd.St} (h : PW H χ q n nL nW s) (hl : s.l.length ≤ 1000) (r p : Bs) :
    Ac (cx b w0) 71 [.ptr nW 0, .str r, .str p] H (fun r' J => r' = .ret (.bool (decide (r ∈ s.stale) || (!decide ((Upd.get s.l r).time = 0) && !decide ((Upd.get s.l p).time = 0) && decide ((Upd.get s.l p).time < (Upd.get s.l r).time)))) ∧ Ext H J) := by
  refine update_work_newer.s b w0 _ _ _ H _ ?_
  have kE : ∀ {J J' : Hp}, Ext J J' → PW J χ q n nL nW s → PW J' χ q n nL nW s := fun he hp => hp.keep (Keep.ext (S := fun _ => False) he) (hp.cl.ext he) (fun _ _ _ h => h)
  refine call_time h hl r ?_
  intro J1 he1
  refine openT ?_
  have h1 := kE he1 h
  refine call_time h1 hl p ?_
  intro J2 he2
  refine openT ?_
  have h2 := kE he2 h1
  obtain ⟨cs, vM, vD, nS, nT, t, g0, g1, g2, g3, g4, g5⟩ := h2.ex
  refine nf (g1.ld rfl (g5.lk r ?_))
  intro bb
  refine bool_i ?_
  have he := he1.trans he2
  cases hm : decide (r ∈ s.stale) with
  | true => exact ⟨by rw [Bool.true_or], he⟩
  | false =>
    show cnd true _ _
    refine cndT_i ?_
    cases hr : decide ((Upd.get s.l r).time = 0) with
    | true => exact ⟨by simp, he⟩
    | false =>
      refine cndT_i ?_
      cases hp : decide ((Upd.get s.l p).time = 0) with
      | true => exact ⟨by simp, he⟩
      | false =>
        refine cndT_i ⟨?_, he⟩
        simp
/-- All that stands in path. -/
structure PH (q n nL nW D : Nat) (H0 : Hp) (χ0 : Nat → Nat) (H : Hp) (χ : Nat → Nat) (s : Upd.St) (p nm : Bs) (x : It) (af ar an : Nat) : Prop where
  pw : PW H χ q n nL nW s
  keep : Keep (colS q D) H0 H χ0 χ
  f : ∃ t, Bx H χ D af [.str p, .str nm] t
  r : ∃ t c1 c2 c3, Bx H χ (D + 1) ar [c1, c2, c3] t
  nd : ∃ t vs, Bx H χ (D + 2) an vs t ∧ NodeV p nm x vs
theorem PH.more {S : Nat → Prop} {J : Hp} {ψ : Nat → Nat} {s : Upd.St} {p nm : Bs} {x : It} {af ar an : Nat} (h : PH q n nL nW D H0 χ0 H χ s p nm x af ar an) (k : Keep S H J χ ψ) (hc : Cl J ψ) (hS : ∀ c, (q ≤ c ∧ c < q + 7) ∨ (D ≤ c ∧ c < D + 3) → ¬ S c) (hT : ∀ c, S c → colS q D c) : PH q n nL nW D H0 χ0 J ψ s p nm x af ar an := by
  obtain ⟨t1, f⟩ := h.f
  obtain ⟨t2, c1, c2, c3, r⟩ := h.r
  obtain ⟨t3, vs, nd, hv⟩ := h.nd
  exact ⟨h.pw.keep k hc (fun c h1 h2 => hS c (.inl ⟨h1, h2⟩)), h.keep.trans (k.mono hT), ⟨t1, f.keep k (hS _ (.inr ⟨by omega, by omega⟩))⟩, ⟨t2, c1, c2, c3, r.keep k (hS _ (.inr ⟨by omega, by omega⟩))⟩, ⟨t3, vs, nd.keep k (hS _ (.inr ⟨by omega, by omega⟩)), hv⟩⟩
theorem PH.ext {J : Hp} {s : Upd.St} {p nm : Bs} {x : It} {af ar an : Nat} (h : PH q n nL nW D H0 χ0 H χ s p nm x af ar an) (he : Ext H J) : PH q n nL nW D H0 χ0 J χ s p nm x af ar an :=
  h.more (Keep.ext (S := fun _ => False) he) (h.pw.cl.ext he) (fun _ _ h => h) (fun _ h => h.elim)
/-- What path comes to. -/
def PthQ (q n nL nW D : Nat) (H0 : Hp) (χ0 : Nat → Nat) (x : Upd.St × Nat × Bs) : Rs → Hp → Prop := fun r J => ∃ ψ, r = .ret (faultV x.2.1 x.2.2) ∧ PW J ψ q n nL nW x.1 ∧ Keep (colS q D) H0 J χ0 ψ
/-- The result is laid down and taken up again. -/
theorem ret_res {χ : Nat → Nat} {i ar t : Nat} {c1 c2 c3 : V} {k : Int} {a : Bs} {K : Int → List UInt8 → Int → Hp → Prop} (h : Bx H χ i ar [c1, c2, c3] t) (hc : Cl H χ) (kk : ∀ J, Bx J χ i ar [.int .i64 k, .str a, .int .i64 0] t → Cl J χ → (∀ S : Nat → Prop, S i → Keep S H J χ χ) → K k a 0 J) :
    stE (.ptr ar 0) [.int .i64 k, .str a, .int .i64 0] H fun H' => ldE true 3 (.ptr ar 0) H' fun v => aggE v fun l => headE l fun c r => intK .i64 c fun m => headE r fun c r => strE c fun s => headE r fun c r => intK .i64 c fun m' => endE r (K m s m' H') := by
  refine h.stw hc rfl rfl ?_
  intro J hB hc' hk
  refine hB.ldw rfl ?_
  simp only [aggE, headE, strE, intK, endE, decide_true]
  exact kk J hB hc' hk
theorem open_fault {k : Int} {a : Bs} {K : Int → List UInt8 → Int → Prop} (kk : K k a 0) : aggE (.agg [.int .i64 k, .str a, .int .i64 0]) fun l => headE l fun c r => intK .i64 c fun m => headE r fun c r => strE c fun s => headE r fun c r => intK .i64 c fun m' => endE r (K m s m') := by
  simp only [aggE, headE, strE, intK, endE, decide_true]
  exact kk
theorem p23_spec {s : Upd.St} {p nm : Bs} {x : It} {af ar an : Nat} {bg : List Bs} (st : Bool) (h : PH q n nL nW D H0 χ0 H χ s p nm x af ar an) (hb : s.begun = bg ++ [p]) (hs : p ∉ s.stale) (hD : q + 7 ≤ D) :
    update_work_path.j23 b w0 (.ptr nW 0) (.ptr af 0) (.ptr ar 0) st H (PthQ q n nL nW D H0 χ0 (fin s p st, 0, [])) := by
  refine update_work_path.j23s _ _ _ _ _ _ _ _ ?_
  obtain ⟨cs, vM, vD, nS, nT, t, h0, h1, h2, h3, h4, h5⟩ := h.pw.ex
  obtain ⟨tf, hf⟩ := h.f
  obtain ⟨tr, c1, c2, c3, hr⟩ := h.r
  refine nf (h1.ld rfl (fa0 (hf.ld rfl (str_i (nf (h1.ld rfl (fa0 (hf.ld rfl (str_i ?_)))))))))
  refine h5.ent h0.cl p ?_
  intro J1 m1 cl1 k1
  have hf1 := hf.keep (k1 (fun c => c = q + 6) rfl) (by omega)
  refine ⟨hf1.ld rfl rfl, ?_⟩
  refine m1.es cl1 p (.bool st) (mdF (fin s p st).stale) (fun r => ?_) ?_
  · unfold mdF fin
    simp only
    by_cases hr : r = p
    · subst hr
      rw [if_pos rfl]
      cases st <;> simp [hs]
    · rw [if_neg hr]
      cases st <;> simp [hr]
  intro J2 m2 cl2 k2
  have k12 : Keep (fun c => c = q + 6) H J2 χ χ := (k1 (fun c => c = q + 6) rfl).trans (k2 _ rfl)
  have hf2 := hf.keep k12 (by omega)
  refine ⟨hf2.ld rfl rfl, ?_⟩
  refine (h4.keep k12 (by omega)).ent cl2 p ?_
  intro J3 m3 cl3 k3
  refine m3.es cl3 p (.int .i64 2) (stF (fin s p st).begun (fin s p st).done) (fun r => ?_) ?_
  · unfold stF fin
    simp only [hb]
    by_cases hr : r = p
    · subst hr; simp
    · rw [if_neg hr]
      simp [hr]
  intro J4 m4 cl4 k4
  have k34 : Keep (fun c => c = q + 5) J2 J4 χ χ := (k3 (fun c => c = q + 5) rfl).trans (k4 _ rfl)
  have k14 : Keep (fun c => c = q + 5 ∨ c = q + 6) H J4 χ χ := (k12.mono (fun c h => .inr h)).trans (k34.mono (fun c h => .inl h))
  refine ret_res (hr.keep k14 (by omega)) cl4 ?_
  intro J5 hB5 cl5 k5
  have k15 : Keep (fun c => c = q + 5 ∨ c = q + 6 ∨ c = D + 1) H J5 χ χ := (k14.mono (fun c h => by omega)).trans (k5 _ (.inr (.inr rfl)))
  refine ⟨χ, rfl, ⟨cs, vM, vD, nS, nT, t, h0.keep k15 cl5 (by omega) (by omega), h1.keep k15 (by omega), h2.keep k15 (by omega), h3.keep k15 (by omega), m4.keep (k5 (fun c => c = D + 1) rfl) (by omega), (m2.keep k34 (by omega)).keep (k5 (fun c => c = D + 1) rfl) (by omega)⟩, h.keep.trans (k15.mono (fun c h => by unfold colS; omega))⟩
theorem p22_spec {s : Upd.St} {p nm : Bs} {x : It} {af ar an : Nat} {bg : List Bs} (st : Bool) (h : PH q n nL nW D H0 χ0 H χ s p nm x af ar an) (hb : s.begun = bg ++ [p]) (hs : p ∉ s.stale) (hD : q + 7 ≤ D) (hm : s.made.length < 4294967296) :
    update_work_path.j22 b w0 (.ptr nW 0) (.ptr af 0) (.ptr ar 0) st H (PthQ q n nL nW D H0 χ0 (fin { s with made := s.made ++ [p] } p st, 0, [])) := by
  refine update_work_path.j22s _ _ _ _ _ _ _ _ ?_
  obtain ⟨cs, vM, vD, nS, nT, t, h0, h1, h2, h3, h4, h5⟩ := h.pw.ex
  obtain ⟨tf, hf⟩ := h.f
  refine nf2 (h1.ld rfl (fa0 (hf.ld rfl (str_i ?_))))
  refine newX h0.cl ?_
  intro a J1 cl1 k1
  refine ⟨(h1.keep (k1 (fun _ => False)) id).ld rfl rfl, ?_⟩
  refine (h2.keep (k1 (fun _ => False)) id).app cl1 (by simp) (by simpa using by omega) ?_
  intro m J2 ψ hG cl2 k2
  have k12 : Keep (fun c => c = q + 3) H J2 χ ψ := (k1 _).trans (k2 _ rfl)
  refine nf2 (one_i rfl ((h1.keep k12 (by omega)).st cl2 (by simp) rfl ?_))
  intro J3 hB3 cl3 k3
  have k13 : Keep (fun c => c = q + 3 ∨ c = q + 2) H J3 χ ψ := (k12.mono (fun c h => .inl h)).trans (k3 _ (.inr rfl))
  refine p23_spec st (s := { s with made := s.made ++ [p] }) (nm := nm) (x := x) (an := an) ⟨⟨cs, _, vD, nS, nT, t, h0.keep k13 cl3 (by omega) (by omega), hB3, by simpa using hG.keep (k3 (fun c => c = q + 2) rfl) (by omega), h3.keep k13 (by omega), h4.keep k13 (by omega), h5.keep k13 (by omega)⟩, h.keep.trans (k13.mono (fun c h => by unfold colS; omega)), ?_, ?_, ?_⟩ hb hs hD
  · exact ⟨tf, hf.keep k13 (by omega)⟩
  · obtain ⟨tr, c1, c2, c3, hr⟩ := h.r
    exact ⟨tr, c1, c2, c3, hr.keep k13 (by omega)⟩
  · obtain ⟨tn, vs, hn, hv⟩ := h.nd
    exact ⟨tn, vs, hn.keep k13 (by omega), hv⟩
theorem p19_spec {s : Upd.St} {p nm : Bs} {x : It} {af ar an : Nat} {bg : List Bs} (st re : Bool) (h : PH q n nL nW D H0 χ0 H χ s p nm x af ar an) (hb : s.begun = bg ++ [p]) (hs : p ∉ s.stale) (hq : 0 < q) (hD : q + 7 ≤ D) {C : Nat} (hi : Upd.Inv C s) (hl : s.l.length ≤ 1000) :
    update_work_path.j19 b w0 (.ptr nW 0) (.ptr af 0) (.ptr ar 0) (.ptr an 0) st (st && re) H (PthQ q n nL nW D H0 χ0 (clo s p st re)) := by
  have hd := hi.done_le
  have hpl : (paths s).length = s.l.length := by simp [paths]
  have hnow := hi.now
  have hmd := hi.made
  refine update_work_path.j19s _ _ _ _ _ _ _ _ _ _ ?_
  unfold clo
  refine cnd_of (fun hsr => ?_) (fun hsr => ?_)
  · rw [if_pos hsr, make_W]
    obtain ⟨cs, vM, vD, nS, nT, t, h0, h1, h2, h3, h4, h5⟩ := h.pw.ex
    obtain ⟨tn, vs, hn, hv⟩ := h.nd
    have hv' := hv
    obtain ⟨nv, ov, rv, e1, e2, e3, rfl⟩ := hv'
    refine nf (h1.ld rfl (hn.ldw rfl (open9 ?_)))
    -- what comes behind Make
    have after : ∀ J ψ v ae t c1 c2 c3, Keep (fun c => c = q ∨ c = q + 1 ∨ D + 5 ≤ c ∨ c = D + 3) H J χ ψ → Bx J ψ (D + 3) ae [c1, c2, c3] t → (match makeW s.l s.now p with
        | none => v = faultV 9 p ∧ WS J ψ q n nL s.l s.now cs
        | some (l', now') => v = faultV 0 [] ∧ WS J ψ q n nL l' now' cs) →
        aggE v fun l => headE l fun c r => intK .i64 c fun m => headE r fun c r => strE c fun a => headE r fun c r => intK .i64 c fun m' => endE r (stE (.ptr ae 0) [.int .i64 m, .str a, .int .i64 m'] J fun J' => update_work_path.j20 b w0 (.ptr nW 0) (.ptr af 0) (.ptr ar 0) st (.ptr ae 0) J' (PthQ q n nL nW D H0 χ0 (aft s p st ((makeW s.l s.now p).map fun x => ({ s with l := x.1, now := x.2 } : Upd.St))))) := by
      intro J ψ v ae te c1 c2 c3 k hB hM
      have stays : ∀ s', (WS J ψ q n nL s'.l s'.now cs) → s'.made = s.made → s'.dropped = s.dropped → s'.begun = s.begun → s'.done = s.done → s'.stale = s.stale → ∀ J', Keep (fun c => c = D + 3) J J' ψ ψ → Cl J' ψ → PH q n nL nW D H0 χ0 J' ψ s' p nm x af ar an := by
        intro s' hW g1 g2 g3 g4 g5 J' k' hc'
        have kk : Keep (fun c => c = q ∨ c = q + 1 ∨ D + 5 ≤ c ∨ c = D + 3) H J' χ ψ := k.trans (k'.mono (fun c h => by omega))
        obtain ⟨tf, hf⟩ := h.f
        obtain ⟨tr, d1, d2, d3, hr⟩ := h.r
        exact ⟨⟨cs, vM, vD, nS, nT, t, hW.keep k' hc' (by omega) (by omega), h1.keep kk (by omega), g1 ▸ h2.keep kk (by omega), g2 ▸ h3.keep kk (by omega), g3 ▸ g4 ▸ h4.keep kk (by omega), g5 ▸ h5.keep kk (by omega)⟩, h.keep.trans (kk.mono (fun c h => by unfold colS; omega)), ⟨tf, hf.keep kk (by omega)⟩, ⟨tr, d1, d2, d3, hr.keep kk (by omega)⟩, ⟨tn, _, hn.keep kk (by omega), hv⟩⟩
      cases hm : makeW s.l s.now p with
      | none =>
        rw [hm] at hM
        obtain ⟨rfl, hW⟩ := hM
        refine open_fault (hB.stw hW.cl rfl rfl ?_)
        intro J2 hB2 cl2 k2
        refine update_work_path.j20s _ _ _ _ _ _ _ _ _ ?_
        refine fa0 (hB2.ld rfl (intK_i ?_))
        refine cndT_i (hB2.ldw rfl (open_fault ?_))
        have hP := stays s hW rfl rfl rfl rfl rfl J2 (k2 _ rfl) cl2
        obtain ⟨tr, d1, d2, d3, hr⟩ := hP.r
        refine ret_res hr cl2 ?_
        intro J3 hB3 cl3 k3
        exact ⟨ψ, rfl, hP.pw.keep (k3 (fun c => c = D + 1) rfl) cl3 (by omega), hP.keep.trans (k3 _ (.inr (by omega)))⟩
      | some y =>
        obtain ⟨l', now'⟩ := y
        rw [hm] at hM
        obtain ⟨rfl, hW⟩ := hM
        refine open_fault (hB.stw hW.cl rfl rfl ?_)
        intro J2 hB2 cl2 k2
        refine update_work_path.j20s _ _ _ _ _ _ _ _ _ ?_
        refine fa0 (hB2.ld rfl (intK_i ?_))
        refine cndF_i ?_
        exact p22_spec st (stays { s with l := l', now := now' } hW rfl rfl rfl rfl rfl J2 (k2 _ rfl) cl2) hb hs hD (show s.made.length < _ by omega)
    refine ⟨inv_i m_make (call_b b_make ?_), ?_⟩
    · refine (pmake_spec q n nL hq s.l hl s.now (by omega) cs p nm x _ hv H χ h0 (D + 5) (by omega)).mono ?_
      rintro r J ⟨ψ, k, hM⟩
      have hr : ∃ v, r = .ret v ∧ (match makeW s.l s.now p with
        | none => v = faultV 9 p ∧ WS J ψ q n nL s.l s.now cs
        | some (l', now') => v = faultV 0 [] ∧ WS J ψ q n nL l' now' cs) := by
        cases hm : makeW s.l s.now p with
        | none => rw [hm] at hM; obtain ⟨rfl, hW⟩ := hM; exact ⟨_, rfl, rfl, hW⟩
        | some y => obtain ⟨l', now'⟩ := y; rw [hm] at hM; obtain ⟨rfl, hW⟩ := hM; exact ⟨_, rfl, rfl, hW⟩
      obtain ⟨v, rfl, hv2⟩ := hr
      have cl : Cl J ψ := by
        cases hm : makeW s.l s.now p with
        | none => rw [hm] at hv2; exact hv2.2.cl
        | some y => obtain ⟨l', now'⟩ := y; rw [hm] at hv2; exact hv2.2.cl
      refine ret_i ?_
      have hform : ∃ m a, v = .agg [.int .i64 m, .str a, .int .i64 0] := by
        cases hm : makeW s.l s.now p with
        | none => rw [hm] at hv2; exact ⟨_, _, hv2.1⟩
        | some y => obtain ⟨l', now'⟩ := y; rw [hm] at hv2; exact ⟨_, _, hv2.1⟩
      obtain ⟨m, a, rfl⟩ := hform
      refine open_fault ?_
      refine newB (D + 3) cl ?_
      intro ae J2 φ hB2 cl2 k2
      have hM2 : (match makeW s.l s.now p with
        | none => V.agg [.int .i64 m, .str a, .int .i64 0] = faultV 9 p ∧ WS J2 φ q n nL s.l s.now cs
        | some (l', now') => V.agg [.int .i64 m, .str a, .int .i64 0] = faultV 0 [] ∧ WS J2 φ q n nL l' now' cs) := by
        cases hm : makeW s.l s.now p with
        | none => rw [hm] at hv2; exact ⟨hv2.1, hv2.2.keep (k2 (fun _ => False)) cl2 id id⟩
        | some y => obtain ⟨l', now'⟩ := y; rw [hm] at hv2; exact ⟨hv2.1, hv2.2.keep (k2 (fun _ => False)) cl2 id id⟩
      have := after J2 φ _ ae _ _ _ _ ((k.mono (fun c h => by omega)).trans (k2 _)) hB2 hM2
      simpa only [aggE, headE, strE, intK, endE, decide_true] using this
    · refine newB (D + 3) h0.cl ?_
      intro ae J1 φ hB1 cl1 k1
      refine ⟨?_, (h1.keep (k1 (fun _ => False)) id).ld rfl rfl, inv_i m_make (call_b b_make ?_)⟩
      · exact (hn.keep (k1 (fun _ => False)) id).ldw rfl (open9 rfl)
      · refine (pmake_spec q n nL hq s.l hl s.now (by omega) cs p nm x _ hv J1 φ (h0.keep (k1 (fun _ => False)) cl1 id id) (D + 5) (by omega)).mono ?_
        rintro r J ⟨ψ, k, hM⟩
        have hr : ∃ v, r = .ret v ∧ (match makeW s.l s.now p with
          | none => v = faultV 9 p ∧ WS J ψ q n nL s.l s.now cs
          | some (l', now') => v = faultV 0 [] ∧ WS J ψ q n nL l' now' cs) := by
          cases hm : makeW s.l s.now p with
          | none => rw [hm] at hM; obtain ⟨rfl, hW⟩ := hM; exact ⟨_, rfl, rfl, hW⟩
          | some y => obtain ⟨l', now'⟩ := y; rw [hm] at hM; obtain ⟨rfl, hW⟩ := hM; exact ⟨_, rfl, rfl, hW⟩
        obtain ⟨v, rfl, hv2⟩ := hr
        refine ret_i ?_
        exact after J ψ v ae _ _ _ _ ((k1 _).trans (k.mono (fun c h => by omega))) (hB1.keep k (by omega)) hv2
  · rw [if_neg (by simp [hsr])]
    exact p23_spec st h hb hs hD
end
end Go.Proofs.Ytmpheeanjjfddaa.S
