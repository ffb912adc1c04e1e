/- The reference's Make; what an append to a field does. -/
import Derived.Test.YtmpheeanjjfddaaURef2
import Derived.Test.YtmpheeanjjfddaaSGs
import Derived.Test.YtmpheeanjjfddaaUInv
namespace Go.Proofs.Ytmpheeanjjfddaa.S
open Go Go.RowKit Go.Proofs Go.Proofs.Ytmpheeanjjfddaa.SM Go.Proofs.Ytmpheeanjjfddaa.Upd
set_option linter.unusedVariables false
set_option linter.unusedSimpArgs false
def timed (x : It) (t : Nat) : It := { x with time := t }
/-- A told world: items and the time. -/
structure WS (H : Hp) (χ : Nat → Nat) (q n nL : Nat) (l : List It) (now : Nat) (cs : List V) : Prop where
  box : ∃ t, Bx H χ q n (lV nL l :: .int .i64 (now : Int) :: cs) t
  row : l ≠ [] → ∃ extra t, H nL = some (.row (l.flatMap itV ++ extra) t) ∧ χ nL = q + 1
  cl : Cl H χ
theorem WS.wl {H : Hp} {χ : Nat → Nat} {q n nL now : Nat} {l : List It} {cs : List V} (h : WS H χ q n nL l now cs) : WL H n nL l :=
  ⟨by obtain ⟨t, hb⟩ := h.box; exact ⟨_, t, hb.at_⟩, fun hne => by obtain ⟨e, t, hr, _⟩ := h.row hne; exact ⟨e, t, hr⟩⟩
theorem WS.keep {S : Nat → Prop} {H J : Hp} {χ ψ : Nat → Nat} {q n nL now : Nat} {l : List It} {cs : List V} (h : WS H χ q n nL l now cs) (k : Keep S H J χ ψ) (hc : Cl J ψ) (h0 : ¬ S q) (h1 : ¬ S (q + 1)) : WS J ψ q n nL l now cs := by
  refine ⟨by obtain ⟨t, hb⟩ := h.box; exact ⟨t, hb.keep k h0⟩, fun hne => ?_, hc⟩
  obtain ⟨e, t, hr, hcol⟩ := h.row hne
  obtain ⟨k1, k2⟩ := k nL _ hr (by rw [hcol]; exact h1)
  exact ⟨e, t, k1, k2.trans hcol⟩
def makeW (l : List It) (now : Nat) (p : Bs) : Option (List It × Nat) :=
  match l.find? fun x => decide (x.path = p) with
  | none => none
  | some x => if x.fails then none else if x.writes then some (setT p (now + 1) l, now + 1) else some (l, now)
theorem make_W (s : Upd.St) (p : Bs) : make s p = (makeW s.l s.now p).map fun x => { s with l := x.1, now := x.2 } := by
  unfold make makeW
  cases hx : s.l.find? fun x => decide (x.path = p) with
  | none => rfl
  | some x =>
    simp only
    split
    · rfl
    · split <;> rfl
theorem setT_set {p : Bs} {t : Nat} : ∀ {l : List It} {i : Nat} (h : i < l.length), l[i].path = p → (∀ j, (hj : j < i) → l[j].path ≠ p) → setT p t l = l.set i (timed l[i] t)
  | x :: r, 0, h, hp, _ => by simp only [List.getElem_cons_zero] at hp; simp [setT, hp, timed]
  | x :: r, i + 1, h, hp, hn => by
    have h0 : x.path ≠ p := hn 0 (by omega)
    simp only [setT, h0, if_false, List.set_cons_succ, List.getElem_cons_succ]
    rw [setT_set (l := r) (i := i) (by simpa using h) (by simpa using hp) (fun j hj => by have := hn (j + 1) (by omega); simpa using this)]
theorem place_find (l : List It) (p : Bs) : (place l p = -1 ∧ l.find? (fun x => decide (x.path = p)) = none) ∨ ∃ (i : Nat) (h : i < l.length), place l p = (i : Int) ∧ l.find? (fun x => decide (x.path = p)) = some l[i] ∧ ∀ t, setT p t l = l.set i (timed l[i] t) := by
  unfold place
  cases h : l.findIdx? fun x => decide (x.path = p) with
  | none =>
    refine .inl ⟨rfl, ?_⟩
    rw [List.findIdx?_eq_none_iff] at h
    exact List.find?_eq_none.2 (fun x hx => by have := h x hx; simpa using this)
  | some i =>
    obtain ⟨hi, h1, h2⟩ := List.findIdx?_eq_some_iff_getElem.1 h
    refine .inr ⟨i, hi, rfl, List.find?_eq_some_iff_getElem.2 ⟨h1, i, hi, rfl, fun j hj => by simpa using h2 j hj⟩, fun t => setT_set hi (by simpa using h1) (fun j hj => by simpa using h2 j hj)⟩
theorem flatMap_put : ∀ (l : List It) (i : Nat) (h : i < l.length) (extra : List V) (t : Nat), putRange (l.flatMap itV ++ extra) (0 + i * 9 + 6) [.int .i64 (t : Int)] = (l.set i (timed l[i] t)).flatMap itV ++ extra
  | x :: r, 0, h, extra, t => by rfl
  | x :: r, i + 1, h, extra, t => by
    have := flatMap_put r i (by simpa using h) extra t
    have e : 0 + (i + 1) * 9 + 6 = (itV x).length + (0 + i * 9 + 6) := by rw [itV_len]; omega
    simp only [List.flatMap_cons, List.set_cons_succ, List.getElem_cons_succ, List.append_assoc]
    rw [← this, e]
    unfold putRange
    rw [List.take_append, List.drop_append, List.take_of_length_le (by omega), show (itV x).length + (0 + i * 9 + 6) - (itV x).length = 0 + i * 9 + 6 from by omega, List.drop_eq_nil_of_le (by simp; omega)]
    simp only [List.append_assoc, List.nil_append]
    congr 4
    simp only [List.length_singleton]
    omega
/-- What Make does. -/
def MakeP (H : Hp) (χ : Nat → Nat) (q n nL : Nat) (l : List It) (now : Nat) (cs : List V) (p : Bs) : Rs → Hp → Prop := fun r J => match makeW l now p with
  | none => r = .ret (.bool false) ∧ J = H
  | some (l', now') => r = .ret (.bool true) ∧ WS J χ q n nL l' now' cs ∧ ∀ S : Nat → Prop, S q → S (q + 1) → Keep S H J χ χ
theorem make_spec (b : Nat) (w0 : World) (q n nL : Nat) (l : List It) (hl : l.length ≤ 1000) (now : Nat) (hnow : now ≤ 4294967296) (cs : List V) (p : Bs) (H : Hp) (χ : Nat → Nat) (hW : WS H χ q n nL l now cs) :
    Ac (cx b w0) 74 [.ptr n 0, .str p] H (MakeP H χ q n nL l now cs p) := by
  refine flatironref18_Make.s b w0 _ _ H _ ?_
  refine (at_spec b w0 n nL l hl p H hW.wl).mono ?_
  rintro r J ⟨rfl, rfl⟩
  show cnd (decide (place l p < 0) == false) _ _
  obtain ⟨t, hb⟩ := hW.box
  rcases place_find l p with ⟨hp, hf⟩ | ⟨i, hi, hp, hf, hs⟩
  · rw [hp]
    show MakeP J χ q n nL l now cs p _ _
    simp only [MakeP, makeW, hf, and_self]
  · rw [hp, show decide (((i : Int)) < 0) = false from by simp, show (false == false) = true from rfl, cndT]
    refine nf ?_
    refine hb.ld rfl (idx_lV hi ?_)
    refine row_part hW.wl hi (j := 7) (by omega) ?_
    show cnd l[i].fails _ _
    refine cnd_of (fun hfl => ?_) (fun hfl => ?_)
    · simp only [MakeP, makeW, hf, hfl, if_true, and_self]
    · refine flatironref18_Make.j4s _ _ _ _ _ _ ?_
      refine nf ?_
      refine hb.ld rfl (idx_lV hi ?_)
      refine row_part hW.wl hi (j := 8) (by omega) ?_
      show cnd l[i].writes _ _
      refine cnd_of (fun hw => ?_) (fun hw => ?_)
      · refine nf ?_
        refine hb.ld rfl (intK_i ?_)
        refine nf ?_
        rw [show ((now : Int) + 1) = ((now + 1 : Nat) : Int) from rfl, wrap_nat _ (by omega)]
        refine hb.st hW.cl (by simp) rfl ?_
        intro J1 hb1 hc1 hk1
        refine nf ?_
        refine hb1.ld rfl ?_
        refine nf ?_
        refine hb1.ld rfl (intK_i ?_)
        refine idx_lV hi ?_
        obtain ⟨extra, tr, hr, hcr⟩ := hW.row (by rintro rfl; simp at hi)
        have hne : nL ≠ n := by rintro rfl; rw [hb.at_] at hr; cases hr
        obtain ⟨hr1, _⟩ := hk1 (fun c => c = q) rfl nL _ hr (by rw [hcr]; omega)
        refine fa_p ?_
        rw [stE_row hr1]
        refine ⟨by rw [List.length_append, flat_len]; simp; omega, rfl, ?_⟩
        rw [flatMap_put l i hi]
        show MakeP ..
        simp only [MakeP, makeW, hf, hfl, hw, if_true, if_false, Bool.false_eq_true, true_and]
        rw [hs]
        have hk2 : ∀ S : Nat → Prop, S (q + 1) → Keep S J1 (J1.set nL (.row ((l.set i (timed l[i] (now + 1))).flatMap itV ++ extra) tr)) χ χ := fun S hS => Keep.set hcr hS
        refine ⟨⟨⟨t, ?_⟩, fun _ => ⟨extra, tr, Hp.set_same .., hcr⟩, Cl.set hc1 _ _⟩, fun S h0 h1 => (hk1 S h0).trans (hk2 S h1)⟩
        have := hb1.keep (hk2 (fun c => c = q + 1) rfl) (by omega)
        have e : lV nL (l.set i (timed l[i] (now + 1))) = lV nL l := by
          cases l with
          | nil => simp at hi
          | cons x r => cases i with
            | zero => rfl
            | succ i => simp [lV]
        rw [e]
        exact this
      · show MakeP ..
        simp only [MakeP, makeW, hf, hfl, hw, if_true, if_false, Bool.false_eq_true, true_and]
        exact ⟨hW, fun S _ _ => Keep.refl⟩
/-- A slice that grows and is cut. -/
def BS (H : Hp) (χ : Nat → Nat) (i : Nat) (v : V) (e : Nat) (l : List Bs) : Prop :=
  (v = .nilsl ∧ l = []) ∨ ∃ m vs, v = .sl m 0 l.length 1 ∧ H m = some (.row vs e) ∧ l.length ≤ vs.length ∧ vs.take l.length = l.map .str ∧ χ m = i
theorem BS.keep {S : Nat → Prop} {H J : Hp} {χ ψ : Nat → Nat} {i e : Nat} {v : V} {l : List Bs} (h : BS H χ i v e l) (k : Keep S H J χ ψ) (hi : ¬ S i) : BS J ψ i v e l := by
  rcases h with h | ⟨m, vs, h1, h2, h3, h4, h5⟩
  · exact .inl h
  · obtain ⟨k1, k2⟩ := k m _ h2 (by rw [h5]; exact hi)
    exact .inr ⟨m, vs, h1, k1, h3, h4, k2.trans h5⟩
theorem BS.app {H : Hp} {χ : Nat → Nat} {i e : Nat} {v : V} {l : List Bs} {x : Bs} {K : V → Hp → Prop} (h : BS H χ i v e l) (hc : Cl H χ) (hb : l.length < 4294967296)
    (k : ∀ v' J ψ, oneV v' = true → BS J ψ i v' e (l ++ [x]) → Cl J ψ → (∀ S : Nat → Prop, S i → Keep S H J χ ψ) → K v' J) : appE 1 e v [.str x] H K := by
  rcases h with ⟨rfl, rfl⟩ | ⟨m, vs, rfl, h2, h3, h4, h5⟩
  · refine ⟨by simp, .inr ⟨⟨rfl, rfl⟩, ?_⟩⟩
    intro m hm
    refine k _ _ (paint χ m i) rfl ?_ (hc.new m i _) (fun S hS => Keep.new hm)
    exact .inr ⟨m, [.str x], rfl, Hp.set_same .., by simp, by simp, paint_same ..⟩
  · refine ⟨rfl, by simp; omega, rfl, rfl, vs, h2, by omega, ?_⟩
    intro n hm
    refine k _ _ (paint χ n i) rfl ?_ ((Cl.set hc m _).new n i _) (fun S hS => (Keep.set h5 hS).trans (Keep.new hm))
    refine .inr ⟨n, vs.take (l.length * 1) ++ [.str x], by simp, by rw [Hp.set_same]; rfl, by simp; omega, ?_, paint_same ..⟩
    rw [Nat.mul_one, h4]
    rw [List.take_of_length_le (by simp)]
    simp
theorem BS.tv {H : Hp} {χ : Nat → Nat} {i e : Nat} {v : V} {l : List Bs} (h : BS H χ i v e l) : TV H v l := by
  rcases h with ⟨rfl, rfl⟩ | ⟨m, vs, rfl, h2, h3, h4, h5⟩
  · exact TV.nil H
  · refine ⟨fun K k => k, fun j hj K k => ⟨rfl, by omega, by omega, ?_⟩⟩
    show ldE false 1 (.ptr m (0 + j * 1)) H K
    rw [ldE_row h2]
    show optP _ K
    have e1 : vs[0 + j * 1]? = (vs.take l.length)[j]? := by rw [List.getElem?_take_of_lt hj]; congr 1; omega
    rw [e1, h4, List.getElem?_map, List.getElem?_eq_getElem hj]
    exact k
theorem GS.tv {H : Hp} {χ : Nat → Nat} {i e : Nat} {v : V} {l : List Bs} (h : GS H χ i v 1 e (l.map .str)) : TV H v l := by
  rcases h with ⟨rfl, h0⟩ | ⟨_, m, rfl, _⟩
  · rw [List.map_eq_nil_iff.1 h0]; exact TV.nil H
  · exact TV.osl H m l
theorem without_spec (b : Nat) (w0 : World) (i e : Nat) (v : V) (l : List Bs) (hl : l.length < 4294967296) (hne : l ≠ []) (H : Hp) (χ : Nat → Nat) (h : BS H χ i v e l) :
    Ac (cx b w0) 75 [v] H (fun r J => ∃ v', r = .ret v' ∧ oneV v' = true ∧ J = H ∧ BS H χ i v' e l.dropLast) := by
  refine flatironref18_without.s b w0 _ H _ ?_
  have h0 := List.length_pos_iff.2 hne
  rcases h with ⟨rfl, rfl⟩ | ⟨m, vs, rfl, h2, h3, h4, h5⟩
  · exact absurd rfl hne
  · show 0 ≤ _ ∧ _
    rw [show ((l.length : Int) - 1) = ((l.length - 1 : Nat) : Int) from by omega, wrap_nat _ (by omega), Int.toNat_natCast]
    refine ⟨by omega, rfl, by omega, by omega, .inr rfl, _, rfl, rfl, rfl, .inr ⟨m, vs, by simp, h2, by simp; omega, ?_, h5⟩⟩
    rw [List.length_dropLast, List.map_dropLast, ← h4, List.dropLast_eq_take, List.length_take, Nat.min_eq_left h3, List.take_take, Nat.min_eq_left (by omega)]
/-- x.f = append(x.f, v) -/
theorem push {H : Hp} {χ : Nat → Nat} {q n t off i sz e : Nat} {vs : List V} {v x : V} {l : List V} {o : O} {K : Hp → Prop} (hB : Bx H χ q n vs t) (hv : vs[off]? = some v) (hG : GS H χ i v sz e l) (hc : Cl H χ) (hne : q ≠ i) (hb : l.length < 4294967296)
    (k : ∀ J ψ v', Bx J ψ q n (vs.set off v') t → GS J ψ i v' sz e (l ++ [x]) → Cl J ψ → (∀ S : Nat → Prop, S q → S i → Keep S H J χ ψ) → K J) :
    nckE (.ptr n 0) fun v0 => faE off v0 fun p0 => ldE false 1 p0 H fun v => newE H o fun a H1 => appE sz e v [x] H1 fun v' H2 => nckE (.ptr n 0) fun v1 => faE off v1 fun p1 => oneE v' (stE p1 [v'] H2 K) := by
  refine nf (hB.ld hv ?_)
  intro a ha
  have hk1 : ∀ S : Nat → Prop, Keep S H (H.set a o) χ χ := fun S => Keep.ext ((Ext.refl H).set ha)
  have hc1 : Cl (H.set a o) χ := Cl.set hc a o
  refine (hG.keep (hk1 (fun _ => False)) id).app hc1 (by simp) (by simp; omega) ?_
  intro m J ψ hG' hc' hk'
  have hB' := (hB.keep (hk1 (fun _ => False)) id).keep (hk' (fun c => c = i) rfl) hne
  have ho : off < vs.length := (List.getElem?_eq_some_iff.1 hv).1
  refine nf (one_i rfl (hB'.st hc' ho rfl ?_))
  intro J2 hB2 hc2 hk2
  exact k J2 ψ _ hB2 (hG'.keep (hk2 (fun c => c = q) rfl) (Ne.symm hne)) hc2 (fun S h0 h1 => ((hk1 S).trans (hk' S h1)).trans (hk2 S h0))
theorem pushB {H : Hp} {χ : Nat → Nat} {q n t off i e : Nat} {vs : List V} {v : V} {x : Bs} {l : List Bs} {o : O} {K : Hp → Prop} (hB : Bx H χ q n vs t) (hv : vs[off]? = some v) (hG : BS H χ i v e l) (hc : Cl H χ) (hne : q ≠ i) (hb : l.length < 4294967296)
    (k : ∀ J ψ v', Bx J ψ q n (vs.set off v') t → BS J ψ i v' e (l ++ [x]) → Cl J ψ → (∀ S : Nat → Prop, S q → S i → Keep S H J χ ψ) → K J) :
    nckE (.ptr n 0) fun v0 => faE off v0 fun p0 => ldE false 1 p0 H fun v => newE H o fun a H1 => appE 1 e v [.str x] H1 fun v' H2 => nckE (.ptr n 0) fun v1 => faE off v1 fun p1 => oneE v' (stE p1 [v'] H2 K) := by
  refine nf (hB.ld hv ?_)
  intro a ha
  have hk1 : ∀ S : Nat → Prop, Keep S H (H.set a o) χ χ := fun S => Keep.ext ((Ext.refl H).set ha)
  have hc1 : Cl (H.set a o) χ := Cl.set hc a o
  refine (hG.keep (hk1 (fun _ => False)) id).app hc1 hb ?_
  intro v' J ψ hone hG' hc' hk'
  have hB' := (hB.keep (hk1 (fun _ => False)) id).keep (hk' (fun c => c = i) rfl) hne
  have ho : off < vs.length := (List.getElem?_eq_some_iff.1 hv).1
  refine nf (one_i hone (hB'.st hc' ho hone ?_))
  intro J2 hB2 hc2 hk2
  exact k J2 ψ _ hB2 (hG'.keep (hk2 (fun c => c = q) rfl) (Ne.symm hne)) hc2 (fun S h0 h1 => ((hk1 S).trans (hk' S h1)).trans (hk2 S h0))
theorem open_it {vs : List V} {x : It} {K : List UInt8 → V → V → Bool → Bool → Bool → Int → Bool → Bool → Prop} (h : ItV vs x) (k : ∀ nv ov, TS nv x.needs → TS ov x.order → K x.path nv ov x.rule x.recipe x.phony (x.time : Int) x.fails x.writes) :
    aggE (.agg vs) fun l_219 => headE l_219 fun c_220 r_221 => strE c_220 fun s_222 => headE r_221 fun c_223 r_224 => headE r_224 fun c_225 r_226 => headE r_226 fun c_227 r_228 => boolE c_227 fun b_229 => headE r_228 fun c_230 r_231 => boolE c_230 fun b_232 => headE r_231 fun c_233 r_234 => boolE c_233 fun b_235 => headE r_234 fun c_236 r_237 => intK .i64 c_236 fun n_238 => headE r_237 fun c_239 r_240 => boolE c_239 fun b_241 => headE r_240 fun c_242 r_243 => boolE c_242 fun b_244 => endE r_243 (K s_222 c_223 c_225 b_229 b_232 b_235 n_238 b_241 b_244) := by
  obtain ⟨nv, ov, h1, h2, rfl⟩ := h
  simp only [aggE, headE, strE, boolE, intK, endE, decide_true]
  exact k nv ov h1 h2
theorem TS.one {v : V} {l : List Bs} (h : TS v l) : oneV v = true := by
  rcases h with rfl | ⟨rfl, rfl⟩ <;> rfl
def prV (x : Bs × Bs) : V := .agg [.str x.1, .str x.2]
/-- The colours of a world, and those that are free. -/
def colS (q D : Nat) : Nat → Prop := fun c => (q ≤ c ∧ c < q + 7) ∨ D ≤ c
def fin (s : Upd.St) (p : Bs) (stale : Bool) : Upd.St := { s with stale := if stale then s.stale ++ [p] else s.stale, done := s.done ++ [p], begun := s.begun.dropLast }
def aft (s : Upd.St) (p : Bs) (stale : Bool) : Option Upd.St → Upd.St × Nat × Bs
  | none => (s, 9, p)
  | some s => (fin { s with made := s.made ++ [p] } p stale, 0, [])
def clo (s : Upd.St) (p : Bs) (stale recipe : Bool) : Upd.St × Nat × Bs :=
  if stale && recipe then aft s p stale (make s p) else (fin s p stale, 0, [])
def cnt (s : Upd.St) (x : It) (r : Bs) : Bool := decide (r ∈ s.stale) || decide (x.time < (Upd.get s.l r).time)
theorem close_clo (s : Upd.St) (p : Bs) (count : List Bs) : close s p count = clo s p ((((Upd.get s.l p).phony || decide ((Upd.get s.l p).time = 0)) || count.any (cnt s (Upd.get s.l p))) && (Upd.get s.l p).rule) (Upd.get s.l p).recipe := by
  unfold close clo
  simp only
  have e : (count.any fun q => decide (q ∈ s.stale) || decide ((Upd.get s.l p).time < (Upd.get s.l q).time)) = count.any (cnt s (Upd.get s.l p)) := rfl
  rw [e]
  split
  · cases make s p <;> rfl
  · rfl
theorem colS_mono {q D E c : Nat} (h : D ≤ E) (k : colS q E c) : colS q D c := by unfold colS at *; omega
end Go.Proofs.Ytmpheeanjjfddaa.S
