/- The told world, as the program sees it. -/
import Derived.Test.YtmpheeanjjfddaaURef3
import Derived.Test.YtmpheeanjjfddaaSU3
namespace Go.Proofs.Ytmpheeanjjfddaa.S
open Go Go.RowKit Go.Proofs Go.Proofs.Ytmpheeanjjfddaa.SM Go.Proofs.Ytmpheeanjjfddaa.Upd
set_option linter.unusedVariables false
set_option linter.unusedSimpArgs false
/-- A path, as a file. -/
def fileV (p : Bs) : V := .agg [.str p, .str p]
/-- Paths, as files. -/
def FV (v : V) (l : List Bs) : Prop := (v = .nilsl ∧ l = []) ∨ ∃ m, v = .osl m 2 (l.map fileV)
theorem FV.one {v : V} {l : List Bs} (h : FV v l) : oneV v = true := by rcases h with ⟨rfl, _⟩ | ⟨m, rfl⟩ <;> rfl
theorem FV.len {v : V} {l : List Bs} (h : FV v l) {K : Nat → Prop} (k : K l.length) : lenE v K := by
  rcases h with ⟨rfl, rfl⟩ | ⟨m, rfl⟩
  · exact k
  · show K (l.map fileV).length
    simpa using k
theorem FV.vals {v : V} {l : List Bs} (h : FV v l) {K : List V → Prop} (k : K (l.map fileV)) : valsE 2 v K := by
  rcases h with ⟨rfl, rfl⟩ | ⟨m, rfl⟩
  · exact k
  · exact k
theorem FV.at {v : V} {l : List Bs} (h : FV v l) {i : Nat} (hi : i < l.length) {H : Hp} {K : V → Prop} (k : K (.agg [.str l[i], .str l[i]])) : idxE 2 v (i : Int) fun p => ldE true 2 p H K := by
  rcases h with ⟨rfl, rfl⟩ | ⟨m, rfl⟩
  · simp at hi
  · exact idx_osl (x := fileV l[i]) (by simp [hi]) k
theorem TS.vl {v : V} {l : List Bs} (h : TS v l) : v = strs l ∨ (l = [] ∧ v = .nilsl) := h
section
variable {b : Nat} {w0 : World}
theorem files_spec (v : V) (l : List Bs) (hl : l.length ≤ 4294967295) (H : Hp) (hv : TV H v l) (hv' : ∀ J, Ext H J → TV J v l) : Ac (cx b w0) 12 [v] H (fun r J => ∃ w, r = .ret w ∧ FV w l ∧ Ext H J) := by
  refine flatironlaw18_files.s b w0 _ H _ ?_
  refine hv.len _ ?_
  have key : ∀ i, i ≤ l.length → ∀ J ψ w, Cl J ψ → Keep (fun c => c = 1) H J noCol ψ → GS J ψ 1 w 2 111 ((l.take i).map fileV) → flatironlaw18_files.l3 b w0 w v (l.length : Int) (i : Int) J (fun r J => ∃ w, r = .ret w ∧ FV w l ∧ Ext H J) := by
    refine upto ?_ ?_
    · intro J ψ w hc hk hg
      refine flatironlaw18_files.l3s _ _ _ _ _ _ _ _ ?_
      refine cnd_dec (fun h => by omega) fun _ => ⟨w, rfl, ?_, hk.toExt (by decide)⟩
      rw [List.take_of_length_le (Nat.le_refl _)] at hg
      rcases hg with ⟨rfl, h0⟩ | ⟨_, m, rfl, _⟩
      · exact .inl ⟨rfl, List.map_eq_nil_iff.1 h0⟩
      · exact .inr ⟨m, rfl⟩
    · intro i hi ih J ψ w hc hk hg
      refine flatironlaw18_files.l3s _ _ _ _ _ _ _ _ ?_
      refine cnd_dec (fun _ => ?_) (fun h => by omega)
      refine (hv' J (hk.toExt (by decide))).at_ i hi _ (str_i ?_)
      refine newX hc ?_
      intro a J1 hc1 hk1
      refine (hg.keep (hk1 (fun _ => False)) id).app hc1 (by simp) (by simp; omega) ?_
      intro m J2 φ hg2 hc2 hk2
      rw [show IntKind.i64.wrap ((i : Int) + 1) = ((i + 1 : Nat) : Int) from by rw [show ((i : Int) + 1) = ((i + 1 : Nat) : Int) from rfl, wrap_nat _ (by omega)]]
      refine ih J2 φ _ hc2 ((hk.trans (hk1 _)).trans (hk2 _ rfl)) ?_
      rw [List.take_succ_eq_append_getElem hi, List.map_append]
      exact hg2
  exact key 0 (Nat.zero_le _) H noCol .nilsl (Cl.none H) Keep.refl (by simpa using GS.nil H noCol 1 2 111)
theorem files_ts {v : V} {l : List Bs} (hl : l.length ≤ 4294967295) (H : Hp) (hv : TS v l) : Ac (cx b w0) 12 [v] H (fun r J => ∃ w, r = .ret w ∧ FV w l ∧ Ext H J) := by
  have : ∀ J, TV J v l := fun J => by
    rcases hv with rfl | ⟨rfl, rfl⟩
    · exact TV.vsl J l
    · exact TV.nil J
  exact files_spec v l hl H (this H) (fun J _ => this J)
/-- A node's recipe: one line, or none. -/
def RV (v : V) (r : Bool) : Prop := (r = false ∧ v = .nilsl) ∨ (r = true ∧ ∃ m c, v = .osl m 3 [c])
/-- What Find tells. -/
def NodeV (p nm : Bs) (x : It) (vs : List V) : Prop := ∃ nv ov rv, FV nv x.needs ∧ FV ov x.order ∧ RV rv x.recipe ∧ vs = [.str p, .str nm, nv, ov, rv, .str [], .int .i64 0, .bool x.phony, .bool x.rule]
theorem RV.one {v : V} {r : Bool} (h : RV v r) : oneV v = true := by rcases h with ⟨_, rfl⟩ | ⟨_, m, c, rfl⟩ <;> rfl
theorem open_nd {p nm : Bs} {x : It} {vs : List V} {K : List UInt8 → List UInt8 → V → V → V → List UInt8 → Int → Bool → Bool → Prop} (h : NodeV p nm x vs) (k : ∀ nv ov rv, FV nv x.needs → FV ov x.order → RV rv x.recipe → K p nm nv ov rv [] 0 x.phony x.rule) :
    aggE (.agg vs) fun l_25 => headE l_25 fun c_26 r_27 => strE c_26 fun s_28 => headE r_27 fun c_29 r_30 => strE c_29 fun s_31 => headE r_30 fun c_32 r_33 => headE r_33 fun c_34 r_35 => headE r_35 fun c_36 r_37 => headE r_37 fun c_38 r_39 => strE c_38 fun s_40 => headE r_39 fun c_41 r_42 => intK .i64 c_41 fun n_43 => headE r_42 fun c_44 r_45 => boolE c_44 fun b_46 => headE r_45 fun c_47 r_48 => boolE c_47 fun b_49 => endE r_48 (K s_28 s_31 c_32 c_34 c_36 s_40 n_43 b_46 b_49) := by
  obtain ⟨nv, ov, rv, h1, h2, h3, rfl⟩ := h
  simp only [aggE, headE, strE, boolE, intK, endE, decide_true]
  exact k nv ov rv h1 h2 h3
/-- Find's boxes. -/
structure FB (H : Hp) (p nm : Bs) (x : It) (nv ov : V) (a2 a3 a4 : Nat) (J : Hp) (ψ : Nat → Nat) : Prop where
  f : ∃ t, Bx J ψ 2 a2 [.str p, .str nm] t
  r : ∃ t, Bx J ψ 3 a3 [.str [], .str [], .nilsl, .nilsl, .nilsl, .str [], .int .i64 0, .bool false, .bool false] t
  i : ∃ t, Bx J ψ 4 a4 [.str x.path, nv, ov, .bool x.rule, .bool x.recipe, .bool x.phony, .int .i64 (x.time : Int), .bool x.fails, .bool x.writes] t
  cl : Cl J ψ
  keep : Keep (fun c => c ≠ 0) H J noCol ψ
theorem FB.more {H : Hp} {p nm : Bs} {x : It} {nv ov : V} {a2 a3 a4 : Nat} {J J' : Hp} {ψ φ : Nat → Nat} (h : FB H p nm x nv ov a2 a3 a4 J ψ) (hc : Cl J' φ) (k : ∀ S : Nat → Prop, Keep S J J' ψ φ) : FB H p nm x nv ov a2 a3 a4 J' φ := by
  obtain ⟨t1, h1⟩ := h.f
  obtain ⟨t2, h2⟩ := h.r
  obtain ⟨t3, h3⟩ := h.i
  exact ⟨⟨t1, h1.keep (k (fun _ => False)) id⟩, ⟨t2, h2.keep (k (fun _ => False)) id⟩, ⟨t3, h3.keep (k (fun _ => False)) id⟩, hc, h.keep.trans (k _)⟩
theorem FB.ext {H : Hp} {p nm : Bs} {x : It} {nv ov : V} {a2 a3 a4 : Nat} {J J' : Hp} {ψ : Nat → Nat} (h : FB H p nm x nv ov a2 a3 a4 J ψ) (he : Ext J J') : FB H p nm x nv ov a2 a3 a4 J' ψ := h.more (h.cl.ext he) (fun S => Keep.ext he)
theorem find_spec (n nL : Nat) (l : List It) (hl : l.length ≤ 1000) (p nm : Bs) (hb : (Upd.get l p).needs.length ≤ 1000 ∧ (Upd.get l p).order.length ≤ 1000) (H : Hp) (hW : WL H n nL l) :
    Ac (cx b w0) 148 [.agg [.ptr n 0], .agg [.str p, .str nm]] H (fun r J => ∃ vs, r = .ret (.agg vs) ∧ NodeV p nm (Upd.get l p) vs ∧ Ext H J) := by
  generalize hQ : (fun (r : Rs) (J : Hp) => ∃ vs, r = .ret (.agg vs) ∧ NodeV p nm (Upd.get l p) vs ∧ Ext H J) = Q
  refine flatironlaw18_world_Find.s b w0 _ _ _ H _ ?_
  refine newB 1 (Cl.none H) ?_
  intro a1 J1 ψ1 hB1 hc1 hk1
  refine newB 2 hc1 ?_
  intro a2 J2 ψ2 hB2 hc2 hk2
  refine newB 3 hc2 ?_
  intro a3 J3 ψ3 hB3 hc3 hk3
  have hB1' := (hB1.keep (hk2 (fun _ => False)) id).keep (hk3 (fun _ => False)) id
  have hB2' := hB2.keep (hk3 (fun _ => False)) id
  refine hB1'.ld rfl (hB2'.ld rfl (str_i ?_))
  have hk : ∀ S : Nat → Prop, Keep S H J3 noCol ψ3 := fun S => ((hk1 S).trans (hk2 S)).trans (hk3 S)
  have he3 : Ext H J3 := (hk (fun _ => False)).toExt id
  refine (get_spec b w0 n nL l hl p J3 (hW.ext he3)).mono ?_
  rintro r J4 ⟨vs, rfl, hv, he⟩
  refine ret_i (open_it hv ?_)
  intro nv ov hnv hov
  have kE : ∀ S : Nat → Prop, Keep S J3 J4 ψ3 ψ3 := fun S => Keep.ext he
  refine newBox (i := 4) (hc3.ext he) rfl (by simp only [List.all_cons, List.all_nil, hnv.one, hov.one]; rfl) ?_
  intro a4 J5 ψ5 hB4 hc5 hk5
  have h5 : FB H p nm (Upd.get l p) nv ov a2 a3 a4 J5 ψ5 := ⟨⟨_, (hB2'.keep (kE (fun _ => False)) id).keep (hk5 (fun _ => False)) id⟩, ⟨_, (hB3.keep (kE (fun _ => False)) id).keep (hk5 (fun _ => False)) id⟩, ⟨_, hB4⟩, hc5, ((hk _).trans (kE _)).trans (hk5 _)⟩
  clear hB1 hB2 hB3 hB4 hB1' hB2' hc1 hc2 hc3 hk1 hk2 hk3 hk5 hk kE
  -- the end
  have last : ∀ J ψ c nv' ov' t, FB H p nm (Upd.get l p) nv ov a2 a3 a4 J ψ → Bx J ψ 5 c [.str p, .str nm, nv', ov', .nilsl, .str [], .int .i64 0, .bool (Upd.get l p).phony, .bool (Upd.get l p).rule] t → FV nv' (Upd.get l p).needs → FV ov' (Upd.get l p).order →
      flatironlaw18_world_Find.j3 b w0 (.ptr a3 0) (.ptr a4 0) (.ptr c 0) J Q := by
    intro J ψ c nv' ov' t h hC hn ho
    refine flatironlaw18_world_Find.j3s _ _ _ _ _ _ _ ?_
    obtain ⟨ti, hI⟩ := h.i
    obtain ⟨tr, hR⟩ := h.r
    refine fa0 (hI.ld rfl (bool_i ?_))
    refine cnd_of (fun hre => ?_) (fun hre => ?_)
    · refine newX h.cl ?_
      intro m J1 hc1 hk1
      refine fa0 ((hC.keep (hk1 (fun _ => False)) id).st hc1 (by simp) rfl ?_)
      intro J2 hC2 hc2 hk2
      refine hC2.ldw rfl ?_
      simp only [List.set, aggE, headE, strE, boolE, intK, endE, decide_true]
      refine ((hR.keep (hk1 (fun _ => False)) id).keep (hk2 (fun c => c = 5) rfl) (by decide)).stw hc2 rfl (by simp only [List.all_cons, List.all_nil, hn.one, ho.one]; rfl) ?_
      intro J3 hR3 hc3 hk3
      refine hR3.ldw rfl ?_
      simp only [aggE, headE, strE, boolE, intK, endE, decide_true]
      subst hQ
      exact ⟨_, rfl, ⟨nv', ov', _, hn, ho, .inr ⟨hre, m, _, rfl⟩, rfl⟩, (((h.keep.trans (hk1 _)).trans (hk2 _ (by decide))).trans (hk3 _ (by decide))).toExt (by decide)⟩
    · refine hC.ldw rfl ?_
      simp only [aggE, headE, strE, boolE, intK, endE, decide_true]
      refine hR.stw h.cl rfl (by simp only [List.all_cons, List.all_nil, hn.one, ho.one]; rfl) ?_
      intro J3 hR3 hc3 hk3
      refine hR3.ldw rfl ?_
      simp only [aggE, headE, strE, boolE, intK, endE, decide_true]
      subst hQ
      exact ⟨_, rfl, ⟨nv', ov', _, hn, ho, .inl ⟨hre, rfl⟩, rfl⟩, (h.keep.trans (hk3 _ (by decide))).toExt (by decide)⟩
  have cf : ∀ J ψ, FB H p nm (Upd.get l p) nv ov a2 a3 a4 J ψ → ∀ K : V → Prop, K (.agg [.str p, .str nm]) → ldE true 2 (.ptr a2 0) J K := fun J ψ h K k => by obtain ⟨t, hB⟩ := h.f; exact hB.ldw rfl k
  have c1 : ∀ J ψ, FB H p nm (Upd.get l p) nv ov a2 a3 a4 J ψ → ∀ K : V → Prop, K nv → ldE false 1 (.ptr a4 (0 + 1)) J K := fun J ψ h K k => by obtain ⟨t, hB⟩ := h.i; exact hB.ld rfl k
  have c2 : ∀ J ψ, FB H p nm (Upd.get l p) nv ov a2 a3 a4 J ψ → ∀ K : V → Prop, K ov → ldE false 1 (.ptr a4 (0 + 2)) J K := fun J ψ h K k => by obtain ⟨t, hB⟩ := h.i; exact hB.ld rfl k
  have c5 : ∀ J ψ, FB H p nm (Upd.get l p) nv ov a2 a3 a4 J ψ → ∀ K : V → Prop, K (.bool (Upd.get l p).phony) → ldE false 1 (.ptr a4 (0 + 5)) J K := fun J ψ h K k => by obtain ⟨t, hB⟩ := h.i; exact hB.ld rfl k
  have c3 : ∀ J ψ, FB H p nm (Upd.get l p) nv ov a2 a3 a4 J ψ → ∀ K : V → Prop, K (.bool (Upd.get l p).rule) → ldE false 1 (.ptr a4 (0 + 3)) J K := fun J ψ h K k => by obtain ⟨t, hB⟩ := h.i; exact hB.ld rfl k
  refine cf _ _ h5 _ ?_
  simp only [aggE, headE, strE, endE]
  refine c1 _ _ h5 _ (c2 _ _ h5 _ (c5 _ _ h5 _ (bool_i (c3 _ _ h5 _ (bool_i ⟨?_, ?_⟩)))))
  · refine (files_ts (by omega) J5 hnv).mono ?_
    rintro r K1 ⟨v1, rfl, hf1, he1⟩
    have k1 := h5.ext he1
    refine ret_i ⟨c3 _ _ k1 _ rfl, c5 _ _ k1 _ rfl, c2 _ _ k1 _ rfl, cf _ _ k1 _ rfl, ?_, ?_⟩
    · refine (files_ts (by omega) K1 hov).mono ?_
      rintro r K2 ⟨v2, rfl, hf2, he2⟩
      have k2 := k1.ext he2
      refine ret_i ⟨c3 _ _ k2 _ rfl, c5 _ _ k2 _ rfl, cf _ _ k2 _ rfl, one_i hf1.one (one_i hf2.one ?_)⟩
      refine newB 5 k2.cl ?_
      intro a5 K3 φ hB5 hc3 hk3
      have k3 := k2.more hc3 hk3
      refine ⟨c3 _ _ k3 _ rfl, c5 _ _ k3 _ rfl, cf _ _ k3 _ rfl, ?_⟩
      refine hB5.stw hc3 rfl (by simp only [List.all_cons, List.all_nil, hf1.one, hf2.one]; rfl) ?_
      intro K4 hB6 hc4 hk4
      refine last K4 φ a5 v1 v2 _ ?_ hB6 hf1 hf2
      obtain ⟨tf, q1⟩ := k3.f
      obtain ⟨tr, q2⟩ := k3.r
      obtain ⟨ti, q3⟩ := k3.i
      exact ⟨⟨tf, q1.keep (hk4 (fun c => c = 5) rfl) (by decide)⟩, ⟨tr, q2.keep (hk4 (fun c => c = 5) rfl) (by decide)⟩, ⟨ti, q3.keep (hk4 (fun c => c = 5) rfl) (by decide)⟩, hc4, k3.keep.trans (hk4 _ (by decide))⟩
    · refine newB 5 k1.cl ?_
      intro a5 K3 φ hB5 hc3 hk3
      have k3 := k1.more hc3 hk3
      refine ⟨c3 _ _ k3 _ rfl, c5 _ _ k3 _ rfl, c2 _ _ k3 _ rfl, cf _ _ k3 _ rfl, ?_⟩
      refine (files_ts (by omega) K3 hov).mono ?_
      rintro r K4 ⟨v2, rfl, hf2, he2⟩
      have k4 := k3.ext he2
      refine ret_i ⟨c3 _ _ k4 _ rfl, c5 _ _ k4 _ rfl, cf _ _ k4 _ rfl, one_i hf1.one (one_i hf2.one ?_)⟩
      refine (hB5.keep (Keep.ext (S := fun _ => False) he2) id).stw k4.cl rfl (by simp only [List.all_cons, List.all_nil, hf1.one, hf2.one]; rfl) ?_
      intro K5 hB6 hc5 hk5
      refine last K5 φ a5 v1 v2 _ ?_ hB6 hf1 hf2
      obtain ⟨tf, q1⟩ := k4.f
      obtain ⟨tr, q2⟩ := k4.r
      obtain ⟨ti, q3⟩ := k4.i
      exact ⟨⟨tf, q1.keep (hk5 (fun c => c = 5) rfl) (by decide)⟩, ⟨tr, q2.keep (hk5 (fun c => c = 5) rfl) (by decide)⟩, ⟨ti, q3.keep (hk5 (fun c => c = 5) rfl) (by decide)⟩, hc5, k4.keep.trans (hk5 _ (by decide))⟩
  · refine newB 5 h5.cl ?_
    intro a5 K1 φ hB5 hc1 hk1
    have k1 := h5.more hc1 hk1
    refine ⟨c3 _ _ k1 _ rfl, c5 _ _ k1 _ rfl, c2 _ _ k1 _ rfl, c1 _ _ k1 _ rfl, cf _ _ k1 _ rfl, ?_⟩
    refine (files_ts (by omega) K1 hnv).mono ?_
    rintro r K2 ⟨v1, rfl, hf1, he1⟩
    have k2 := k1.ext he1
    refine ret_i ⟨c3 _ _ k2 _ rfl, c5 _ _ k2 _ rfl, c2 _ _ k2 _ rfl, cf _ _ k2 _ rfl, ?_⟩
    refine (files_ts (by omega) K2 hov).mono ?_
    rintro r K4 ⟨v2, rfl, hf2, he2⟩
    have k4 := k2.ext he2
    refine ret_i ⟨c3 _ _ k4 _ rfl, c5 _ _ k4 _ rfl, cf _ _ k4 _ rfl, one_i hf1.one (one_i hf2.one ?_)⟩
    refine ((hB5.keep (Keep.ext (S := fun _ => False) he1) id).keep (Keep.ext (S := fun _ => False) he2) id).stw k4.cl rfl (by simp only [List.all_cons, List.all_nil, hf1.one, hf2.one]; rfl) ?_
    intro K5 hB6 hc5 hk5
    refine last K5 φ a5 v1 v2 _ ?_ hB6 hf1 hf2
    obtain ⟨tf, q1⟩ := k4.f
    obtain ⟨tr, q2⟩ := k4.r
    obtain ⟨ti, q3⟩ := k4.i
    exact ⟨⟨tf, q1.keep (hk5 (fun c => c = 5) rfl) (by decide)⟩, ⟨tr, q2.keep (hk5 (fun c => c = 5) rfl) (by decide)⟩, ⟨ti, q3.keep (hk5 (fun c => c = 5) rfl) (by decide)⟩, hc5, k4.keep.trans (hk5 _ (by decide))⟩
theorem time_spec (n nL : Nat) (l : List It) (hl : l.length ≤ 1000) (p : Bs) (H : Hp) (hW : WL H n nL l) :
    Ac (cx b w0) 150 [.agg [.ptr n 0], .str p] H (fun r J => r = .ret (.tuple [.int .i64 ((Upd.get l p).time : Int), .bool (!decide ((Upd.get l p).time = 0))]) ∧ Ext H J) := by
  refine flatironlaw18_world_Time.s b w0 _ _ H _ ?_
  refine newB 1 (Cl.none H) ?_
  intro a1 J1 ψ1 hB1 hc1 hk1
  refine hB1.ld rfl ?_
  refine (get_spec b w0 n nL l hl p J1 (hW.ext ((hk1 (fun _ => False)).toExt id))).mono ?_
  rintro r J4 ⟨vs, rfl, hv, he⟩
  refine ret_i (open_it hv ?_)
  intro nv ov hnv hov
  exact ⟨by simp, ((hk1 (fun _ => False)).toExt id).trans he⟩
/-- A fault. -/
def faultV (k : Nat) (a : Bs) : V := .agg [.int .i64 (k : Int), .str a, .int .i64 0]
theorem pmake_spec (q n nL : Nat) (hq : 0 < q) (l : List It) (hl : l.length ≤ 1000) (now : Nat) (hnow : now ≤ 4294967296) (cs : List V) (p nm : Bs) (x : It) (vs : List V) (hv : NodeV p nm x vs) (H : Hp) (χ : Nat → Nat) (hW : WS H χ q n nL l now cs) (E : Nat) (hE : q + 7 ≤ E) :
    Ac (cx b w0) 149 [.agg [.ptr n 0], .agg vs] H (fun r J => ∃ ψ, Keep (fun c => c = q ∨ c = q + 1 ∨ E ≤ c) H J χ ψ ∧ match makeW l now p with
      | none => r = .ret (faultV 9 p) ∧ WS J ψ q n nL l now cs
      | some (l', now') => r = .ret (faultV 0 []) ∧ WS J ψ q n nL l' now' cs) := by
  obtain ⟨nv, ov, rv, hn, ho, hr, rfl⟩ := hv
  refine flatironlaw18_world_Make.s b w0 _ _ _ _ _ _ _ _ _ _ H _ ?_
  refine newB E hW.cl ?_
  intro a1 J1 ψ1 hB1 hc1 hk1
  refine newB (E + 1) hc1 ?_
  intro a2 J2 ψ2 hB2 hc2 hk2
  refine newB (E + 2) hc2 ?_
  intro a3 J3 ψ3 hB3 hc3 hk3
  have hk : ∀ S : Nat → Prop, Keep S H J3 χ ψ3 := fun S => ((hk1 S).trans (hk2 S)).trans (hk3 S)
  have hB1' := (hB1.keep (hk2 (fun _ => False)) id).keep (hk3 (fun _ => False)) id
  have hB2' := hB2.keep (hk3 (fun _ => False)) id
  refine hB1'.ld rfl (hB2'.ld rfl (str_i ?_))
  refine (make_spec b w0 q n nL l hl now hnow cs p J3 ψ3 (hW.keep (hk (fun _ => False)) hc3 id id)).mono ?_
  rintro r J hM
  unfold MakeP at hM
  cases hm : makeW l now p with
  | none =>
    rw [hm] at hM
    obtain ⟨rfl, rfl⟩ := hM
    refine ret_i (bool_i (cndT_i ?_))
    refine hB2'.ld rfl (str_i (hB3.stw hc3 rfl rfl ?_))
    intro J4 hB4 hc4 hk4
    refine hB4.ldw rfl ?_
    simp only [aggE, headE, strE, boolE, intK, endE, decide_true]
    exact ⟨ψ3, (hk _).trans (hk4 _ (.inr (.inr (by omega)))), rfl, (hW.keep (hk (fun _ => False)) hc3 id id).keep (hk4 (fun c => c = E + 2) rfl) hc4 (by omega) (by omega)⟩
  | some y =>
    obtain ⟨l', now'⟩ := y
    rw [hm] at hM
    obtain ⟨rfl, hW', hkm⟩ := hM
    refine ret_i (bool_i (cndF_i ?_))
    have hB3' := hB3.keep (hkm (fun c => c = q ∨ c = q + 1) (.inl rfl) (.inr rfl)) (by omega)
    refine hB3'.stw hW'.cl rfl rfl ?_
    intro J4 hB4 hc4 hk4
    refine hB4.ldw rfl ?_
    simp only [aggE, headE, strE, boolE, intK, endE, decide_true]
    exact ⟨ψ3, ((hk _).trans (hkm _ (.inl rfl) (.inr (.inl rfl)))).trans (hk4 _ (.inr (.inr (by omega)))), rfl, hW'.keep (hk4 (fun c => c = E + 2) rfl) hc4 (by omega) (by omega)⟩
end
end Go.Proofs.Ytmpheeanjjfddaa.S
