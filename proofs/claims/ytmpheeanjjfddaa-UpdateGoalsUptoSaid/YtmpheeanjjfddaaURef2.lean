/- The reference's Get. -/
import Derived.Test.YtmpheeanjjfddaaURef1
namespace Go.Proofs.Ytmpheeanjjfddaa.S
open Go Go.RowKit Go.Proofs Go.Proofs.Ytmpheeanjjfddaa.SM Go.Proofs.Ytmpheeanjjfddaa.Upd
set_option linter.unusedVariables false
set_option linter.unusedSimpArgs false
theorem WL.ext {H J : Hp} {n nL : Nat} {l : List It} (h : WL H n nL l) (he : Ext H J) : WL J n nL l := by
  obtain ⟨⟨cs, t, hb⟩, hr⟩ := h
  refine ⟨⟨cs, t, he _ _ hb⟩, fun hne => ?_⟩
  obtain ⟨e, t, hr⟩ := hr hne
  exact ⟨e, t, he _ _ hr⟩
/-- Texts, or no slice. -/
def TS (v : V) (l : List Bs) : Prop := v = strs l ∨ (l = [] ∧ v = .nilsl)
def ItV (vs : List V) (x : It) : Prop := ∃ nv ov, TS nv x.needs ∧ TS ov x.order ∧ vs = [.str x.path, nv, ov, .bool x.rule, .bool x.recipe, .bool x.phony, .int .i64 (x.time : Int), .bool x.fails, .bool x.writes]
theorem itV_it (x : It) : ItV (itV x) x := ⟨_, _, .inl rfl, .inl rfl, rfl⟩
def GetP (x : It) (H : Hp) : Rs → Hp → Prop := fun r J => ∃ vs, r = .ret (.agg vs) ∧ ItV vs x ∧ Ext H J
theorem place_get (l : List It) (p : Bs) : (place l p = -1 ∧ Upd.get l p = none_ p) ∨ ∃ (i : Nat) (h : i < l.length), place l p = (i : Int) ∧ Upd.get l p = l[i] := by
  unfold place Upd.get
  cases h : l.findIdx? fun x => decide (x.path = p) with
  | none =>
    refine .inl ⟨rfl, ?_⟩
    rw [List.findIdx?_eq_none_iff] at h
    rw [List.find?_eq_none.2 (fun x hx => by have := h x hx; simpa using this)]
    rfl
  | some i =>
    refine .inr ?_
    obtain ⟨hi, h1, h2⟩ := List.findIdx?_eq_some_iff_getElem.1 h
    refine ⟨i, hi, rfl, ?_⟩
    have : l.find? (fun x => decide (x.path = p)) = some l[i] := by
      rw [List.find?_eq_some_iff_getElem]
      exact ⟨h1, i, hi, rfl, fun j hj => by simpa using h2 j hj⟩
    rw [this]; rfl
theorem row_item {H : Hp} {n nL : Nat} {l : List It} (hW : WL H n nL l) {i : Nat} (h : i < l.length) {K : V → Prop} (k : K (.agg (itV l[i]))) : ldE true 9 (.ptr nL (0 + i * 9)) H K := by
  obtain ⟨extra, t, hr⟩ := hW.row (by rintro rfl; simp at h)
  rw [ldE_row hr]
  have hb : Nat.ble (0 + i * 9 + 9) (l.flatMap itV ++ extra).length = true := by
    apply Nat.ble_eq_true_of_le
    rw [List.length_append, flat_len]; omega
  have hd : ((l.flatMap itV ++ extra).drop (0 + i * 9)).take 9 = itV l[i] := by
    rw [Nat.zero_add, List.drop_append_of_le_length (by rw [flat_len]; omega), flat_drop l i h, List.append_assoc, List.take_append_of_le_length (by rw [itV_len]; exact Nat.le_refl _)]
    exact List.take_of_length_le (by rw [itV_len]; exact Nat.le_refl _)
  unfold partE
  simp only
  rw [hb]
  show K (.agg _)
  rw [hd]
  exact k
theorem get_spec (b : Nat) (w0 : World) (n nL : Nat) (l : List It) (hl : l.length ≤ 1000) (p : Bs) (H : Hp) (hW : WL H n nL l) : Ac (cx b w0) 73 [.ptr n 0, .str p] H (GetP (Upd.get l p) H) := by
  refine flatironref18_Get.s b w0 _ _ H _ ?_
  intro a ha
  have hE : Ext H (H.set a (O.box [(V.str []), V.nilsl, V.nilsl, (V.bool false), (V.bool false), (V.bool false), (V.int .i64 0), (V.bool false), (V.bool false)] 48)) := (Ext.refl H).set ha
  refine (at_spec b w0 n nL l hl p _ (hW.ext hE)).mono ?_
  rintro r J ⟨rfl, rfl⟩
  show cnd (decide (place l p < 0)) _ _
  rcases place_get l p with ⟨hp, hg⟩ | ⟨i, hi, hp, hg⟩
  · rw [hp, hg]
    refine cnd_dec (fun _ => ?_) (fun h => absurd (by decide) h)
    rw [stE_box (Hp.set_same ..)]
    refine ⟨by simp, by rfl, ?_⟩
    rw [ldE_box (Hp.set_same ..)]
    show GetP (none_ p) H (.ret (.agg [.str p, .nilsl, .nilsl, .bool false, .bool false, .bool false, .int .i64 0, .bool false, .bool false])) _
    exact ⟨_, rfl, ⟨_, _, .inr ⟨rfl, rfl⟩, .inr ⟨rfl, rfl⟩, rfl⟩, fun m o hm => by
      have hma : m ≠ a := by rintro rfl; rw [ha] at hm; cases hm
      rw [Hp.set_ne _ _ hma, Hp.set_ne _ _ hma]; exact hm⟩
  · rw [hp, hg]
    refine cnd_dec (fun h => by omega) (fun _ => ?_)
    obtain ⟨cs, t, hb⟩ := (hW.ext hE).box
    refine ld_box hb rfl (idx_lV hi ?_)
    refine row_item (hW.ext hE) hi ?_
    simp only [itV, aggE, headE, strE, boolE, intK, endE, decide_true]
    rw [stE_box (Hp.set_same ..)]
    refine ⟨by simp, by rfl, ?_⟩
    rw [ldE_box (Hp.set_same ..)]
    show GetP l[i] H (.ret (.agg (itV l[i]))) _
    exact ⟨_, rfl, itV_it _, fun m o hm => by
      have hma : m ≠ a := by rintro rfl; rw [ha] at hm; cases hm
      rw [Hp.set_ne _ _ hma, Hp.set_ne _ _ hma]; exact hm⟩
end Go.Proofs.Ytmpheeanjjfddaa.S
