/- Cuts, and all operations that look at no world together. -/
import Derived.Test.YtmpheeanjjfddaaSOk2
namespace Go.Proofs.Ytmpheeanjjfddaa.SM
open Go Go.RowKit
set_option linter.unusedVariables false
set_option linter.unusedSimpArgs false
variable {P : Program} {E : Env} {tm : Tm} {a : Act} {o : Oper} {v : V}

/-- A bound that may lack. -/
def Bnd (a : Act) (x : Option Operand) (d n : Nat) : Prop := (x = none ∧ n = d) ∨ ∃ y k, x = some y ∧ a.eval y = .int k (n : Int)
theorem bndE_ok {x : Option Operand} {d : Nat} {K : Nat → Prop} (htm : TR E tm a) (h : bndE (x.map (ev tm)) d K) : ∃ n, K n ∧ Bnd a x d n := by
  cases x with
  | none => exact ⟨d, h, .inl ⟨rfl, rfl⟩⟩
  | some y =>
    simp only [Option.map_some, bndE] at h
    obtain ⟨k, n, e, _, h0, h⟩ := intE_ok h (ev_ok htm y)
    exact ⟨n.toNat, h, .inr ⟨y, k, rfl, by rw [e, Int.toNat_of_nonneg h0]⟩⟩
theorem bounds_ok {s : Bool} {lo hi : Option Operand} {n c l h : Nat} (hl : Bnd a lo 0 l) (hh : Bnd a hi n h) (h1 : l ≤ h) (h2 : h ≤ c) (w : World) :
    (Instr.sliceBounds s n c (lo.map a.eval) (hi.map a.eval) none).run P w = .ok (l, h, c) w := by
  rcases hl with ⟨rfl, rfl⟩ | ⟨x, k, rfl, e1⟩ <;> rcases hh with ⟨rfl, rfl⟩ | ⟨y, j, rfl, e2⟩
  · simp [Instr.sliceBounds]
  · cases s <;> simp only [Instr.sliceBounds, Option.map_none, Option.map_some, e2, Sem.run_bind, Sem.run_pure, Result.andThen_ok, Option.isSome_none, Bool.false_eq_true, if_false, if_true, run_sliceBound (P := P) w j (h : Int) c _ (by omega) (by omega), Int.toNat_natCast]
  · cases s <;> simp only [Instr.sliceBounds, Option.map_none, Option.map_some, e1, Sem.run_bind, Sem.run_pure, Result.andThen_ok, Option.isSome_none, Bool.false_eq_true, if_false, if_true, run_sliceBound (P := P) w k (l : Int) h _ (by omega) (by omega), Int.toNat_natCast]
  · cases s <;> simp only [Instr.sliceBounds, Option.map_none, Option.map_some, e1, e2, Sem.run_bind, Sem.run_pure, Result.andThen_ok, Option.isSome_none, Bool.false_eq_true, if_false, if_true, run_sliceBound (P := P) w j (h : Int) c _ (by omega) (by omega), run_sliceBound (P := P) w k (l : Int) h _ (by omega) (by omega), Int.toNat_natCast]
theorem bounds3_ok {lo hi mx : Option Operand} {n c l h m : Nat} (hl : Bnd a lo 0 l) (hh : Bnd a hi n h) (hhs : hi.isSome = true) (hm : Bnd a mx 0 m) (hms : mx.isSome = true) (h1 : l ≤ h) (h2 : h ≤ m) (h3 : m ≤ c) (w : World) :
    (Instr.sliceBounds true n c (lo.map a.eval) (hi.map a.eval) (mx.map a.eval)).run P w = .ok (l, h, m) w := by
  rcases hh with ⟨rfl, rfl⟩ | ⟨y, j, rfl, e2⟩
  · cases hhs
  rcases hm with ⟨rfl, rfl⟩ | ⟨z, i, rfl, e3⟩
  · cases hms
  rcases hl with ⟨rfl, rfl⟩ | ⟨x, k, rfl, e1⟩
  · simp only [Instr.sliceBounds, Option.map_none, Option.map_some, e2, e3, Sem.run_bind, Sem.run_pure, Result.andThen_ok, Option.isSome_some, Bool.false_eq_true, if_false, if_true, run_sliceBound (P := P) w i (m : Int) c _ (by omega) (by omega), run_sliceBound (P := P) w j (h : Int) m _ (by omega) (by omega), Int.toNat_natCast]
  · simp only [Instr.sliceBounds, Option.map_none, Option.map_some, e1, e2, e3, Sem.run_bind, Sem.run_pure, Result.andThen_ok, Option.isSome_some, Bool.false_eq_true, if_false, if_true, run_sliceBound (P := P) w i (m : Int) c _ (by omega) (by omega), run_sliceBound (P := P) w j (h : Int) m _ (by omega) (by omega), run_sliceBound (P := P) w k (l : Int) h _ (by omega) (by omega), Int.toNat_natCast]
theorem flat_drop {sz : Nat} : ∀ (n : Nat) (vals : List Value), (∀ v ∈ vals, v.cells.size = sz) → n ≤ vals.length → flat (vals.drop n) = (flat vals).drop (n * sz)
  | 0, vals, _, _ => by simp
  | n + 1, [], _, h => by simp at h
  | n + 1, y :: r, hs, h => by
    have hy : y.cells.toList.length = sz := by simpa using hs y (by simp)
    rw [List.drop_succ_cons, flat_drop n r (fun v hv => hs v (by simp [hv])) (by simpa using h)]
    show _ = (y.cells.toList ++ flat r).drop ((n + 1) * sz)
    rw [Nat.add_mul, Nat.one_mul, Nat.add_comm, ← List.drop_drop, List.drop_append_of_le_length (by omega), List.drop_of_length_le (l := y.cells.toList) (by omega), List.nil_append]
theorem flat_append (a b : List Value) : flat (a ++ b) = flat a ++ flat b := by simp [flat]
theorem flat_len {sz : Nat} : ∀ (vals : List Value), (∀ v ∈ vals, v.cells.size = sz) → (flat vals).length = vals.length * sz
  | [], _ => by simp [flat]
  | y :: r, hs => by
    have hy : y.cells.toList.length = sz := by simpa using hs y (by simp)
    show (y.cells.toList ++ flat r).length = _
    rw [List.length_append, hy, flat_len r (fun v hv => hs v (by simp [hv])), List.length_cons, Nat.add_mul]; omega
theorem At_take {b o : Nat} {vs us : List Value} (h : At E b o (vs ++ us)) : At E b o vs := by
  obtain ⟨fs, r, hb, ho, hf⟩ := h
  exact ⟨fs, us ++ r, hb, ho, by rw [hf, List.append_assoc]⟩
/-- A part of a row. -/
theorem Row_cut {sz l h : Nat} {ad : Option Addr} {vals : List Value} (hr : Row E sz ad vals) (h1 : l ≤ h) (h2 : h ≤ vals.length) : Row E sz (ad.map fun p => ⟨p.block, p.off + l * sz, p.spot⟩) ((vals.take h).drop l) := by
  refine ⟨fun v hv => hr.1 v (List.mem_of_mem_take (List.mem_of_mem_drop hv)), fun hne => ?_⟩
  have hne2 : vals ≠ [] := by rintro rfl; simp at hne
  obtain ⟨b, o, rfl, hat⟩ := hr.2 hne2
  refine ⟨b, o + l * sz, rfl, ?_⟩
  have e : vals = vals.take h ++ vals.drop h := (List.take_append_drop h vals).symm
  rw [e, flat_append] at hat
  have hat := At_take hat
  have hs : ∀ v ∈ vals.take h, v.cells.size = sz := fun v hv => (hr.1 v (List.mem_of_mem_take hv)).1
  rw [flat_drop l _ hs (by simp; omega)]
  refine At_drop (rest := []) hat (by simp) ?_
  rw [flat_len _ hs]
  exact Nat.mul_le_mul_right _ (by simp; omega)
theorem run_slice {t e : TypeId} {sz : Nat} (hu : P.underlying t = some (.slice e)) (hs : sizeA P e = some sz) {ad : Option Addr} {n c : Nat} {lo hi mx : Option Value} {l h m : Nat} {w : World} (hb : (Instr.sliceBounds true n c lo hi mx).run P w = .ok (l, h, m) w) :
    (Instr.sliceAt t (.slice ad n c) lo hi mx).run P w = .ok (.slice (if m = l then ad else ad.map (·.add (l * sz))) (h - l) (m - l)) w := by
  simp only [Instr.sliceAt, Instr.slice, Sem.run_bind, run_underlying hu, Result.andThen_ok, hb, run_sizeOf hs, Sem.run_pure]
theorem row_addr {sz l : Nat} {ad : Option Addr} {vals : List Value} (hr : Row E sz ad vals) (hne : vals ≠ []) : ad.map (fun p => (⟨p.block, p.off + l * sz, p.spot⟩ : Addr)) = ad.map (·.add (l * sz)) := by
  obtain ⟨b, o, rfl, _⟩ := hr.2 hne
  simp [addr_add]
theorem cut_row {sz l h c : Nat} {ad : Option Addr} {vals : List Value} {vs : List V} (hr : Row E sz ad vals) (hv : VRs E vs vals) (h1 : l ≤ h) (h2 : h ≤ vals.length) (hc : vals.length ≤ c) (h0 : ad = none → c = 0) :
    VR E (.vsl sz ((vs.take h).drop l)) (.slice (if c = l then ad else ad.map (·.add (l * sz))) (h - l) (c - l)) := by
  have hr2 := Row_cut hr h1 h2
  simp only [VR]
  refine ⟨_, _, (vals.take h).drop l, by rw [show h - l = ((vals.take h).drop l).length by simp; omega], by simp; omega, ?_, ?_, VRs_drop _ (VRs_take _ hv)⟩
  · intro hn
    have : ad = none := by
      split at hn
      · exact hn
      · cases ad <;> simp at hn ⊢
    have := h0 this; omega
  · refine ⟨hr2.1, fun hne => ?_⟩
    have hne2 : vals ≠ [] := by rintro rfl; simp at hne
    obtain ⟨b, o, e1, hat⟩ := hr2.2 hne
    have hcl : ¬ c = l := by
      intro hh
      apply hne
      apply List.drop_eq_nil_of_le
      simp; omega
    refine ⟨b, o, ?_, hat⟩
    rw [if_neg hcl, ← row_addr hr hne2]; exact e1
theorem len_slice {n len c : Nat} {ad : Option Addr} (hn : ∃ ad' c', Value.slice ad len c = .slice ad' n c' ∧ n ≤ c' ∧ (ad' = none → c' = 0)) : n = len := by
  obtain ⟨_, _, h, _⟩ := hn
  cases h; rfl
theorem cutV_ok {t el : TypeId} {lo hi : Option Operand} {sz n l e : Nat} {v : V} {cv : Value} {K : V → Prop} (hu : P.underlying t = some (.slice el)) (hs : sizeA P el = some sz) (hx : VR E v cv)
    (hn : ∃ ad c, cv = .slice ad n c ∧ n ≤ c ∧ (ad = none → c = 0)) (hl : Bnd a lo 0 l) (he : Bnd a hi n e) (h : cutV sz v l e K) :
    ∃ u, K u ∧ ∃ cu, VR E u cu ∧ ∀ w, (Instr.sliceAt t cv (lo.map a.eval) (hi.map a.eval) none).run P w = .ok cu w := by
  cases v <;> simp only [cutV] at h <;> simp only [VR] at hx
  · obtain ⟨rfl, rfl, h⟩ := h
    subst hx
    obtain rfl := len_slice hn
    refine ⟨_, h, .slice none 0 0, by simp only [VR], fun w => ?_⟩
    have := run_slice hu hs (ad := none) (bounds_ok (P := P) (s := true) (c := 0) hl he (Nat.le_refl _) (Nat.le_refl _) w)
    simpa using this
  · obtain ⟨rfl, rfl, h⟩ := h
    obtain ⟨ad, rfl⟩ := hx
    obtain rfl := len_slice hn
    refine ⟨_, h, .slice (some ad) 0 0, by simp only [VR]; exact ⟨_, rfl⟩, fun w => ?_⟩
    have := run_slice hu hs (ad := some ad) (bounds_ok (P := P) (s := true) (c := 0) hl he (Nat.le_refl _) (Nat.le_refl _) w)
    simpa using this
  · obtain ⟨ad, c, vals, rfl, hc, h0, hr, hv⟩ := hx
    obtain ⟨rfl, h1, h2, h⟩ := h
    have hlen := VRs_length _ _ hv
    obtain rfl := len_slice hn
    exact ⟨_, h, _, cut_row hr hv h1 (by omega) hc h0, fun w => run_slice hu hs (bounds_ok (P := P) (s := true) (c := c) hl he h1 (by omega) w)⟩
  · obtain ⟨b, N, c, vals, rfl, hc, hr, hv, _, _⟩ := hx
    obtain ⟨rfl, h1, h2, h⟩ := h
    have hlen := VRs_length _ _ hv
    obtain rfl := len_slice hn
    exact ⟨_, h, _, cut_row hr hv h1 (by omega) hc (fun h => by cases h), fun w => run_slice hu hs (bounds_ok (P := P) (s := true) (c := c) hl he h1 (by omega) w)⟩
  · rename_i nm off len z
    obtain ⟨b, N, c, hG, rfl, hc, hN⟩ := hx
    obtain ⟨rfl, h1, h2, h3, h⟩ := h
    obtain rfl := len_slice hn
    have hz := fun w => run_slice hu hs (ad := some ⟨b, off, none⟩) (bounds_ok (P := P) (s := true) (c := c) hl he h1 (by omega) w)
    refine ⟨_, h, _, ?_, hz⟩
    simp only [VR]
    refine ⟨b, N, c - l, hG, ?_, by omega, ?_⟩
    · split
      · have : l = 0 := by omega
        subst this; simp
      · simp [addr_add]
    · have : l * z + (c - l) * z = c * z := by rw [← Nat.add_mul, show l + (c - l) = c by omega]
      omega
theorem cutM_row {sz h m c : Nat} {ad : Option Addr} {vals : List Value} {vs : List V} {K : V → Prop} (hr : Row E sz ad vals) (hv : VRs E vs vals) (h1 : h ≤ m) (h2 : m ≤ vs.length) (hc : vals.length ≤ c) (h0 : ad = none → c = 0) (hk : cutZ sz vs K h m) : ∃ u, K u ∧ VR E u (.slice (if m = 0 then ad else ad.map (·.add (0 * sz))) (h - 0) (m - 0)) := by
  have hlen := VRs_length _ _ hv
  by_cases hm : m = 0
  · subst hm
    have hh : h = 0 := by omega
    subst hh
    rcases hk with ⟨hne, hk⟩ | ⟨he, hk1, hk2⟩
    · have hvn : vals ≠ [] := by rintro rfl; simp at hlen; exact hne (List.eq_nil_of_length_eq_zero (by omega))
      obtain ⟨b, o, rfl, _⟩ := hr.2 hvn
      exact ⟨_, hk, by simp [VR]⟩
    · cases ad with
      | none => exact ⟨_, hk1, by simp [VR]⟩
      | some ad => exact ⟨_, hk2, by simp [VR]⟩
  · have hk' : K (.vsl sz (vs.take h)) := by
      cases m with
      | zero => exact absurd rfl hm
      | succ m => cases h <;> exact hk
    refine ⟨_, hk', ?_⟩
    have hvn : vals ≠ [] := by rintro rfl; simp at hlen; omega
    obtain ⟨b, o, rfl, hat⟩ := hr.2 hvn
    have hr2 := Row_cut (l := 0) (h := h) hr (Nat.zero_le _) (by omega)
    simp only [VR]
    have hth : (vals.take h).length = h := by simp; omega
    refine ⟨some ⟨b, o + 0 * sz, none⟩, m, vals.take h, ?_, ?_, ?_, hr2, VRs_take _ hv⟩
    · rw [hth]; simp [hm, addr_add]
    · rw [hth]; exact h1
    · intro hh; cases hh
theorem cutM_ok {t el : TypeId} {lo hi mx : Option Operand} {sz n l e m : Nat} {v : V} {cv : Value} {K : V → Prop} (hu : P.underlying t = some (.slice el)) (hs : sizeA P el = some sz) (hx : VR E v cv)
    (hn : ∃ ad c, cv = .slice ad n c ∧ n ≤ c ∧ (ad = none → c = 0)) (hl : Bnd a lo 0 l) (he : Bnd a hi n e) (hi1 : hi.isSome = true) (hm : Bnd a mx 0 m) (hm1 : mx.isSome = true) (h : cutM sz v l e m K) :
    ∃ u, K u ∧ ∃ cu, VR E u cu ∧ ∀ w, (Instr.sliceAt t cv (lo.map a.eval) (hi.map a.eval) (mx.map a.eval)).run P w = .ok cu w := by
  cases v <;> simp only [cutM] at h <;> simp only [VR] at hx
  · obtain ⟨rfl, rfl, rfl, h⟩ := h
    subst hx
    refine ⟨_, h, .slice none 0 0, by simp only [VR], fun w => ?_⟩
    have := run_slice hu hs (ad := none) (bounds3_ok (P := P) (c := 0) hl he hi1 hm hm1 (Nat.le_refl _) (Nat.le_refl _) (Nat.le_refl _) w)
    obtain rfl := len_slice hn
    simpa using this
  · obtain ⟨rfl, rfl, rfl, h⟩ := h
    obtain ⟨ad, rfl⟩ := hx
    refine ⟨_, h, .slice (some ad) 0 0, by simp only [VR]; exact ⟨_, rfl⟩, fun w => ?_⟩
    have := run_slice hu hs (ad := some ad) (bounds3_ok (P := P) (c := 0) hl he hi1 hm hm1 (Nat.le_refl _) (Nat.le_refl _) (Nat.le_refl _) w)
    obtain rfl := len_slice hn
    simpa using this
  · obtain ⟨ad, c, vals, rfl, hc, h0, hr, hv⟩ := hx
    obtain ⟨rfl, rfl, h1, h2, h⟩ := h
    have hlen := VRs_length _ _ hv
    obtain rfl := len_slice hn
    obtain ⟨u, hu1, hu2⟩ := cutM_row hr hv h1 h2 hc h0 h
    exact ⟨u, hu1, _, hu2, fun w => run_slice hu hs (bounds3_ok (P := P) (c := c) hl he hi1 hm hm1 (Nat.zero_le _) h1 (by omega) w)⟩
  · obtain ⟨b, N, c, vals, rfl, hc, hr, hv, _, _⟩ := hx
    obtain ⟨rfl, rfl, h1, h2, h⟩ := h
    have hlen := VRs_length _ _ hv
    obtain rfl := len_slice hn
    obtain ⟨u, hu1, hu2⟩ := cutM_row hr hv h1 h2 hc (fun h => by cases h) h
    exact ⟨u, hu1, _, hu2, fun w => run_slice hu hs (bounds3_ok (P := P) (c := c) hl he hi1 hm hm1 (Nat.zero_le _) h1 (by omega) w)⟩
theorem sliceE_ok {t : TypeId} {x : Operand} {lo hi mx : Option Operand} {K : V → Prop} (htm : TR E tm a) (hmh : mx.isSome = true → hi.isSome = true) (h : sliceE P t (ev tm x) (lo.map (ev tm)) (hi.map (ev tm)) (mx.map (ev tm)) K) :
    ∃ u, K u ∧ ∃ cu, VR E u cu ∧ ∀ w, (Instr.sliceAt t (a.eval x) (lo.map a.eval) (hi.map a.eval) (mx.map a.eval)).run P w = .ok cu w := by
  have hx := ev_ok htm x
  generalize ev tm x = v at h hx
  generalize a.eval x = cv at hx ⊢
  unfold sliceE at h
  split at h
  · -- a text
    rename_i hu hmx
    have hmn : mx = none := by cases mx <;> simp at hmx ⊢
    subst hmn
    obtain ⟨s, rfl, _, h⟩ := strE_ok h hx
    obtain ⟨l, h, hl⟩ := bndE_ok htm h
    obtain ⟨e, h, he⟩ := bndE_ok htm h
    obtain ⟨h1, h2, h⟩ := h
    refine ⟨_, h, _, VRt, fun w => ?_⟩
    have hb := bounds_ok (P := P) (s := false) (c := s.length) hl he h1 h2 w
    simp only [Option.map_none, Instr.sliceAt, Instr.slice, Sem.run_bind, run_underlying hu, Result.andThen_ok, Option.isSome_none, Bool.false_eq_true, if_false, B_size, hb, B_extract, Sem.run_pure]
  · rename_i el hu hmx
    have hmn : mx = none := by cases mx <;> simp at hmx ⊢
    subst hmn
    simp only [optP_iff] at h
    obtain ⟨sz, hs, h⟩ := h
    obtain ⟨n, h, hn⟩ := lenE_ok h hx
    obtain ⟨l, h, hl⟩ := bndE_ok htm h
    obtain ⟨e, h, he⟩ := bndE_ok htm h
    exact cutV_ok hu hs hx hn hl he h
  · rename_i el m hu hmx
    simp only [optP_iff] at h
    obtain ⟨sz, hs, h⟩ := h
    obtain ⟨n, h, hn⟩ := lenE_ok h hx
    obtain ⟨l, h, hl⟩ := bndE_ok htm h
    obtain ⟨e, h, he⟩ := bndE_ok htm h
    rw [← hmx] at h
    obtain ⟨m', h, hm⟩ := bndE_ok htm h
    have hm1 : mx.isSome = true := by cases mx <;> simp at hmx ⊢
    exact cutM_ok hu hs hx hn hl he (hmh hm1) hm hm1 h
  · exact h.elim
/-- An operation yields a value, whatever the world. -/
def Yl (P : Program) (E : Env) (a : Act) (o : Oper) (v : V) : Prop := ∃ cv, VR E v cv ∧ ∀ w, (execOp a.eval o).run P w = .ok (.value cv) w
set_option maxHeartbeats 1000000 in
theorem pureE_ok {K : V → Prop} (htm : TR E tm a) (hp : isPure P o = true) (h : pureE P tm o K) : ∃ v, K v ∧ Yl P E a o v := by
  obtain ⟨dst, op, type, pos, after, guard⟩ := o
  cases op
  case move x => simp only [pureE] at h; exact ⟨_, h, _, ev_ok htm x, fun w => by simp [execOp]⟩
  case assign x => simp only [pureE] at h; exact ⟨_, h, _, ev_ok htm x, fun w => by simp [execOp]⟩
  case pick c x y =>
    simp only [pureE] at h
    obtain ⟨b, e, _, h⟩ := boolE_ok h (ev_ok htm c)
    cases b
    · exact ⟨_, h, _, ev_ok htm y, fun w => by simp [execOp, e, asBool]⟩
    · exact ⟨_, h, _, ev_ok htm x, fun w => by simp [execOp, e, asBool]⟩
  case build t parts =>
    simp only [pureE] at h
    obtain ⟨v, h, cv, hv, hr⟩ := buildE_ok (cparts := parts.map fun (i, x) => (i, a.eval x)) (by simpa using parts_ok htm parts.toList) h
    exact ⟨v, h, cv, hv, fun w => by simp [execOp, hr]⟩
  case nilCheck x =>
    simp only [pureE, nckE] at h
    have hv := ev_ok htm x
    split at h
    · rename_i n off hx
      rw [hx] at hv
      have hv' := hv
      simp only [VR] at hv'
      obtain ⟨b, N, _, he⟩ := hv'
      exact ⟨_, h, _, hv, fun w => by simp [execOp, he]⟩
    · rename_i cs hx
      rw [hx] at hv
      have hv' := hv
      simp only [VR] at hv'
      obtain ⟨b, N, _, he, _⟩ := hv'
      exact ⟨_, h, _, hv, fun w => by simp [execOp, he]⟩
    · rename_i t y hx
      rw [hx] at hv
      have hv' := hv
      simp only [VR] at hv'
      obtain ⟨y', he, _⟩ := hv'
      exact ⟨_, h, _, hv, fun w => by simp [execOp, he]⟩
    · rename_i f as cs hx
      rw [hx] at hv
      have hv' := hv
      simp only [VR] at hv'
      obtain ⟨y', z', he, _⟩ := hv'
      exact ⟨_, h, _, hv, fun w => by simp [execOp, he]⟩
    · exact h.elim
  case makeInterface t x =>
    simp only [pureE] at h
    split at h
    · exact h.elim
    · rename_i d hd hu
      refine ⟨_, h, .iface t (a.eval x), by simp only [VR]; exact ⟨_, rfl, ev_ok htm x⟩, fun w => ?_⟩
      simp only [execOp, Sem.run_bind, Instr.makeInterface, run_underlying hu, Result.andThen_ok]
      first
        | rfl
        | (split
           · rename_i ms; exact absurd rfl (hd ms)
           · rfl)
    · exact h.elim
  case makeFunc fn as cs =>
    cases fn <;> simp only [pureE] at h
    case func f =>
      refine ⟨_, h, .func (.func f) (as.map a.eval) (cs.map a.eval), ?_, fun w => by simp [execOp, Instr.makeFunc]⟩
      simp only [VR]
      exact ⟨_, _, rfl, by simpa using evs_ok htm as.toList, by simpa using evs_ok htm cs.toList⟩
  case fieldAddr t x i =>
    simp only [pureE] at h
    have hv := ev_ok htm x
    split at h
    · rename_i fields hu
      obtain ⟨f, hf, h⟩ := (optP_iff _ _).1 h
      split at h
      · rename_i k hk
        unfold faE at h
        split at h
        · rename_i n off hx
          rw [hx] at hv
          simp only [VR] at hv
          obtain ⟨b, N, hb, he⟩ := hv
          refine ⟨_, h, .pointer (some ⟨b, off + f.offset, none⟩), by simp only [VR]; exact ⟨b, N, hb, rfl⟩, fun w => ?_⟩
          simp [execOp, Instr.fieldAt, run_underlying hu, hf, he, Instr.sureAddr, fieldPlace, run_sizeOf hk, addr_add]
        · rename_i cs hx
          rw [hx] at hv
          simp only [VR] at hv
          obtain ⟨b, off, vs, he, hat, hvs⟩ := hv
          obtain ⟨hle, h⟩ := h
          have hlen := VRs_length _ _ hvs
          refine ⟨_, h, .pointer (some ⟨b, off + f.offset, none⟩), by simp only [VR]; exact ⟨b, _, vs.drop f.offset, rfl, At_drop (rest := []) hat (by simp) (by omega), VRs_drop _ hvs⟩, fun w => ?_⟩
          simp [execOp, Instr.fieldAt, run_underlying hu, hf, he, Instr.sureAddr, fieldPlace, run_sizeOf hk, addr_add]
        · exact h.elim
      · exact h.elim
    · exact h.elim
  case field t x i =>
    simp only [pureE] at h
    split at h
    · rename_i fields hu
      obtain ⟨f, hf, h⟩ := (optP_iff _ _).1 h
      obtain ⟨ccs, l, he, _, hcs, h⟩ := aggE_ok h (ev_ok htm x)
      obtain ⟨v, h, cv, hcv, hr⟩ := partT_ok hcs h
      refine ⟨v, openE_ok h, cv, hcv, fun w => ?_⟩
      simp [execOp, Instr.field, run_underlying hu, hf, he, asAgg, hr]
    · exact h.elim
  case indexAddr t x i =>
    simp only [pureE] at h
    split at h
    · rename_i e hu
      obtain ⟨sz, hs, h⟩ := (optP_iff _ _).1 h
      obtain ⟨k, n, he, _, h⟩ := intE_ok h (ev_ok htm i)
      obtain ⟨u, h, cu, hcu, hr⟩ := idxE_ok hu hs h (ev_ok htm x) k
      exact ⟨u, h, cu, hcu, fun w => by simp [execOp, he, hr]⟩
    · exact h.elim
  case index t x i =>
    simp only [pureE] at h
    split at h
    · rename_i hu
      obtain ⟨k, n, he, _, h⟩ := intE_ok h (ev_ok htm i)
      obtain ⟨s, e2, _, h⟩ := strE_ok h (ev_ok htm x)
      obtain ⟨h0, h⟩ := h
      obtain ⟨b, hb, h⟩ := (optP_iff _ _).1 h
      refine ⟨_, h, _, VRi, fun w => ?_⟩
      have hlt := (List.getElem?_eq_some_iff.1 hb).1
      have hB : (B s)[n.toNat]? = some b := by
        have h1 : n.toNat < (B s).size := by rw [B_size]; exact hlt
        rw [getElem?_pos (B s) n.toNat h1]
        have := (List.getElem?_eq_some_iff.1 hb).2
        simp [B, ByteArray.getElem_eq_getElem_data, this]
      simp [execOp, Instr.index, he, e2, asIntOf, run_underlying hu, h0, hB]
    · rename_i len e hu
      obtain ⟨sz, hs, h⟩ := (optP_iff _ _).1 h
      obtain ⟨k, n, he, _, h⟩ := intE_ok h (ev_ok htm i)
      obtain ⟨h0, h1, h⟩ := h
      obtain ⟨ccs, l, e2, _, hcs, h⟩ := aggE_ok h (ev_ok htm x)
      obtain ⟨v, h, cv, hcv, hr⟩ := partT_ok hcs h
      refine ⟨v, openE_ok h, cv, hcv, fun w => ?_⟩
      simp [execOp, Instr.index, he, e2, asIntOf, run_underlying hu, h0, h1, run_sizeOf hs, hr]
    · exact h.elim
  case slice t x lo hi mx =>
    simp only [pureE] at h
    have key : (mx.isSome = true → hi.isSome = true) → sliceE P t (ev tm x) (lo.map (ev tm)) (hi.map (ev tm)) (mx.map (ev tm)) K → ∃ v, K v ∧ Yl P E a ⟨dst, .slice t x lo hi mx, type, pos, after, guard⟩ v := by
      intro hmh h
      obtain ⟨u, h, cu, hcu, hr⟩ := sliceE_ok htm hmh h
      exact ⟨u, h, cu, hcu, fun w => by simp [execOp, hr]⟩
    split at h
    · exact h.elim
    · rename_i hne
      refine key ?_ h
      intro hm
      cases hi with
      | some y => rfl
      | none => cases mx with
        | none => cases hm
        | some m => exact absurd rfl (hne m rfl)
  case typeAssert x xt t ok =>
    simp only [pureE] at h
    have hv := ev_ok htm x
    split at h
    · exact h.elim
    · rename_i d hd hu
      obtain ⟨z, hz, g⟩ := (optP_iff _ _).1 h
      clear h
      obtain ⟨cz, hvz, _, hrz⟩ := run_zero (E := E) hz
      unfold tasE at g
      split at g
      · rename_i u v hx
        rw [hx] at hv
        simp only [VR] at hv
        obtain ⟨cv, he, hcv⟩ := hv
        split at g
        · have hb : Nat.beq u t = true := by assumption
          have hb := Nat.eq_of_beq_eq_true hb
          subst hb
          refine ⟨_, openE_ok g, .tuple #[cv, .bool true], by simp only [VR]; exact ⟨_, rfl, VRs_cons hcv (VRs_cons VRb VRs_nil)⟩, fun w => ?_⟩
          simp only [execOp, Instr.typeAssert, he, Sem.run_bind, run_underlying hu, Result.andThen_ok]
          split <;> simp_all
        · have hb : Nat.beq u t = true := by assumption
          have hb := Nat.eq_of_beq_eq_true hb
          subst hb
          refine ⟨_, openE_ok g, cv, hcv, fun w => ?_⟩
          simp only [execOp, Instr.typeAssert, he, Sem.run_bind, run_underlying hu, Result.andThen_ok]
          split <;> simp_all
        · have hb : Nat.beq u t = false := by assumption
          have hne : ¬ u = t := by rintro rfl; simp at hb
          refine ⟨_, openE_ok g, .tuple #[cz, .bool false], by simp only [VR]; exact ⟨_, rfl, VRs_cons hvz (VRs_cons VRb VRs_nil)⟩, fun w => ?_⟩
          simp only [execOp, Instr.typeAssert, he, Sem.run_bind, run_underlying hu, Result.andThen_ok]
          split <;> simp_all
        · exact g.elim
      · rename_i hx
        rw [hx] at hv
        simp only [VR] at hv
        split at g
        · refine ⟨_, openE_ok g, .tuple #[cz, .bool false], by simp only [VR]; exact ⟨_, rfl, VRs_cons hvz (VRs_cons VRb VRs_nil)⟩, fun w => ?_⟩
          simp only [execOp, Instr.typeAssert, hv, Sem.run_bind, run_underlying hu, Result.andThen_ok]
          split <;> simp_all
        · exact g.elim
      · exact g.elim
    · exact h.elim
  case extract x i =>
    simp only [pureE] at h
    have hv := ev_ok htm x
    cases hx : ev tm x <;> rw [hx] at h hv <;> simp only [tupE] at h
    simp only [VR] at hv
    obtain ⟨cs, he, hcs⟩ := hv
    obtain ⟨v, hv, h⟩ := (optP_iff _ _).1 h
    obtain ⟨cv, hcv, hvv⟩ := VRs_get _ _ hcs _ _ hv
    refine ⟨v, openX_ok h, cv, hvv, fun w => ?_⟩
    have : cs[i]? = some cv := by simpa using hcv
    simp [execOp, Instr.extract, he, this]
  case binOp op t x y yt =>
    simp only [pureE] at h
    obtain ⟨v, h, cv, hcv, hr⟩ := binE_ok htm h
    exact ⟨v, h, cv, hcv, fun w => by simp [execOp, (hr w).1, (hr w).2]⟩
  case unOp op t x =>
    simp only [pureE] at h
    obtain ⟨v, h, cv, hcv, hr⟩ := unE_ok (P := P) h (ev_ok htm x)
    exact ⟨v, h, cv, hcv, fun w => by simp [execOp, hr]⟩
  case convert s d x =>
    simp only [pureE] at h
    obtain ⟨v, h, cv, hcv, hr⟩ := convE_ok h (ev_ok htm x)
    exact ⟨v, h, cv, hcv, fun w => by simp [execOp, hr]⟩
  case call c =>
    obtain ⟨callee, args, argTypes⟩ := c
    cases callee with
    | value f => simp [pureE] at h
    | invoke r m => simp [pureE] at h
    | builtin b =>
      cases b
      case len =>
        simp only [pureE] at h
        split at h
        · rename_i x ha ht
          obtain ⟨t, ht1, ht2⟩ := Option.bind_eq_some_iff.1 ht
          have hargs : args.map a.eval = #[a.eval x] := by rw [← Array.toList_inj]; simp [ha]
          obtain ⟨s, he, _, h⟩ := strE_ok h (ev_ok htm x)
          refine ⟨_, h, _, VRi, fun w => ?_⟩
          simp [execOp, resolve, hargs, invoke, builtin, Builtin.len_, ht1, run_underlying ht2, goInt, he, B_size]
        · rename_i x e ha ht
          obtain ⟨t, ht1, ht2⟩ := Option.bind_eq_some_iff.1 ht
          have hargs : args.map a.eval = #[a.eval x] := by rw [← Array.toList_inj]; simp [ha]
          have hx := ev_ok htm x
          obtain ⟨n, h, ad, c, he, _⟩ := lenE_ok h hx
          refine ⟨_, h, _, VRi, fun w => ?_⟩
          simp [execOp, resolve, hargs, invoke, builtin, Builtin.len_, ht1, run_underlying ht2, goInt, he]
        · rename_i x n e ha ht
          obtain ⟨t, ht1, ht2⟩ := Option.bind_eq_some_iff.1 ht
          have hargs : args.map a.eval = #[a.eval x] := by rw [← Array.toList_inj]; simp [ha]
          refine ⟨_, h, _, VRi, fun w => ?_⟩
          simp [execOp, resolve, hargs, invoke, builtin, Builtin.len_, ht1, run_underlying ht2, goInt]
        · exact h.elim
      case min =>
        simp only [pureE] at h
        split at h
        · rename_i x y ha
          have hargs : args.map a.eval = #[a.eval x, a.eval y] := by rw [← Array.toList_inj]; simp [ha]
          obtain ⟨k, m, e1, _, h⟩ := intE_ok h (ev_ok htm x)
          obtain ⟨j, n, e2, _, h⟩ := intE_ok h (ev_ok htm y)
          refine ⟨_, h, _, VRi, fun w => ?_⟩
          simp [execOp, resolve, hargs, invoke, builtin, Builtin.min_, Builtin.min2, e1, e2]
        · exact h.elim
      case max =>
        simp only [pureE] at h
        split at h
        · rename_i x y ha
          have hargs : args.map a.eval = #[a.eval x, a.eval y] := by rw [← Array.toList_inj]; simp [ha]
          obtain ⟨k, m, e1, _, h⟩ := intE_ok h (ev_ok htm x)
          obtain ⟨j, n, e2, _, h⟩ := intE_ok h (ev_ok htm y)
          refine ⟨_, h, _, VRi, fun w => ?_⟩
          simp [execOp, resolve, hargs, invoke, builtin, Builtin.max_, Builtin.max2, e1, e2]
        · exact h.elim
      all_goals (simp [pureE] at h)
  all_goals (simp [pureE] at h)
end Go.Proofs.Ytmpheeanjjfddaa.SM
