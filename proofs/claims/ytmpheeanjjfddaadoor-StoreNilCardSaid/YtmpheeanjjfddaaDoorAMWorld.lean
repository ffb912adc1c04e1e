/- The small machine's heap, and what of it stands in a world of the model. -/
import Derived.Test.YtmpheeanjjfddaaDoorAMPure3
import Derived.Laws.Append
import Derived.Laws.IdiomCopy
namespace Go.Proofs.YtmpheeanjjfddaaDoor.AM
open Go Go.RowKit
set_option linter.unusedVariables false
set_option linter.unusedSimpArgs false
variable {P : Program} {E : Env} {tm : Tm} {a : Act} {o : Oper} {v : AV}

def ERs (E : Env) : List (AV × AV × Nat) → List MapEntry → Prop
  | [], l => l = []
  | (k, v, b) :: r, l => ∃ x m, l = x :: m ∧ VR E k x.key ∧ VR E v x.val ∧ x.born = b ∧ ERs E r m
theorem ERs_mono {E F : Env} (h : E.le F) : ∀ (l : List (AV × AV × Nat)) (m : List MapEntry), ERs E l m → ERs F l m
  | [], m, hm => hm
  | (k, v, b) :: r, m, hm => by
    obtain ⟨x, m', rfl, h1, h2, h3, h4⟩ := hm
    exact ⟨x, m', rfl, VR_mono h _ _ h1, VR_mono h _ _ h2, h3, ERs_mono h r m' h4⟩
def OR (E : Env) (o : AO) (b N : Nat) (w : World) : Prop :=
  match o with
  | .box vs t => ∃ arr : Array Value, w.heap[b]? = some (.cells arr t (0, 0)) ∧ VRs E vs arr.toList ∧ arr.size = N
  | .row vs t _ => ∃ arr : Array Value, w.heap[b]? = some (.cells arr t (0, 0)) ∧ arr.size = N ∧ vs.length ≤ N ∧ VRs E vs (arr.toList.take vs.length)
  | .map es clock => ∃ es' : Array MapEntry, w.heap[b]? = some (.map es' clock) ∧ ERs E es es'.toList
  | .siter s pos => w.heap[b]? = some (.stringIter (BS s) pos)
  | .dead => True
theorem OR_mono {E F : Env} (h : E.le F) {o : AO} {b N : Nat} {w : World} (ho : OR E o b N w) : OR F o b N w := by
  cases o with
  | box vs t => obtain ⟨arr, h1, h2, h3⟩ := ho; exact ⟨arr, h1, VRs_mono h _ _ h2, h3⟩
  | row vs t l => obtain ⟨arr, h1, h2, h3, h4⟩ := ho; exact ⟨arr, h1, h2, h3, VRs_mono h _ _ h4⟩
  | map es c => obtain ⟨es', h1, h2⟩ := ho; exact ⟨es', h1, ERs_mono h _ _ h2⟩
  | siter s p => exact ho
  | dead => trivial
theorem OR_same {E : Env} {o : AO} {b N : Nat} {w w' : World} (he : w'.heap[b]? = w.heap[b]?) (ho : OR E o b N w) : OR E o b N w' := by
  cases o with
  | box vs t => obtain ⟨arr, h1, h2⟩ := ho; exact ⟨arr, he.trans h1, h2⟩
  | row vs t l => obtain ⟨arr, h1, h2⟩ := ho; exact ⟨arr, he.trans h1, h2⟩
  | map es c => obtain ⟨es', h1, h2⟩ := ho; exact ⟨es', he.trans h1, h2⟩
  | siter s p => exact he.trans ho
  | dead => trivial
def lin : AO → Option Nat
  | .row _ _ l => some l
  | _ => none
def Kin (o p : AO) : Prop := o = .dead ∨ p = .dead ∨ ∃ l, lin o = some l ∧ lin p = some l
theorem Kin.symm {o p : AO} (h : Kin o p) : Kin p o := by
  rcases h with h | h | ⟨l, h1, h2⟩
  · exact .inr (.inl h)
  · exact .inl h
  · exact .inr (.inr ⟨l, h2, h1⟩)
structure WR (E : Env) (base : Nat) (w0 : World) (H : Hp) (w : World) : Prop where
  below : Below base w0 w
  big : base ≤ w.heap.size
  live : ∀ n o b N, hget H n = some o → E.G n = some (b, N) → base ≤ b ∧ b < w.heap.size ∧ OR E o b N w
  dom : ∀ n, hget H n = none → E.G n = none
  kin : ∀ n m o p b N M, hget H n = some o → hget H m = some p → n ≠ m → E.G n = some (b, N) → E.G m = some (b, M) → Kin o p

theorem hget_hset (n m : Nat) (o : AO) : ∀ (H : Hp), hget (hset H n o) m = if m = n then some o else hget H m
  | [] => by
    simp only [hset, hget]
    by_cases h : m = n
    · subst h; simp
    · simp [h, Ne.symm h]
  | (k, x) :: r => by
    simp only [hset]
    split
    · rename_i hk
      simp only [Nat.beq_eq] at hk
      subst hk
      simp only [hget]
      by_cases h : m = k
      · subst h; simp
      · simp [h, Ne.symm h]
    · rename_i hk
      simp only [Nat.beq_eq] at hk
      split
      · simp only [hget]
        by_cases h : m = n
        · subst h; simp
        · simp [h, Ne.symm h]
      · simp only [hget]
        rw [hget_hset n m o r]
        by_cases h : m = n
        · subst h; simp [hk]
        · simp [h]
theorem hget_hmap (f : Nat → AO → AO) (m : Nat) : ∀ (H : Hp), hget (hmap f H) m = (hget H m).map (f m)
  | [] => rfl
  | (k, x) :: r => by
    simp only [hmap, hget]
    by_cases h : k = m
    · subst h; simp
    · simp [h, hget_hmap f m r]
theorem below_of {base : Nat} {w0 w w' : World} (h : Below base w0 w) (hos : w'.os = w.os) (ht : w'.tape = w.tape) (hou : w'.output = w.output) (hs : w.heap.size ≤ w'.heap.size) (hb : ∀ k, k < base → w'.heap[k]? = w.heap[k]?) : Below base w0 w' :=
  ⟨hos.trans h.os, ht.trans h.tape, hou.trans h.output, Nat.le_trans h.size hs, fun k hk => (hb k hk).trans (h.block k hk)⟩
theorem alloc_heap (w : World) (obj : Obj) (k : Nat) (hk : k < w.heap.size) : (w.alloc obj).heap[k]? = w.heap[k]? := Below.heap_alloc w obj k hk
theorem alloc_size (w : World) (obj : Obj) : (w.alloc obj).heap.size = w.heap.size + 1 := by simp
theorem WR.drew {base : Nat} {w0 w : World} {H : Hp} (h : WR E base w0 H w) : WR E base w0 H w.drew :=
  ⟨⟨h.below.os, h.below.tape, h.below.output, h.below.size, h.below.block⟩, h.big, fun n o b N hn hG => by obtain ⟨h1, h2, h3⟩ := h.live n o b N hn hG; exact ⟨h1, h2, OR_same rfl h3⟩, h.dom, h.kin⟩
theorem WR.alloc {base : Nat} {w0 w : World} {H : Hp} (h : WR E base w0 H w) {n : Nat} (hn : hget H n = none) (obj : Obj) (o : AO) (N : Nat)
    (ho : OR (E.set n w.heap.size N) o w.heap.size N (w.alloc obj)) : WR (E.set n w.heap.size N) base w0 (hset H n o) (w.alloc obj) := by
  have hle : E.le (E.set n w.heap.size N) := Env.le_set (h.dom n hn)
  have hsz := alloc_size w obj
  refine ⟨below_of h.below rfl rfl rfl (by omega) (fun k hk => alloc_heap w obj k (by have := h.big; omega)), by have := h.big; omega, ?_, ?_, ?_⟩
  · intro m p b M hm hG
    rw [hget_hset] at hm
    by_cases hmn : m = n
    · subst hmn
      simp only [if_pos trivial, Option.some.injEq] at hm
      subst hm
      simp only [Env.set, if_pos trivial, Option.some.injEq, Prod.mk.injEq] at hG
      obtain ⟨rfl, rfl⟩ := hG
      exact ⟨h.big, by omega, ho⟩
    · rw [if_neg hmn] at hm
      simp only [Env.set, if_neg hmn] at hG
      obtain ⟨h1, h2, h3⟩ := h.live m p b M hm hG
      exact ⟨h1, by omega, OR_same (alloc_heap w obj b h2) (OR_mono hle h3)⟩
  · intro m hm
    rw [hget_hset] at hm
    by_cases hmn : m = n
    · subst hmn; simp at hm
    · rw [if_neg hmn] at hm
      simp only [Env.set, if_neg hmn]
      exact h.dom m hm
  · intro m k p q b M K hm hk hne hGm hGk
    rw [hget_hset] at hm hk
    by_cases hmn : m = n
    · subst hmn
      have hkn : ¬ k = m := fun e => hne e.symm
      rw [if_neg hkn] at hk
      simp only [Env.set, if_pos trivial, if_neg hkn, Option.some.injEq, Prod.mk.injEq] at hGm hGk
      have := (h.live k q b K hk hGk).2.1
      omega
    · by_cases hkn : k = n
      · subst hkn
        rw [if_neg hmn] at hm
        simp only [Env.set, if_pos trivial, if_neg hmn, Option.some.injEq, Prod.mk.injEq] at hGm hGk
        have := (h.live m p b M hm hGm).2.1
        omega
      · rw [if_neg hmn] at hm
        rw [if_neg hkn] at hk
        simp only [Env.set, if_neg hmn, if_neg hkn] at hGm hGk
        exact h.kin m k p q b M K hm hk hne hGm hGk
/-- One block is written. -/
theorem WR.write {base : Nat} {w0 w w' : World} {H H' : Hp} (h : WR E base w0 H w) {b : Nat} (hb : base ≤ b) (hsz : w'.heap.size = w.heap.size) (hos : w'.os = w.os) (ht : w'.tape = w.tape) (hou : w'.output = w.output)
    (hne : ∀ k, k ≠ b → w'.heap[k]? = w.heap[k]?) (hdom : ∀ m, hget H' m = none → hget H m = none)
    (hobj : ∀ m o', hget H' m = some o' → ∃ o, hget H m = some o ∧ (o' = .dead ∨ o' = o ∨ (lin o' = lin o ∧ o ≠ .dead)))
    (hor : ∀ m o' N, hget H' m = some o' → E.G m = some (b, N) → OR E o' b N w')
    (hoth : ∀ m o' c N, hget H' m = some o' → E.G m = some (c, N) → c ≠ b → ∃ o, hget H m = some o ∧ (o' = o ∨ o' = .dead)) : WR E base w0 H' w' := by
  refine ⟨below_of h.below hos ht hou (by omega) (fun k hk => hne k (by omega)), by have := h.big; omega, ?_, fun m hm => h.dom m (hdom m hm), ?_⟩
  · intro m o' c N hm hG
    obtain ⟨o, ho, _⟩ := hobj m o' hm
    obtain ⟨h1, h2, h3⟩ := h.live m o c N ho hG
    refine ⟨h1, by omega, ?_⟩
    by_cases hc : c = b
    · subst hc; exact hor m o' N hm hG
    · obtain ⟨o1, ho1, hh⟩ := hoth m o' c N hm hG hc
      rw [ho] at ho1; cases ho1
      rcases hh with rfl | rfl
      · exact OR_same (hne c hc) h3
      · trivial
  · intro m k p q c M K hm hk hmk hGm hGk
    obtain ⟨p0, hp0, hp⟩ := hobj m p hm
    obtain ⟨q0, hq0, hq⟩ := hobj k q hk
    have hkin := h.kin m k p0 q0 c M K hp0 hq0 hmk hGm hGk
    have step : ∀ {p0 q0 p : AO}, Kin p0 q0 → (p = .dead ∨ p = p0 ∨ (lin p = lin p0 ∧ p0 ≠ .dead)) → Kin p q0 := by
      intro p0 q0 p hk hp
      rcases hp with rfl | rfl | ⟨hl, hd⟩
      · exact .inl rfl
      · exact hk
      · rcases hk with hk | hk | ⟨l, h1, h2⟩
        · exact absurd hk hd
        · exact .inr (.inl hk)
        · exact .inr (.inr ⟨l, hl.trans h1, h2⟩)
    exact (step (step hkin hp).symm hq).symm

theorem one_ok {v : AV} {cv : Value} (h : one v = true) (hv : VR E v cv) : cv.oneCell' = true := by
  cases v <;> simp only [VR] at hv
  case agg => cases h
  case tuple => cases h
  case str => obtain ⟨rfl, _⟩ := hv; rfl
  case ptr => obtain ⟨_, _, _, rfl⟩ := hv; rfl
  case esl => obtain ⟨_, _, rfl⟩ := hv; rfl
  case sl => obtain ⟨_, _, _, _, rfl, _⟩ := hv; rfl
  case map => obtain ⟨_, _, _, rfl⟩ := hv; rfl
  case func => obtain ⟨_, _, rfl, _⟩ := hv; rfl
  case iface => obtain ⟨_, rfl, _⟩ := hv; rfl
  all_goals (subst hv; rfl)
theorem all_one {l : List AV} {m : List Value} (h : l.all one = true) (hv : VRs E l m) : ∀ x ∈ m, x.oneCell' = true := by
  intro x hx
  obtain ⟨i, hi⟩ := List.mem_iff_getElem?.1 hx
  have hlen := VRs_length _ _ hv
  have hil : i < l.length := by have := (List.getElem?_eq_some_iff.1 hi).1; omega
  obtain ⟨y, hy, hvy⟩ := VRs_get _ _ hv i l[i] (List.getElem?_eq_getElem hil)
  rw [hi] at hy; cases hy
  exact one_ok (List.all_eq_true.1 h _ (List.getElem_mem hil)) hvy
theorem setRow_size (w : World) (g : Nat) (cs : Array Value) : (w.setRow g cs).heap.size = w.heap.size := by simp [World.setRow]

/-! loads -/
theorem cells_of {base : Nat} {w0 w : World} {s : St} (hW : WR E base w0 s.H w) {n : Nat} {vs : List AV} (h : cellsOf s n = some vs) {b N : Nat} (hG : E.G n = some (b, N)) :
    ∃ arr t, w.heap[b]? = some (.cells arr t (0, 0)) ∧ arr.size = N ∧ vs.length ≤ N ∧ VRs E vs (arr.toList.take vs.length) := by
  unfold cellsOf at h
  split at h
  · rename_i vs' t hn
    cases h
    obtain ⟨_, _, arr, h1, h2, h3⟩ := hW.live n _ b N hn hG
    have hl := VRs_length _ _ h2
    exact ⟨arr, _, h1, h3, by simp at hl; omega, by rw [List.take_of_length_le (by omega)]; exact h2⟩
  · rename_i vs' t l hn
    cases h
    obtain ⟨_, _, arr, h1, h2, h3, h4⟩ := hW.live n _ b N hn hG
    exact ⟨arr, _, h1, h2, h3, h4⟩
  · cases h
theorem cell_at {w : World} {b : Nat} {arr : Array Value} {t : TypeId} (h : w.heap[b]? = some (.cells arr t (0, 0))) (j : Nat) : w.cell? ⟨b, j, none⟩ = arr[j]? := by simp [World.cell?, h]
theorem take_get {vs : List AV} {l : List Value} (h : VRs E vs (l.take vs.length)) {i : Nat} {x : AV} (hx : vs[i]? = some x) : ∃ cx, l[i]? = some cx ∧ VR E x cx := by
  obtain ⟨cx, hc, hv⟩ := VRs_get _ _ h i x hx
  have hi : i < vs.length := (List.getElem?_eq_some_iff.1 hx).1
  rw [List.getElem?_take, if_pos hi] at hc
  exact ⟨cx, hc, hv⟩
theorem loadA_ok {base : Nat} {w0 w : World} {s : St} (hW : WR E base w0 s.H w) {t : TypeId} {n off : Nat} {v : AV} (h : loadA P t n off s = some v) {b N : Nat} (hG : E.G n = some (b, N)) :
    ∃ cv, VR E v cv ∧ (loadVar t ⟨b, off, none⟩).run P w = .ok cv w := by
  unfold loadA at h
  split at h
  · rename_i vs hvs
    obtain ⟨arr, ty, h1, h2, h3, h4⟩ := cells_of hW hvs hG
    unfold partA at h
    split at h
    · rename_i hag
      split at h
      · rename_i k hk
        split at h
        · rename_i hle
          cases h
          have hV : VRs E ((vs.drop off).take k) ((arr.toList.drop off).take k) := by
            have h5 := VRs_take k (VRs_drop off h4)
            have e : ((arr.toList.take vs.length).drop off).take k = (arr.toList.drop off).take k := by
              rw [List.drop_take, List.take_take, Nat.min_eq_left (by omega)]
            rwa [e] at h5
          have hlen : ((arr.toList.drop off).take k).length = k := by simp; omega
          have hc : ∀ j v, ((arr.toList.drop off).take k)[j]? = some v → w.cell? ((⟨b, off, none⟩ : Addr).add j) = some v := by
            intro j v hj
            rw [addr_add, cell_at h1]
            have hjk : j < k := by have := (List.getElem?_eq_some_iff.1 hj).1; omega
            rw [List.getElem?_take, if_pos hjk, List.getElem?_drop] at hj
            simpa using hj
          refine ⟨.agg ((arr.toList.drop off).take k).toArray, by simp only [VR]; exact ⟨_, rfl, by simpa using hV⟩, ?_⟩
          have hr := run_loadCells_list (P := P) w ⟨b, off, none⟩ _ hc
          rw [hlen] at hr
          simp only [loadVar, Sem.run_bind, run_isAgg hag, Result.andThen_ok, if_true, run_sizeOf hk, hr, Sem.run_pure]
        · cases h
      · cases h
    · rename_i hag
      obtain ⟨cx, hc, hv⟩ := take_get h4 h
      refine ⟨cx, hv, ?_⟩
      have : w.cell? ⟨b, off, none⟩ = some cx := by rw [cell_at h1]; simpa using hc
      simp [loadVar, run_isAgg hag, this]
    · cases h
  · cases h
end Go.Proofs.YtmpheeanjjfddaaDoor.AM
