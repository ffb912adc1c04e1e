/- The heap: new objects, stores, loads. -/
import Derived.Test.YtmpheeanjjfddaaSOk3
import Derived.Laws.Append
import Derived.Laws.IdiomCopy
import Derived.Laws.MakeOwn
namespace Go.Proofs.Ytmpheeanjjfddaa.SM
open Go Go.RowKit
set_option linter.unusedVariables false
set_option linter.unusedSimpArgs false
variable {P : Program} {E : Env} {tm : Tm} {a : Act} {o : Oper} {v : V} {base : Nat} {w0 w : World} {H : Hp}

theorem below_of {base : Nat} {w0 w w' : World} (h : Below base w0 w) (hos : w'.os = w.os) (ht : w'.tape = w.tape) (hou : w'.output = w.output) (hs : w.heap.size ≤ w'.heap.size) (hb : ∀ k, k < base → w'.heap[k]? = w.heap[k]?) : Below base w0 w' :=
  ⟨hos.trans h.os, ht.trans h.tape, hou.trans h.output, Nat.le_trans h.size hs, fun k hk => (hb k hk).trans (h.block k hk)⟩
theorem OR_step {E D : Env} (hle : E.le D) {o : O} {b N : Nat} {w w' : World} (hF : D.F b = E.F b) (he : w'.heap[b]? = w.heap[b]?) (ho : OR E o b N w) (hS : D.S b = E.S b := by rfl) : OR D o b N w' := by
  cases o with
  | box vs t => obtain ⟨h0, arr, h1, h2, h3⟩ := ho; exact ⟨hF.trans h0, arr, he.trans h1, VRs_mono hle _ _ h2, h3⟩
  | row vs t => obtain ⟨h0, arr, h1, h2, h3, h4⟩ := ho; exact ⟨hF.trans h0, arr, he.trans h1, h2, h3, VRs_mono hle _ _ h4⟩
  | tip e t => obtain ⟨⟨fs, h0, h0'⟩, arr, h1, h2⟩ := ho; exact ⟨⟨fs, hF.trans h0, h0'⟩, arr, he.trans h1, h2⟩
  | map st es => obtain ⟨h0, ces, c, h1, h2, ⟨m, h3, h4⟩, h5, h6, h7⟩ := ho; exact ⟨hF.trans h0, ces, c, he.trans h1, h2, ⟨m, h3, ERs_mono hle _ _ h4⟩, h5, h6, fun k s hs => h7 k s (by rw [← hS]; exact hs)⟩
  | siter s p => exact ⟨hF.trans ho.1, he.trans ho.2⟩
  | dead => trivial
theorem cell_same {w w' : World} {b j : Nat} (he : w'.heap[b]? = w.heap[b]?) : w'.cell? ⟨b, j, none⟩ = w.cell? ⟨b, j, none⟩ := by simp [World.cell?, he]
theorem alloc_heap (w : World) (obj : Obj) (k : Nat) (hk : k < w.heap.size) : (w.alloc obj).heap[k]? = w.heap[k]? := Below.heap_alloc w obj k hk
theorem alloc_size (w : World) (obj : Obj) : (w.alloc obj).heap.size = w.heap.size + 1 := by simp
theorem heap_new (w : World) (o : Obj) : (w.alloc o).heap[w.heap.size]? = some o := by show (w.heap.push o)[w.heap.size]? = some o; simp
theorem WR.drew (h : WR E base w0 H w) : WR E base w0 H w.drew :=
  ⟨⟨h.below.os, h.below.tape, h.below.output, h.below.size, h.below.block⟩, h.big, fun n o b N hn hG hd => by obtain ⟨h1, h2, h3⟩ := h.live n o b N hn hG hd; exact ⟨h1, h2, OR_step (Env.le_refl E) rfl rfl h3⟩, h.dom, h.apart, fun b fs hb => h.iced b fs hb, h.old, h.fin⟩
/-- A new object: its block, what of it is frozen. -/
def Env.new (E : Env) (n b N : Nat) (fr : Option (List Value)) : Env := ⟨fun m => if m = n then some (b, N) else E.G m, fun c => if c = b then fr else E.F c, E.S⟩
theorem fresh_F (h : WR E base w0 H w) : E.F w.heap.size = none := by
  cases hf : E.F w.heap.size with
  | none => rfl
  | some fs => exact absurd (h.iced _ _ hf).1 (by omega)
theorem Env.le_new {n b N : Nat} {fr : Option (List Value)} (h : E.G n = none) (hF : E.F b = none) : E.le (E.new n b N fr) := by
  refine ⟨fun m x hx => ?_, fun c fs hc => ⟨[], ?_⟩, fun _ _ _ h => h⟩
  · by_cases hm : m = n
    · subst hm; rw [h] at hx; cases hx
    · simp [Env.new, hm, hx]
  · by_cases hm : c = b
    · subst hm; rw [hF] at hc; cases hc
    · simp [Env.new, hm, hc]
theorem WR.new (h : WR E base w0 H w) {n : Nat} (hn : H n = none) (obj : Obj) (o : O) (N : Nat) (fr : Option (List Value))
    (ho : OR (E.new n w.heap.size N fr) o w.heap.size N (w.alloc obj)) (hfr : ∀ fs, fr = some fs → ∀ j v, fs[j]? = some v → (w.alloc obj).cell? ⟨w.heap.size, j, none⟩ = some v) :
    E.le (E.new n w.heap.size N fr) ∧ (E.new n w.heap.size N fr).G n = some (w.heap.size, N) ∧ WR (E.new n w.heap.size N fr) base w0 (H.set n o) (w.alloc obj) := by
  have hF := fresh_F h
  have hle : E.le (E.new n w.heap.size N fr) := Env.le_new (h.dom n hn) hF
  have hsz := alloc_size w obj
  refine ⟨hle, by simp [Env.new], below_of h.below rfl rfl rfl (by omega) (fun k hk => alloc_heap w obj k (by have := h.big; omega)), by have := h.big; omega, ?_, ?_, ?_, ?_, fun c q hc => h.old c q (by omega), Hp.fin_set h.fin _ _⟩
  · intro m p b M hm hG hd
    by_cases hmn : m = n
    · subst hmn
      rw [Hp.set_same] at hm; cases hm
      simp only [Env.new, if_pos trivial, Option.some.injEq, Prod.mk.injEq] at hG
      obtain ⟨rfl, rfl⟩ := hG
      exact ⟨h.big, by omega, ho⟩
    · rw [Hp.set_ne _ _ hmn] at hm
      simp only [Env.new, if_neg hmn] at hG
      obtain ⟨h1, h2, h3⟩ := h.live m p b M hm hG hd
      refine ⟨h1, by omega, OR_step hle ?_ (alloc_heap w obj b h2) h3⟩
      simp only [Env.new, if_neg (show ¬ b = w.heap.size by omega)]
  · intro m hm
    by_cases hmn : m = n
    · subst hmn; rw [Hp.set_same] at hm; cases hm
    · rw [Hp.set_ne _ _ hmn] at hm
      simp only [Env.new, if_neg hmn]
      exact h.dom m hm
  · intro m k p q b M K hm hk hdp hdq hGm hGk
    by_cases hmn : m = n
    · subst hmn
      by_cases hkn : k = m
      · exact hkn.symm
      · rw [Hp.set_ne _ _ hkn] at hk
        simp only [Env.new, if_pos trivial, if_neg hkn, Option.some.injEq, Prod.mk.injEq] at hGm hGk
        have := (h.live k q b K hk hGk hdq).2.1
        omega
    · rw [Hp.set_ne _ _ hmn] at hm
      by_cases hkn : k = n
      · subst hkn
        simp only [Env.new, if_pos trivial, if_neg hmn, Option.some.injEq, Prod.mk.injEq] at hGm hGk
        have := (h.live m p b M hm hGm hdp).2.1
        omega
      · rw [Hp.set_ne _ _ hkn] at hk
        simp only [Env.new, if_neg hmn, if_neg hkn] at hGm hGk
        exact h.apart m k p q b M K hm hk hdp hdq hGm hGk
  · intro b fs hb
    by_cases hbn : b = w.heap.size
    · subst hbn
      simp only [Env.new, if_pos trivial] at hb
      exact ⟨by omega, hfr fs hb⟩
    · simp only [Env.new, if_neg hbn] at hb
      obtain ⟨h1, h2⟩ := h.iced b fs hb
      exact ⟨by omega, fun j v hj => by rw [cell_same (alloc_heap w obj b h1)]; exact h2 j v hj⟩
/-- An object's block is written. -/
theorem WR.putS (h : WR E base w0 H w) {D : Env} (hle : E.le D) (hDG : D.G = E.G) (hDF : D.F = E.F) {n b N : Nat} {o o' : O} (hn : H n = some o) (hd : o ≠ .dead) (hG : E.G n = some (b, N)) (hF : E.F b = none) {w' : World} (hsz : w'.heap.size = w.heap.size) (hos : w'.os = w.os) (ht : w'.tape = w.tape) (hou : w'.output = w.output)
    (hne : ∀ k, k ≠ b → w'.heap[k]? = w.heap[k]?) (hDS : ∀ c, c ≠ b → D.S c = E.S c) (ho : OR D o' b N w') : WR D base w0 (H.set n o') w' := by
  obtain ⟨hb, hlt, _⟩ := h.live n o b N hn hG hd
  refine ⟨below_of h.below hos ht hou (by omega) (fun k hk => hne k (by omega)), by have := h.big; omega, ?_, ?_, ?_, ?_, ?_, Hp.fin_set h.fin _ _⟩
  · intro m p c M hm hGm hdp
    rw [hDG] at hGm
    by_cases hmn : m = n
    · subst hmn
      rw [Hp.set_same] at hm; cases hm
      rw [hG] at hGm; cases hGm
      exact ⟨hb, by omega, ho⟩
    · rw [Hp.set_ne _ _ hmn] at hm
      obtain ⟨h1, h2, h3⟩ := h.live m p c M hm hGm hdp
      have hcb : c ≠ b := by
        rintro rfl
        exact hmn (h.apart m n p o c M N hm hn hdp hd hGm hG)
      exact ⟨h1, by omega, OR_step hle (by rw [hDF]) (hne c hcb) h3 (hDS c hcb)⟩
  · intro m hm
    rw [hDG]
    by_cases hmn : m = n
    · subst hmn; rw [Hp.set_same] at hm; cases hm
    · rw [Hp.set_ne _ _ hmn] at hm; exact h.dom m hm
  · intro m k p q c M K hm hk hdp hdq hGm hGk
    rw [hDG] at hGm hGk
    have back : ∀ m p, H.set n o' m = some p → p ≠ .dead → ∃ p', H m = some p' ∧ p' ≠ .dead := by
      intro m p hm hdp
      by_cases hmn : m = n
      · subst hmn; exact ⟨o, hn, hd⟩
      · rw [Hp.set_ne _ _ hmn] at hm; exact ⟨p, hm, hdp⟩
    obtain ⟨p', hp', hdp'⟩ := back m p hm hdp
    obtain ⟨q', hq', hdq'⟩ := back k q hk hdq
    exact h.apart m k p' q' c M K hp' hq' hdp' hdq' hGm hGk
  · intro c fs hc
    rw [hDF] at hc
    obtain ⟨h1, h2⟩ := h.iced c fs hc
    have hcb : c ≠ b := by rintro rfl; rw [hF] at hc; cases hc
    exact ⟨by omega, fun j v hj => by rw [cell_same (hne c hcb)]; exact h2 j v hj⟩
  · intro c q hc
    rw [hDS c (by omega)]
    exact h.old c q (by omega)
theorem WR.put (h : WR E base w0 H w) {n b N : Nat} {o o' : O} (hn : H n = some o) (hd : o ≠ .dead) (hG : E.G n = some (b, N)) (hF : E.F b = none) {w' : World} (hsz : w'.heap.size = w.heap.size) (hos : w'.os = w.os) (ht : w'.tape = w.tape) (hou : w'.output = w.output)
    (hne : ∀ k, k ≠ b → w'.heap[k]? = w.heap[k]?) (ho : OR E o' b N w') : WR E base w0 (H.set n o') w' :=
  h.putS (Env.le_refl E) rfl rfl hn hd hG hF hsz hos ht hou hne (fun _ _ => rfl) ho
theorem cell_at {w : World} {b : Nat} {arr : Array Value} {t : TypeId} (h : w.heap[b]? = some (.cells arr t (0, 0))) (j : Nat) : w.cell? ⟨b, j, none⟩ = arr[j]? := by simp [World.cell?, h]
theorem VR_undef : VR E (.tuple []) undef := by simp only [VR]; exact ⟨#[], rfl, VRs_nil⟩
theorem setRow_size (w : World) (g : Nat) (cs : Array Value) : (w.setRow g cs).heap.size = w.heap.size := by simp [World.setRow]

/-! loads -/
/-- Cells that stand at a place. -/
def Cells (w : World) (b off : Nat) (vs : List Value) : Prop := ∀ j v, vs[j]? = some v → w.cell? ⟨b, off + j, none⟩ = some v
theorem load_ok {t : TypeId} {ag : Bool} {k : Nat} {cs : List V} {vs : List Value} {b o off : Nat} {K : V → Prop} (hc : Cells w b o vs) (hv : VRs E cs vs) (hag : isAggA P t = some ag) (hk : sizeA P t = some k) (h : partE ag k cs off K) : ∃ v, K v ∧ ∃ cv, VR E v cv ∧ (loadVar t ⟨b, o + off, none⟩).run P w = .ok cv w := by
  unfold partE at h
  have hlen := VRs_length _ _ hv
  cases ag with
  | true =>
    simp only at h
    split at h
    · rename_i hle
      have hle := Nat.le_of_ble_eq_true hle
      have hl2 : ((vs.drop off).take k).length = k := by simp; omega
      refine ⟨_, h, .agg ((vs.drop off).take k).toArray, by simp only [VR]; exact ⟨_, rfl, by simpa using VRs_take k (VRs_drop off hv)⟩, ?_⟩
      have hr := run_loadCells_list (P := P) w ⟨b, o + off, none⟩ ((vs.drop off).take k) (fun j v hj => by
        rw [addr_add]
        have hjk : j < k := by have := (List.getElem?_eq_some_iff.1 hj).1; omega
        rw [List.getElem?_take, if_pos hjk, List.getElem?_drop] at hj
        have := hc (off + j) v hj
        rw [← Nat.add_assoc] at this; exact this)
      rw [hl2] at hr
      simp only [loadVar, Sem.run_bind, run_isAgg hag, Result.andThen_ok, if_true, run_sizeOf hk, hr, Sem.run_pure]
    · exact h.elim
  | false =>
    simp only [optP_iff] at h
    obtain ⟨v, hv1, h⟩ := h
    obtain ⟨cv, hcv, hvv⟩ := VRs_get _ _ hv _ _ hv1
    refine ⟨v, h, cv, hvv, ?_⟩
    have := hc off cv hcv
    simp [loadVar, run_isAgg hag, this]
theorem At_cells (hi : Iced E w) {b o : Nat} {vs : List Value} (h : At E b o vs) : Cells w b o vs := by
  obtain ⟨fs, rest, hb, ho, hd⟩ := h
  intro j v hj
  refine (hi b fs hb).2 (o + j) v ?_
  have : (fs.drop o)[j]? = some v := by rw [hd, List.getElem?_append_left (List.getElem?_eq_some_iff.1 hj).1]; exact hj
  simpa using this
theorem ldT_ok {t : TypeId} {x : V} {cx : Value} {K : V → Prop} (hW : WR E base w0 H w) (hx : VR E x cx) (h : ldT P t x H K) : ∃ v, K v ∧ ∃ cv, VR E v cv ∧ (Instr.loadAt t cx).run P w = .ok cv w := by
  unfold ldT at h
  simp only [optP_iff] at h
  obtain ⟨ag, hag, k, hk, h⟩ := h
  unfold ldE at h
  split at h
  · rename_i n off
    simp only [VR] at hx
    obtain ⟨b, N, hG, rfl⟩ := hx
    split at h
    · rename_i vs t' hn
      obtain ⟨_, _, _, arr, h1, h2, h3⟩ := hW.live n _ b N hn hG (by simp)
      obtain ⟨v, h, cv, hv, hr⟩ := load_ok (w := w) (b := b) (o := 0) (fun j v hj => by rw [Nat.zero_add, cell_at h1]; simpa using hj) h2 hag hk h
      exact ⟨v, h, cv, hv, by rw [Nat.zero_add] at hr; simp only [Instr.loadAt, Instr.sureAddr, Sem.run_bind, Sem.run_pure, Result.andThen_ok, hr]⟩
    · rename_i vs t' hn
      obtain ⟨_, _, _, arr, h1, h2, h3, h4⟩ := hW.live n _ b N hn hG (by simp)
      obtain ⟨v, h, cv, hv, hr⟩ := load_ok (w := w) (b := b) (o := 0) (fun j v hj => by
        rw [Nat.zero_add, cell_at h1]
        have hjl : j < vs.length := by
          have := (List.getElem?_eq_some_iff.1 hj).1
          simp at this; omega
        rw [List.getElem?_take, if_pos hjl] at hj
        simpa using hj) h4 hag hk h
      exact ⟨v, h, cv, hv, by rw [Nat.zero_add] at hr; simp only [Instr.loadAt, Instr.sureAddr, Sem.run_bind, Sem.run_pure, Result.andThen_ok, hr]⟩
    · exact h.elim
  · rename_i cs
    simp only [VR] at hx
    obtain ⟨b, o, vs, rfl, hat, hv⟩ := hx
    obtain ⟨v, h, cv, hv, hr⟩ := load_ok (At_cells hW.iced hat) hv hag hk h
    exact ⟨v, h, cv, hv, by rw [Nat.add_zero] at hr; simp only [Instr.loadAt, Instr.sureAddr, Sem.run_bind, Sem.run_pure, Result.andThen_ok, hr]⟩
  · exact h.elim

/-! stores -/
theorem all_one {l : List V} {m : List Value} (h : l.all oneV = true) (hv : VRs E l m) : ∀ x ∈ m, x.oneCell' = true := by
  intro x hx
  obtain ⟨i, hi⟩ := List.mem_iff_getElem?.1 hx
  have hlen := VRs_length _ _ hv
  have hil : i < l.length := by have := (List.getElem?_eq_some_iff.1 hi).1; omega
  obtain ⟨y, hy, hvy⟩ := VRs_get _ _ hv i l[i] (List.getElem?_eq_getElem hil)
  rw [hi] at hy; cases hy
  exact (cells1 (List.all_eq_true.1 h _ (List.getElem_mem hil)) hvy).2
theorem put_rel {vs c : List V} {l cv : List Value} {off : Nat} (h : VRs E vs l) (hc : VRs E c cv) : VRs E (putRange vs off c) (l.take off ++ cv ++ l.drop (off + cv.length)) := by
  rw [VRs_length _ _ hc]
  exact VRs_append (VRs_append (VRs_take _ h) hc) (VRs_drop _ h)
theorem stE_ok {x : V} {cx : Value} {cs : List V} {cvs : List Value} {K : Hp → Prop} (hW : WR E base w0 H w) (hx : VR E x cx) (hcs : VRs E cs cvs) (h : stE x cs H K) :
    ∃ J b off w', K J ∧ cx = .pointer (some ⟨b, off, none⟩) ∧ WR E base w0 J w' ∧ (storeCells ⟨b, off, none⟩ cvs).run P w = .ok () w' := by
  unfold stE at h
  split at h
  · rename_i n off
    simp only [VR] at hx
    obtain ⟨b, N, hG, rfl⟩ := hx
    have hlen := VRs_length _ _ hcs
    split at h
    · rename_i vs ty hn
      obtain ⟨hle, hone, h⟩ := h
      obtain ⟨hb, hlt, hF, arr, g1, g2, g3⟩ := hW.live n _ b N hn hG (by simp)
      have hl := VRs_length _ _ g2
      simp at hl
      have hr := run_storeCells_at P b off ty cvs 0 arr w g1 (by omega) (all_one hone hcs)
      simp only [Nat.add_zero] at hr
      refine ⟨_, b, off, _, h, rfl, ?_, hr⟩
      refine hW.put hn (by simp) hG hF (setRow_size _ _ _) rfl rfl rfl (fun k hk => setRow_other w b k _ hk) ?_
      refine ⟨hF, _, setRow_heap w b arr _ ty (0, 0) g1, by simpa using put_rel g2 hcs, ?_⟩
      simp
      omega
    · rename_i vs ty hn
      obtain ⟨hle, hone, h⟩ := h
      obtain ⟨hb, hlt, hF, arr, g1, g2, g3, g4⟩ := hW.live n _ b N hn hG (by simp)
      have hal : arr.toList.length = arr.size := by simp
      have hr := run_storeCells_at P b off ty cvs 0 arr w g1 (by omega) (all_one hone hcs)
      simp only [Nat.add_zero] at hr
      refine ⟨_, b, off, _, h, rfl, ?_, hr⟩
      refine hW.put hn (by simp) hG hF (setRow_size _ _ _) rfl rfl rfl (fun k hk => setRow_other w b k _ hk) ?_
      refine ⟨hF, _, setRow_heap w b arr _ ty (0, 0) g1, ?_, by rw [put_len _ _ _ hle]; exact g3, ?_⟩
      · simp; omega
      · rw [put_len _ _ _ hle]
        have h5 := put_rel (off := off) g4 hcs
        have e : (arr.toList.take off ++ cvs ++ arr.toList.drop (off + cvs.length)).take vs.length = (arr.toList.take vs.length).take off ++ cvs ++ (arr.toList.take vs.length).drop (off + cvs.length) := by
          rw [List.take_append, List.take_of_length_le (by simp; omega), List.take_take, Nat.min_eq_left (by omega), List.drop_take]
          congr 2
          simp
          omega
        simp only
        rw [e]; exact h5
    · exact h.elim
  · exact h.elim
end Go.Proofs.Ytmpheeanjjfddaa.SM
