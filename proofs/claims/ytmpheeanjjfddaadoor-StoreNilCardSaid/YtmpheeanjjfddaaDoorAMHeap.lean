/- The small machine's operations on its heap answer as the model's do (without append). -/
import Derived.Test.YtmpheeanjjfddaaDoorAMWorld
import Derived.Laws.MakeOwn
namespace Go.Proofs.YtmpheeanjjfddaaDoor.AM
open Go Go.RowKit
set_option linter.unusedVariables false
set_option linter.unusedSimpArgs false
variable {P : Program} {E : Env} {tm : Tm} {a : Act} {o : Oper} {v : AV} {base : Nat} {w0 w : World} {s : St}

/-- What an operation of the model comes to, beside that of the small machine. -/
def HeapOk (P : Program) (E : Env) (base : Nat) (w0 : World) (a : Act) (o : Oper) (s : St) (w : World) : R → Prop
  | .val v s' => ∃ E' cv w' nx, E.le E' ∧ VR E' v cv ∧ WR E' base w0 s'.H w' ∧ (execOp a.eval o).run P w = .ok nx w' ∧ (nx = .value cv ∨ (nx = .skip ∧ cv = undef))
  | .call f args s' => s' = s ∧ ∃ cargs : Array Value, VRs E args cargs.toList ∧ (execOp a.eval o).run P w = .ok (.enter f cargs) w
theorem St.alloc_ok {s s' : St} {o : AO} {n : Nat} (h : s.alloc o = some (n, s')) : hget s.H n = none ∧ s'.H = hset s.H n o ∧ n = s.nx := by
  unfold St.alloc at h
  split at h
  · rename_i hn; cases h; exact ⟨hn, rfl, rfl⟩
  · cases h
theorem Env.get_set (E : Env) (n b N : Nat) : (E.set n b N).G n = some (b, N) := by simp [Env.set]
theorem heap_new (w : World) (o : Obj) : (w.alloc o).heap[w.heap.size]? = some o := by show (w.heap.push o)[w.heap.size]? = some o; simp
theorem VR_undef : VR E (.tuple []) undef := by simp only [VR]; exact ⟨#[], rfl, VRs_nil⟩

theorem new_box (hW : WR E base w0 s.H w) {s' : St} {n : Nat} {v : AV} {cv : Value} {e : TypeId} (h : s.alloc (.box (cellsA v) e) = some (n, s')) (hv : VR E v cv) :
    ∃ E' w', E.le E' ∧ VR E' (.ptr n 0) (.pointer (some ⟨w.heap.size, 0, none⟩)) ∧ WR E' base w0 s'.H w' ∧ (newVar e cv).run P w = .ok ⟨w.heap.size, 0, none⟩ w' := by
  obtain ⟨hn, hH, _⟩ := St.alloc_ok h
  have hle : E.le (E.set n w.heap.size cv.cells.size) := Env.le_set (hW.dom n hn)
  refine ⟨E.set n w.heap.size cv.cells.size, w.alloc (.cells cv.cells e), hle, ?_, ?_, ?_⟩
  · simp only [VR]; exact ⟨_, _, Env.get_set _ _ _ _, rfl⟩
  · rw [hH]
    refine hW.alloc hn _ _ _ ?_
    exact ⟨cv.cells, heap_new _ _, VRs_mono hle _ _ (cells_ok hv), rfl⟩
  · simp [newVar, newRow]
theorem rep_len (z : List AV) : ∀ n, (rep z n).length = n * z.length
  | 0 => by simp [rep]
  | n + 1 => by simp [rep, rep_len z n, Nat.add_mul]; omega
theorem rep_made {z : List AV} {zc : Array Value} (hz : VRs E z zc.toList) : ∀ n, VRs E (rep z n) ((List.range (n * zc.size)).map fun i => zc[i % zc.size]!)
  | 0 => by simp [rep, VRs]
  | n + 1 => by
    have e : (n + 1) * zc.size = zc.size + n * zc.size := by rw [Nat.add_mul]; omega
    rw [e, List.range_add, List.map_append]
    refine VRs_append ?_ ?_
    · have : (List.range zc.size).map (fun i => zc[i % zc.size]!) = zc.toList := by
        apply List.ext_getElem
        · simp
        · intro i h1 h2
          simp at h1
          simp [Nat.mod_eq_of_lt h1, h1]
      rw [this]; exact hz
    · have ih := rep_made hz n
      have : (List.map (fun i => zc[i % zc.size]!) (List.map (fun x => zc.size + x) (List.range (n * zc.size)))) = (List.range (n * zc.size)).map fun i => zc[i % zc.size]! := by
        simp only [List.map_map]
        apply List.map_congr_left
        intro i hi
        simp [Nat.add_mod_left]
      rw [this]; exact ih
theorem new_row (hW : WR E base w0 s.H w) {s' : St} {n sz l : Nat} {cs : List AV} {e : TypeId} {arr : Array Value} (len cap : Nat) (h : s.alloc (.row cs e l) = some (n, s')) (hcs : cs.length ≤ arr.size) (hv : VRs E cs (arr.toList.take cs.length)) (hc : cap * sz ≤ arr.size) (hl : len ≤ cap) :
    ∃ E', E.le E' ∧ VR E' (.sl n 0 len sz) (.slice (some ⟨w.heap.size, 0, none⟩) len cap) ∧ WR E' base w0 s'.H (w.alloc (.cells arr e)) := by
  obtain ⟨hn, hH, _⟩ := St.alloc_ok h
  have hle : E.le (E.set n w.heap.size arr.size) := Env.le_set (hW.dom n hn)
  refine ⟨E.set n w.heap.size arr.size, hle, ?_, ?_⟩
  · simp only [VR]; exact ⟨_, _, cap, Env.get_set _ _ _ _, rfl, hl, by omega⟩
  · rw [hH]
    refine hW.alloc hn _ _ _ ?_
    exact ⟨arr, heap_new _ _, rfl, hcs, VRs_mono hle _ _ hv⟩

/-! maps -/
theorem ERs_append : ∀ {l : List (AV × AV × Nat)} {m : List MapEntry} {l' m'}, ERs E l m → ERs E l' m' → ERs E (l ++ l') (m ++ m')
  | [], m, l', m', h, k => by simp only [ERs] at h; subst h; simpa using k
  | (_, _, _) :: r, m, l', m', h, k => by
    obtain ⟨x, m1, rfl, h1, h2, h3, h4⟩ := h
    exact ⟨x, m1 ++ m', rfl, h1, h2, h3, ERs_append h4 k⟩
theorem ERs_len : ∀ (l : List (AV × AV × Nat)) (m : List MapEntry), ERs E l m → m.length = l.length
  | [], m, h => by simp only [ERs] at h; simp [h]
  | (_, _, _) :: r, m, h => by obtain ⟨x, m1, rfl, _, _, _, h4⟩ := h; simp [ERs_len r m1 h4]
theorem keyEq_ok {k k' : AV} {ck ck' : Value} {d : TypeDesc} {b : Bool} (h : keyEq k k' = some b) (hk : VR E k ck) (hk' : VR E k' ck')
    (hd : (d = .string ∧ ((∃ x, k = .str x) ∨ ∃ i, k = .sym i)) ∨ (∃ q, d = .int q ∧ ∃ j n, k = .int j n) ∨ (d = .bool ∧ ∃ x, k = .bool x)) :
    Instr.sameNow d ck ck' = some b ∧ (b = true → k' = k ∧ Instr.sameBits 10000 ck' ck = true) := by
  unfold keyEq at h
  split at h
  · rename_i x y
    cases h
    simp only [VR] at hk hk'
    obtain ⟨rfl, hx⟩ := hk
    obtain ⟨rfl, hy⟩ := hk'
    rcases hd with ⟨rfl, _⟩ | ⟨q, rfl, j, n, he⟩ | ⟨rfl, z, he⟩
    · refine ⟨by simp only [Instr.sameNow, BS_beq _ _ hx hy], fun hb => ?_⟩
      have := (natsEq_iff x y).1 hb
      subst this
      exact ⟨rfl, by simp only [Instr.sameBits, ba_beq]⟩
    · cases he
    · cases he
  · rename_i x y
    split at h
    · rename_i hxy
      cases h
      simp only [Nat.beq_eq] at hxy
      subst hxy
      simp only [VR] at hk hk'
      subst hk hk'
      rcases hd with ⟨rfl, _⟩ | ⟨q, rfl, j, n, he⟩ | ⟨rfl, z, he⟩
      · exact ⟨by simp only [Instr.sameNow, ba_beq], fun _ => ⟨rfl, by simp only [Instr.sameBits, ba_beq]⟩⟩
      · cases he
      · cases he
    · cases h
  · rename_i q x q' y
    split at h
    · rename_i hq
      cases h
      subst hq
      simp only [VR] at hk hk'
      subst hk hk'
      rcases hd with ⟨rfl, ⟨x, he⟩ | ⟨x, he⟩⟩ | ⟨q', rfl, j, n, he⟩ | ⟨rfl, z, he⟩
      · cases he
      · cases he
      · refine ⟨by simp [Instr.sameNow, intEq_eq], fun hb => ?_⟩
        rw [intEq_eq] at hb
        have : x = y := by simpa using hb
        subst this
        exact ⟨rfl, by simp [Instr.sameBits]⟩
      · cases he
    · cases h
  · rename_i x y
    cases h
    simp only [VR] at hk hk'
    subst hk hk'
    rcases hd with ⟨rfl, ⟨x, he⟩ | ⟨x, he⟩⟩ | ⟨q', rfl, j, n, he⟩ | ⟨rfl, z, he⟩
    · cases he
    · cases he
    · cases he
    · refine ⟨by simp [Instr.sameNow], fun hb => ?_⟩
      have : x = y := by simpa using hb
      subst this
      exact ⟨rfl, by simp [Instr.sameBits]⟩
  · cases h
def FD (d : TypeDesc) (k : AV) : Prop := (d = .string ∧ ((∃ x, k = .str x) ∨ ∃ i, k = .sym i)) ∨ (∃ q, d = .int q ∧ ∃ j n, k = .int j n) ∨ (d = .bool ∧ ∃ x, k = .bool x)
theorem fits_ok {t : TypeId} {k : AV} (h : keyFits P t k = true) : ∃ d, P.underlying t = some d ∧ FD d k := by
  unfold keyFits at h
  split at h
  · rename_i hu; exact ⟨_, hu, .inl ⟨rfl, .inl ⟨_, rfl⟩⟩⟩
  · rename_i hu; exact ⟨_, hu, .inl ⟨rfl, .inr ⟨_, rfl⟩⟩⟩
  · rename_i hu; exact ⟨_, hu, .inr (.inl ⟨_, rfl, _, _, rfl⟩)⟩
  · rename_i hu; exact ⟨_, hu, .inr (.inr ⟨rfl, _, rfl⟩)⟩
  · cases h
theorem findA_ok {k : AV} {ck : Value} {d : TypeDesc} (hk : VR E k ck) (hd : FD d k) : ∀ (es : List (AV × AV × Nat)) (ces : List MapEntry) (i : Nat) (r : Option (Nat × AV × Nat)), ERs E es ces → findA k es i = some r →
    match r with
    | none => Instr.findNow d ck ces i = some none
    | some (j, v, born) => ∃ e, i ≤ j ∧ ces[j - i]? = some e ∧ es[j - i]? = some (k, v, born) ∧ Instr.findNow d ck ces i = some (some (j, e.val)) ∧ VR E v e.val ∧ VR E k e.key ∧ e.born = born ∧ Instr.sameBits 10000 e.key ck = true
  | [], ces, i, r, he, h => by
    simp only [ERs] at he; subst he
    simp only [findA, Option.some.injEq] at h; subst h
    rfl
  | (key, v, born) :: es, ces, i, r, he, h => by
    obtain ⟨x, m, rfl, h1, h2, h3, h4⟩ := he
    simp only [findA] at h
    split at h
    · rename_i hq
      cases h
      obtain ⟨hs, ht⟩ := keyEq_ok hq hk h1 hd
      obtain ⟨rfl, hb⟩ := ht rfl
      exact ⟨x, Nat.le_refl _, by simp, by simp, by simp [Instr.findNow, hs], h2, h1, h3, hb⟩
    · rename_i hq
      obtain ⟨hs, _⟩ := keyEq_ok hq hk h1 hd
      have ih := findA_ok hk hd es m (i + 1) r h4 h
      cases r with
      | none => simp only [Instr.findNow, hs]; exact ih
      | some r =>
        obtain ⟨j, v', born'⟩ := r
        obtain ⟨e, hij, hc, hes, hf, hrest⟩ := ih
        refine ⟨e, by omega, ?_, ?_, by simp only [Instr.findNow, hs]; exact hf, hrest⟩
        · rw [show j - i = (j - (i + 1)) + 1 by omega]; simpa using hc
        · rw [show j - i = (j - (i + 1)) + 1 by omega]; simpa using hes
    · cases h
theorem setVal_ok {v : AV} {cv : Value} (hv : VR E v cv) : ∀ (es : List (AV × AV × Nat)) (ces : List MapEntry) (i : Nat) (k : AV) (x : AV) (b : Nat) (key : Value), ERs E es ces → es[i]? = some (k, x, b) → VR E k key →
    ERs E (setVal es i v) (ces.modify i fun e => { e with key := key, val := cv })
  | [], ces, i, k, x, b, key, he, hi, hk => by simp at hi
  | (k', x', b') :: es, ces, 0, k, x, b, key, he, hi, hk => by
    obtain ⟨y, m, rfl, h1, h2, h3, h4⟩ := he
    simp at hi
    obtain ⟨rfl, rfl, rfl⟩ := hi
    exact ⟨_, m, rfl, hk, hv, h3, h4⟩
  | (k', x', b') :: es, ces, i + 1, k, x, b, key, he, hi, hk => by
    obtain ⟨y, m, rfl, h1, h2, h3, h4⟩ := he
    exact ⟨y, _, rfl, h1, h2, h3, setVal_ok hv es m i k x b key h4 (by simpa using hi) hk⟩
theorem keyOnly_ok : ∀ (es : List (AV × AV × Nat)) (ces : List MapEntry) (i : Nat) (k : AV) (x : AV) (b : Nat) (key : Value), ERs E es ces → es[i]? = some (k, x, b) → VR E k key →
    ERs E es (ces.modify i fun e => { e with key := key })
  | [], ces, i, k, x, b, key, he, hi, hk => by simp at hi
  | (k', x', b') :: es, ces, 0, k, x, b, key, he, hi, hk => by
    obtain ⟨y, m, rfl, h1, h2, h3, h4⟩ := he
    simp at hi
    obtain ⟨rfl, rfl, rfl⟩ := hi
    exact ⟨_, m, rfl, hk, h2, h3, h4⟩
  | (k', x', b') :: es, ces, i + 1, k, x, b, key, he, hi, hk => by
    obtain ⟨y, m, rfl, h1, h2, h3, h4⟩ := he
    exact ⟨y, _, rfl, h1, h2, h3, keyOnly_ok es m i k x b key h4 (by simpa using hi) hk⟩
theorem valOnly_ok {v : AV} {cv : Value} (hv : VR E v cv) : ∀ (es : List (AV × AV × Nat)) (ces : List MapEntry) (i : Nat), ERs E es ces →
    ERs E (setVal es i v) (ces.modify i fun e => { e with val := cv })
  | [], ces, i, he => by simp only [ERs] at he; subst he; cases i <;> simp [setVal, ERs]
  | (k', x', b') :: es, ces, 0, he => by
    obtain ⟨y, m, rfl, h1, h2, h3, h4⟩ := he
    exact ⟨_, m, rfl, h1, hv, h3, h4⟩
  | (k', x', b') :: es, ces, i + 1, he => by
    obtain ⟨y, m, rfl, h1, h2, h3, h4⟩ := he
    exact ⟨y, _, rfl, h1, h2, h3, valOnly_ok hv es m i h4⟩
theorem findBorn_ok {born : Nat} : ∀ (es : List (AV × AV × Nat)) (ces : List MapEntry) (i j : Nat), ERs E es ces → findBorn es born i = some j → i ≤ j ∧ ces.findIdx? (fun e => (e.born : Int) == (born : Int)) = some (j - i)
  | [], ces, i, j, he, h => by simp [findBorn] at h
  | (k, v, b) :: es, ces, i, j, he, h => by
    obtain ⟨x, m, rfl, h1, h2, h3, h4⟩ := he
    simp only [findBorn] at h
    split at h
    · rename_i hb
      cases h
      simp only [Nat.beq_eq] at hb
      refine ⟨Nat.le_refl _, ?_⟩
      simp [List.findIdx?_cons, h3, hb]
    · rename_i hb
      simp only [Nat.beq_eq] at hb
      obtain ⟨hij, hf⟩ := findBorn_ok es m (i + 1) j h4 h
      refine ⟨by omega, ?_⟩
      have hne : ((x.born : Int) == (born : Int)) = false := by simp [h3]; omega
      rw [List.findIdx?_cons, hne]
      simp only [Bool.false_eq_true, if_false, hf, Option.map_some, Option.some.injEq]
      omega
/-- A map's block is written. -/
theorem map_write (hW : WR E base w0 s.H w) {n b N : Nat} {es es2 : List (AV × AV × Nat)} {c c2 : Nat} (hn : hget s.H n = some (.map es c)) (hG : E.G n = some (b, N)) {ces2 : Array MapEntry} (h2 : ERs E es2 ces2.toList) :
    WR E base w0 (hset s.H n (.map es2 c2)) { w with heap := w.heap.setIfInBounds b (.map ces2 c2) } := by
  obtain ⟨hb, hlt, _⟩ := hW.live n _ b N hn hG
  refine hW.write (b := b) hb (by simp) rfl rfl rfl (fun k hk => by simp [Array.getElem?_setIfInBounds_ne (Ne.symm hk)]) ?_ ?_ ?_ ?_
  · intro m hm
    rw [hget_hset] at hm
    split at hm
    · cases hm
    · exact hm
  · intro m o' hm
    rw [hget_hset] at hm
    split at hm
    · rename_i he
      subst he; cases hm
      exact ⟨_, hn, .inr (.inr ⟨rfl, by simp⟩)⟩
    · exact ⟨o', hm, .inr (.inl rfl)⟩
  · intro m o' M hm hGm
    rw [hget_hset] at hm
    split at hm
    · rename_i he
      subst he; cases hm
      exact ⟨ces2, by simp [hlt], h2⟩
    · rename_i he
      rcases hW.kin m n o' _ b M N hm hn he hGm hG with rfl | h | ⟨l, _, h⟩
      · trivial
      · cases h
      · cases h
  · intro m o' c' M hm hGm hc
    rw [hget_hset] at hm
    split at hm
    · rename_i he
      subst he
      rw [hG] at hGm; cases hGm
      exact absurd rfl hc
    · exact ⟨o', hm, .inl rfl⟩
theorem map_at (hW : WR E base w0 s.H w) {n b N : Nat} {es : List (AV × AV × Nat)} {c : Nat} (hn : hget s.H n = some (.map es c)) (hG : E.G n = some (b, N)) : ∃ ces : Array MapEntry, w.heap[b]? = some (.map ces c) ∧ ERs E es ces.toList := by
  obtain ⟨_, _, h⟩ := hW.live n _ b N hn hG
  exact h
theorem checkKey_ok' (n : Nat) {t : TypeId} {k : AV} {ck : Value} {d : TypeDesc} (hu : P.underlying t = some d) (hd : FD d k) (hk : VR E k ck) (em : Bool) (w : World) : (Instr.checkKey em (n + 1) t ck).run P w = .ok () w := by
  rcases hd with ⟨rfl, ⟨x, rfl⟩ | ⟨x, rfl⟩⟩ | ⟨q, rfl, j, n, rfl⟩ | ⟨rfl, x, rfl⟩ <;> simp only [VR] at hk
  · obtain ⟨rfl, _⟩ := hk; simp only [Instr.checkKey, Sem.run_bind, run_underlying hu, Result.andThen_ok, Sem.run_pure]
  · subst hk; simp only [Instr.checkKey, Sem.run_bind, run_underlying hu, Result.andThen_ok, Sem.run_pure]
  · subst hk; simp only [Instr.checkKey, Sem.run_bind, run_underlying hu, Result.andThen_ok, Sem.run_pure]
  · subst hk; simp only [Instr.checkKey, Sem.run_bind, run_underlying hu, Result.andThen_ok, Sem.run_pure]
theorem checkKey_ok {t : TypeId} {k : AV} {ck : Value} {d : TypeDesc} (hu : P.underlying t = some d) (hd : FD d k) (hk : VR E k ck) (em : Bool) (w : World) : (Instr.checkKey em 10000 t ck).run P w = .ok () w := checkKey_ok' 9999 hu hd hk em w
theorem findKey_run {t : TypeId} {d : TypeDesc} (hu : P.underlying t = some d) {ck : Value} {ces : List MapEntry} {r : Option (Nat × Value)} (h : Instr.findNow d ck ces 0 = some r) (w : World) : (Instr.findKey t ck ces).run P w = .ok r w := by
  simp only [Instr.findKey, Sem.run_bind, run_underlying hu, Result.andThen_ok, h, Sem.run_pure]
end Go.Proofs.YtmpheeanjjfddaaDoor.AM
