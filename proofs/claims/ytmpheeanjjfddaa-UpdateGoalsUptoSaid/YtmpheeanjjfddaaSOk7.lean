/- All operations answer so. -/
import Derived.Test.YtmpheeanjjfddaaSOk6
namespace Go.Proofs.Ytmpheeanjjfddaa.SM
open Go Go.RowKit
set_option linter.unusedVariables false
set_option linter.unusedSimpArgs false
variable {X : Cx} {P : Program} {E : Env} {tm : Tm} {a : Act} {o : Oper} {v : V} {base : Nat} {w0 w : World} {H : Hp}

theorem upE_del {argTypes : Array TypeId} {type : TypeId} {t kt et : TypeId} {m : V} {cm : Value} {k : List UInt8} {K : Hp → Prop} (ht : argTypes[0]? = some t) (hu : P.underlying t = some (.map kt et)) (hk : P.underlying kt = some .string) (hW : WR E base w0 H w) (hm : VR E m cm) (h : dlE m H k K) :
    ∃ J w', K J ∧ WR E base w0 J w' ∧ (Builtin.delete_ argTypes type #[cm, .string (B k)]).run P w = .ok (.tuple #[]) w' := by
  unfold dlE at h
  split at h
  · rename_i n
    split at h
    · rename_i es hn
      simp only [VR] at hm
      obtain ⟨b, N, hG, rfl⟩ := hm
      obtain ⟨hF, ces, c, hb, hr, ⟨m', hp, he⟩, hnd, hlt, hst⟩ := map_at hW hn hG
      obtain ⟨hbb, hbl, _⟩ := hW.live n _ b N hn hG (by simp)
      obtain ⟨m0, hm0, hm0e⟩ := ERs_del k es m' he
      have hm0p : m0.Perm (ces.toList.filter (notK k)) := by rw [hm0e]; exact hp.filter _
      have put : ∀ (ces2 : Array MapEntry), ces2.toList = ces.toList.filter (notK k) → WR E base w0 (H.set n (.map false (delK k es))) { w with heap := w.heap.setIfInBounds b (.map ces2 c) } := by
        intro ces2 h2
        refine hW.put hn (by simp) hG hF (by simp) rfl rfl rfl (fun q hq => by simp [Array.getElem?_setIfInBounds_ne (Ne.symm hq)]) ?_
        refine ⟨hF, ces2, c, by simp [hbl], rise_del k hr, ⟨m0, by rw [h2]; exact hm0p, hm0⟩, ?_, ?_, ?_⟩
        · rw [h2]; exact hnd.sublist (List.filter_sublist.map _)
        · rw [h2]; intro x hx; exact hlt x (List.mem_filter.1 hx).1
        · intro q s hs; exact absurd (hst q s hs).1 (by simp)
      have ha0 : argTypes[0]? = some t := ht
      rcases look_ok (k := k) hr hp he with ⟨hg, hno, hf⟩ | ⟨u, x, j, hg, hmem, hx, hxk, hxv, hj, hf⟩
      · have hall : ces.toList.filter (notK k) = ces.toList := by
          rw [List.filter_eq_self]
          intro x hx
          obtain ⟨e, hee, hke, _⟩ := ERs_key es m' he x (hp.mem_iff.2 hx)
          simp [notK, hke, B_beq, hno e hee]
        refine ⟨_, _, h, put ces hall.symm, ?_⟩
        simp [Builtin.delete_, ha0, run_underlying hu, run_getObj hb, check_str hk, findKey_run hk (hf 0), run_setObj hb]
      · have hf0 := hf 0
        rw [Nat.zero_add] at hf0
        have hjl := (List.getElem?_eq_some_iff.1 hj).1
        have hjx := (List.getElem?_eq_some_iff.1 hj).2
        have hl : ces.toList = ces.toList.take j ++ x :: ces.toList.drop (j + 1) := by
          rw [← hjx, ← List.drop_eq_getElem_cons hjl, List.take_append_drop]
        have hother : ∀ y ∈ ces.toList.take j ++ ces.toList.drop (j + 1), notK k y = true := by
          have hnk : (ces.toList.map (·.key)).Nodup := (hp.map (·.key)).nodup_iff.1 (by rw [ERs_keys es m' he]; exact keys_nodup hr)
          rw [hl, List.map_append, List.map_cons] at hnk
          intro y hy
          have hys : y ∈ ces.toList := by
            rw [hl]; rcases List.mem_append.1 hy with h | h
            · exact List.mem_append_left _ h
            · exact List.mem_append_right _ (List.mem_cons_of_mem _ h)
          obtain ⟨e, hee, hke, _⟩ := ERs_key es m' he y (hp.mem_iff.2 hys)
          simp only [notK, hke, B_beq, Bool.not_eq_true', decide_eq_false_iff_not]
          intro hek
          have hkk : y.key = x.key := by rw [hke, hxk, hek]
          have h1 := List.nodup_append.1 hnk
          have h2 := List.nodup_cons.1 h1.2.1
          rcases List.mem_append.1 hy with h | h
          · exact h1.2.2 y.key (List.mem_map.2 ⟨y, h, rfl⟩) x.key (by simp) hkk
          · exact h2.1 (List.mem_map.2 ⟨y, h, hkk⟩)
        have hfil : ces.toList.filter (notK k) = ces.toList.take j ++ ces.toList.drop (j + 1) := by
          have hxn : notK k x = false := by simp [notK, hxk, B_beq]
          conv => lhs; rw [hl]
          rw [List.filter_append, List.filter_cons, hxn]
          simp only [Bool.false_eq_true, if_false]
          rw [← List.filter_append, List.filter_eq_self.2 hother]
        refine ⟨_, _, h, put (ces.eraseIdxIfInBounds j) ?_, ?_⟩
        · rw [hfil, Array.toList_eraseIdxIfInBounds, List.eraseIdx_eq_take_drop_succ]
        · simp [Builtin.delete_, ha0, run_underlying hu, run_getObj hb, check_str hk, findKey_run hk hf0, run_setObj hb]
    · exact h.elim
  · exact h.elim

theorem WR.noise (h : WR E base w0 H w) (obj : Obj) : WR E base w0 H (w.alloc obj) :=
  ⟨below_of h.below rfl rfl rfl (by rw [alloc_size]; omega) (fun k hk => alloc_heap w obj k (by have := h.big; omega)), by rw [alloc_size]; have := h.big; omega,
    fun n o b N hn hG hd => by obtain ⟨h1, h2, h3⟩ := h.live n o b N hn hG hd; exact ⟨h1, by rw [alloc_size]; omega, OR_step (Env.le_refl E) rfl (alloc_heap w obj b h2) h3⟩, h.dom, h.apart,
    fun b fs hb => by obtain ⟨h1, h2⟩ := h.iced b fs hb; exact ⟨by rw [alloc_size]; omega, fun j v hj => by rw [cell_same (alloc_heap w obj b h1)]; exact h2 j v hj⟩, fun c q hc => h.old c q (by rw [alloc_size] at hc; omega), h.fin⟩
/-- What the model's operation comes to is what was asked for. -/
def Out (X : Cx) (E : Env) (K : V → Hp → Prop) (Xp : V → Hp → Prop) : Result Next → Prop
  | .ok (.value cv) w' => ∃ v J D, K v J ∧ E.le D ∧ VR D v cv ∧ WR D X.base X.w0 J w'
  | .ok .skip w' => ∃ v J D, K v J ∧ E.le D ∧ VR D v undef ∧ WR D X.base X.w0 J w'
  | .ok (.enter f cargs) w' => Calls X.P f cargs w' fun e w'' => ∃ r J D, (match r with | .ret v => K v J | .pan v => Xp v J) ∧ E.le D ∧ WR D X.base X.w0 J w'' ∧ RsR D r e
  | .halt (.panic cv) w' => ∃ v J D, Xp v J ∧ E.le D ∧ VR D v cv ∧ WR D X.base X.w0 J w'
  | _ => False
theorem callFunc_ok {f : FuncId} {cargs : Array Value} (h : hasBody P f = true) : (callFunc f cargs).run P w = .ok (.enter f cargs) w := by
  unfold hasBody at h
  split at h
  · rename_i fn hf
    simp only [Bool.and_eq_true, Bool.not_eq_true'] at h
    have hb : fn.body.isNone = false := by
      cases hb : fn.body <;> simp [hb] at h ⊢
    simp only [callFunc, Sem.run_bind, run_program, Result.andThen_ok, hf, h.2, Bool.false_eq_true, if_false, hb, Sem.run_pure]
  · cases h
theorem callE_ok {f : FuncId} {args : List V} {cargs : Array Value} {K Xp : V → Hp → Prop} (hW : WR E X.base X.w0 H w) (ha : VRs E args cargs.toList) (h : callE X f args H K Xp) : Out X E K Xp ((callFunc f cargs).run X.P w) := by
  unfold callE at h
  split at h
  · rename_i hb
    rw [callFunc_ok hb]
    refine (h E w cargs hW ha).mono ?_
    rintro e w' ⟨r, J, D, hq, rest⟩
    exact ⟨r, J, D, by cases r <;> exact hq, rest⟩
  · exact h.elim
theorem methodA_ok {t : TypeId} {cv : Value} {name : String} {f : FuncId} (h : methodA P t name = some f) (n : Nat) : (method (n + 1) t cv name).run P w = .ok (f, cv) w := by
  unfold methodA at h
  split at h
  · rename_i i hi
    split at h
    · rename_i m hm
      split at h
      · rename_i hp
        have hpath : m.path.toList = [] := by
          have : m.path = #[] := by simpa using hp
          simp [this]
        split at h
        · rename_i g e hmf hu
          cases h
          simp only [method, typeInfo, Sem.run_bind, run_program, Result.andThen_ok, hi, Sem.run_pure, hm, hpath, follow, hmf, receiverAt, run_underlying hu, Place.get]
        · cases h
        · rename_i g d hd hmf hu
          cases h
          simp only [method, typeInfo, Sem.run_bind, run_program, Result.andThen_ok, hi, Sem.run_pure, hm, hpath, follow, hmf, receiverAt, run_underlying hu]
          first
            | (simp [Place.get]; done)
            | (split <;> simp_all [Place.get])
        · cases h
      · cases h
    · cases h
  · cases h
theorem Out.mono {K L Xp Xq : V → Hp → Prop} {r : Result Next} (h : Out X E K Xp r) (hk : ∀ v J, K v J → L v J) (hx : ∀ v J, Xp v J → Xq v J) : Out X E L Xq r := by
  cases r with
  | ok n w' =>
    cases n <;> simp only [Out] at h ⊢ <;> try exact h
    · obtain ⟨v, J, D, h, r⟩ := h; exact ⟨v, J, D, hk v J h, r⟩
    · obtain ⟨v, J, D, h, r⟩ := h; exact ⟨v, J, D, hk v J h, r⟩
    · refine h.mono ?_
      rintro e w'' ⟨r, J, D, h, rest⟩
      refine ⟨r, J, D, ?_, rest⟩
      cases r with
      | ret v => exact hk v J h
      | pan v => exact hx v J h
  | halt x w' =>
    cases x <;> simp only [Out] at h ⊢ <;> try exact h
    obtain ⟨v, J, D, h, r⟩ := h; exact ⟨v, J, D, hx v J h, r⟩
theorem Out.val {K Xp : V → Hp → Prop} {v : V} {J : Hp} {D : Env} {cv : Value} {w' : World} (h : K v J) (hle : E.le D) (hv : VR D v cv) (hW : WR D X.base X.w0 J w') : Out X E K Xp (.ok (.value cv) w') := ⟨v, J, D, h, hle, hv, hW⟩
set_option maxHeartbeats 1000000 in
theorem heapE_ok {K Xp : V → Hp → Prop} (htm : TR E tm a) (hW : WR E X.base X.w0 H w) (h : heapE X tm o H K Xp) : Out X E K Xp ((execOp a.eval o).run X.P w) := by
  obtain ⟨dst, op, type, pos, after, guard⟩ := o
  cases op
  case alloc e =>
    simp only [heapE, optP_iff] at h
    obtain ⟨z, hz, h⟩ := h
    obtain ⟨cz, hvz, rfl, hrz⟩ := run_zero (E := E) hz
    obtain ⟨n, J, D, w', h, hle, hv, hWD, hr⟩ := new_box (P := X.P) hW h cellsA_z
    have : (execOp a.eval ⟨dst, .alloc e, type, pos, after, guard⟩).run X.P w = .ok (.value (.pointer (some ⟨w.heap.size, 0, none⟩))) w' := by
      simp only [execOp, Instr.alloc, Sem.run_bind, hrz, Result.andThen_ok, hr, Sem.run_pure]
    rw [this]
    exact Out.val h hle hv hWD
  case box e x =>
    simp only [heapE] at h
    obtain ⟨n, cs, hn, h, hcs, _, _⟩ := cellsT_ok h (ev_ok htm x)
    obtain ⟨n, J, D, w', h, hle, hv, hWD, hr⟩ := new_box (P := X.P) hW h hcs
    have : (execOp a.eval ⟨dst, .box e x, type, pos, after, guard⟩).run X.P w = .ok (.value (.pointer (some ⟨w.heap.size, 0, none⟩))) w' := by
      simp only [execOp, Instr.box, Sem.run_bind, Result.andThen_ok, hr, Sem.run_pure]
    rw [this]
    exact Out.val h hle hv hWD
  case buildSlice t len parts =>
    simp only [heapE] at h
    split at h
    · rename_i e hu
      simp only [optP_iff] at h
      obtain ⟨sz, hsz, z, hz, agg, hag, h⟩ := h
      split at h
      · rename_i c1 c2 c3 c4
        have c1 := Nat.le_of_ble_eq_true c1
        have c2 := Nat.eq_of_beq_eq_true c2
        have c3 : 0 < sz := Nat.le_of_ble_eq_true c3
        obtain ⟨cz, hvz, rfl, hrz⟩ := run_zero (E := E) hz
        have hzc := cellsA_z (E := E) (cz := cz)
        have hzs : cz.cells.size = sz := by
          have := VRs_length _ _ hzc
          simp at this; omega
        have hrep := rep_made hzc len
        rw [hzs] at hrep
        obtain ⟨out, h, hol, out', ho', hr'⟩ := fillE_ok (P := X.P) _ (fun i => some (i * sz, sz)) (by
          intro i p n hp hn
          cases hp
          rw [hsz] at hn; cases hn; rfl) _ (parts.map fun p => (p.1, a.eval p.2)).toList _ (((List.range (len * sz)).map fun i => cz.cells[i % sz]!).toArray) (by simpa using parts_ok htm parts.toList) (by simpa using hrep) h
        have hol2 := VRs_length _ _ hr'
        have hosz : out'.size = len * sz := by
          simp only [rep_len] at hol
          simp at hol2
          rw [hol2, hol, c2]
        have h24 : ¬ (len * sz > 2 ^ 24) := by omega
        have hrun : (execOp a.eval ⟨dst, .buildSlice t len parts, type, pos, after, guard⟩).run X.P w = .ok (.value (.slice (some ⟨w.heap.size, 0, none⟩) len len)) (w.alloc (.cells out' e)) := by
          simp only [execOp, Instr.buildSlice, Sem.run_bind, run_underlying hu, Result.andThen_ok, run_sizeOf hsz, if_neg h24, Sem.run_pure]
          by_cases h0 : len * sz = 0
          · have hr0 : ∀ f : Nat → Value, Array.map f (Array.range (len * sz)) = ((List.range (len * sz)).map fun i => cz.cells[i % sz]!).toArray := by intro f; rw [h0]; apply Array.ext'; simp
            simp only [if_pos h0, Sem.run_pure, Result.andThen_ok, hr0, ho']
            simp only [Sem.run_bind, newRow, run_newObj_alloc, Result.andThen_ok, Sem.run_pure]
          · have hr0 : Array.map (fun i => cz.cells[i % cz.cells.size]!) (Array.range (len * sz)) = ((List.range (len * sz)).map fun i => cz.cells[i % sz]!).toArray := by apply Array.ext'; simp [hzs]
            simp only [if_neg h0, Sem.run_bind, hrz, Sem.run_pure, Result.andThen_ok, hr0, ho']
            simp only [Sem.run_bind, newRow, run_newObj_alloc, Result.andThen_ok, Sem.run_pure]
        rw [hrun]
        obtain ⟨h1, h⟩ := onesE_ok h
        cases len with
        | zero =>
          simp only at h
          exact Out.val h (Env.le_refl E) (by simp only [VR]; exact ⟨_, rfl⟩) (hW.noise _)
        | succ len =>
          simp only at h
          obtain ⟨vals, g1, g2, g3, g4⟩ := groups_ok (agg := agg) c3 (fun ha => by rw [ha] at c4; simpa using c4) (len + 1) out out'.toList hr' (by rw [hol, rep_len, c2]) (all_one h1 hr')
          obtain ⟨v, J, D, h, hle, hv, hWD⟩ := new_row (arr := out') (cap := len + 1) hW g2 h g1 g4 (by rw [g3, List.take_of_length_le (by simp; omega)]) (Nat.le_refl _) (by omega)
          exact Out.val h hle hv hWD
      · exact h.elim
    · exact h.elim
  case load t x =>
    simp only [heapE] at h
    obtain ⟨v, h, cv, hv, hr⟩ := ldT_ok (P := X.P) hW (ev_ok htm x) h
    have : (execOp a.eval ⟨dst, .load t x, type, pos, after, guard⟩).run X.P w = .ok (.value cv) w := by
      simp only [execOp, Sem.run_bind, hr, Result.andThen_ok, Sem.run_pure]
    rw [this]
    exact Out.val (openE_ok (K := fun v => K v H) h) (Env.le_refl E) hv hW
  case store t x y =>
    simp only [heapE] at h
    obtain ⟨n, cs, hn, h, hcs, _, hsz⟩ := cellsT_ok h (ev_ok htm y)
    obtain ⟨J, b, off, w', h, he, hWD, hr⟩ := stE_ok (P := X.P) hW (ev_ok htm x) hcs h
    have : (execOp a.eval ⟨dst, .store t x y, type, pos, after, guard⟩).run X.P w = .ok .skip w' := by
      have hne : ¬ (a.eval y).cells.size ≠ n := by omega
      simp only [execOp, Instr.storeAt, he, Instr.sureAddr, Sem.run_bind, Sem.run_pure, Result.andThen_ok, storeVar, run_sizeOf hn, if_neg hne, hr]
    rw [this]
    exact ⟨_, J, E, h, Env.le_refl E, VR_undef, hWD⟩
  case makeMap t x =>
    have hmk : newE H (.map false []) (fun n J => K (.map n) J) → (Instr.makeMap t (x.map a.eval)).run X.P w = .ok (.map (some w.heap.size)) (w.alloc (.map #[] 0)) → Out X E K Xp ((execOp a.eval ⟨dst, .makeMap t x, type, pos, after, guard⟩).run X.P w) := by
      intro h hr
      obtain ⟨n, hn, h⟩ := newE_ok hW h
      obtain ⟨hle, hG, hWD⟩ := hW.new hn (.map #[] 0) (.map false []) 0 none ⟨by simp [Env.new], #[], 0, heap_new _ _, List.Pairwise.nil, ⟨[], List.Perm.refl _, rfl⟩, by simp, by simp, fun q s hs => by rw [show (E.new n w.heap.size 0 none).S w.heap.size q = E.S w.heap.size q from rfl, hW.old _ _ (Nat.le_refl _)] at hs; cases hs⟩ (fun fs h => by cases h)
      have : (execOp a.eval ⟨dst, .makeMap t x, type, pos, after, guard⟩).run X.P w = .ok (.value (.map (some w.heap.size))) (w.alloc (.map #[] 0)) := by
        simp only [execOp, Sem.run_bind, hr, Result.andThen_ok, Sem.run_pure]
      rw [this]
      exact Out.val h hle (by simp only [VR]; exact ⟨_, _, hG, rfl⟩) hWD
    simp only [heapE] at h
    split at h
    · rename_i k e hu
      cases x with
      | none => exact hmk h (by simp [Instr.makeMap])
      | some x =>
        simp only at h
        obtain ⟨kd, n, he, _, h⟩ := intE_ok h (ev_ok htm x)
        exact hmk h (by simp [Instr.makeMap, run_underlying hu, he, asInt, asIntOf])
    · exact h.elim
  case lookup t m k ok =>
    simp only [heapE] at h
    split at h
    · rename_i kt et hu
      split at h
      · rename_i hk
        obtain ⟨key, he, _, h⟩ := strE_ok h (ev_ok htm k)
        obtain ⟨z, hz, h⟩ := (optP_iff _ _).1 h
        obtain ⟨cz, hvz, _, hrz⟩ := run_zero (E := E) hz
        obtain ⟨v, r, h, cv, hv, h1, h2⟩ := lkE_ok (P := X.P) hu hk hvz hrz hW (ev_ok htm m) h
        have h := openE_ok h
        cases ok with
        | true =>
          have : (execOp a.eval ⟨dst, .lookup t m k true, type, pos, after, guard⟩).run X.P w = .ok (.value (.tuple #[cv, .bool r])) w := by
            simp only [execOp, he, Sem.run_bind, h1, Result.andThen_ok, Sem.run_pure]
          rw [this]
          exact Out.val h (Env.le_refl E) (by simp only [VR]; exact ⟨_, rfl, VRs_cons hv (VRs_cons VRb VRs_nil)⟩) hW
        | false =>
          have : (execOp a.eval ⟨dst, .lookup t m k false, type, pos, after, guard⟩).run X.P w = .ok (.value cv) w := by
            simp only [execOp, he, Sem.run_bind, h2, Result.andThen_ok, Sem.run_pure]
          rw [this]
          exact Out.val h (Env.le_refl E) hv hW
      · exact h.elim
    · exact h.elim
  case mapUpdate t m k x =>
    simp only [heapE] at h
    split at h
    · rename_i kt et hu
      split at h
      · rename_i hk
        obtain ⟨key, he, _, h⟩ := strE_ok h (ev_ok htm k)
        obtain ⟨J, w', h, hWD, hr⟩ := upE_put (P := X.P) hu hk hW (ev_ok htm m) (ev_ok htm x) h
        have : (execOp a.eval ⟨dst, .mapUpdate t m k x, type, pos, after, guard⟩).run X.P w = .ok .skip w' := by
          simp only [execOp, he, Sem.run_bind, hr, Result.andThen_ok, Sem.run_pure]
        rw [this]
        exact ⟨_, J, E, h, Env.le_refl E, VR_undef, hWD⟩
      · exact h.elim
    · exact h.elim
  case insert t m k x =>
    simp only [heapE] at h
    split at h
    · rename_i kt et hu
      split at h
      · rename_i hk
        obtain ⟨key, he, _, h⟩ := strE_ok h (ev_ok htm k)
        obtain ⟨J, w', h, hWD, hr⟩ := upE_put (P := X.P) hu hk hW (ev_ok htm m) (ev_ok htm x) h
        have : (execOp a.eval ⟨dst, .insert t m k x, type, pos, after, guard⟩).run X.P w = .ok .skip w' := by
          simp only [execOp, he, Sem.run_bind, hr, Result.andThen_ok, Sem.run_pure]
        rw [this]
        exact ⟨_, J, E, h, Env.le_refl E, VR_undef, hWD⟩
      · exact h.elim
    · exact h.elim
  case mapEntry t m k =>
    simp only [heapE] at h
    split at h
    · rename_i kt et hu
      split at h
      · rename_i hk
        obtain ⟨key, he, _, h⟩ := strE_ok h (ev_ok htm k)
        obtain ⟨z, hz, h⟩ := (optP_iff _ _).1 h
        obtain ⟨cz, hvz, _, hrz⟩ := run_zero (E := E) hz
        obtain ⟨v, s, J, D, cv, cs, w', h, hle, hv, hs, hWD, hr⟩ := entE_ok (P := X.P) hu hk hvz hrz hW (ev_ok htm m) h
        have : (execOp a.eval ⟨dst, .mapEntry t m k, type, pos, after, guard⟩).run X.P w = .ok (.value (.tuple #[cv, cs])) w' := by
          simp only [execOp, he, Sem.run_bind, hr, Result.andThen_ok, Sem.run_pure]
        rw [this]
        exact Out.val h hle (by simp only [VR]; exact ⟨_, rfl, VRs_cons hv (VRs_cons hs VRs_nil)⟩) hWD
      · exact h.elim
    · exact h.elim
  case entryStore t m s x =>
    simp only [heapE] at h
    obtain ⟨J, w', h, hWD, hr⟩ := esE_ok (P := X.P) (t := t) hW (ev_ok htm m) (ev_ok htm s) (ev_ok htm x) h
    have : (execOp a.eval ⟨dst, .entryStore t m s x, type, pos, after, guard⟩).run X.P w = .ok .skip w' := by
      simp only [execOp, Sem.run_bind, hr, Result.andThen_ok, Sem.run_pure]
    rw [this]
    exact ⟨_, J, E, h, Env.le_refl E, VR_undef, hWD⟩
  case panic x =>
    simp only [heapE] at h
    have hv := ev_ok htm x
    split at h
    · rename_i t v hx
      rw [hx] at hv
      have hv' := hv
      simp only [VR] at hv'
      obtain ⟨cv, he, _⟩ := hv'
      have : (execOp a.eval ⟨dst, .panic x, type, pos, after, guard⟩).run X.P w = .halt (.panic (a.eval x)) w := by
        simp only [execOp, he, Instr.panic, goPanic, Sem.run_bind, Sem.run, Result.andThen]
      rw [this]
      exact ⟨_, H, E, h, Env.le_refl E, hv, hW⟩
    · exact h.elim
  case call c =>
    obtain ⟨callee, args, argTypes⟩ := c
    have hargs : VRs E (args.toList.map (ev tm)) (args.map a.eval).toList := by simpa using evs_ok htm args.toList
    have hK : ∀ {v J}, openE X.P type v (fun v => K v J) → K v J := fun h => openE_ok (K := fun v => K v _) h
    cases callee with
    | value f =>
      simp only [heapE] at h
      have hv := ev_ok htm f
      cases hf : ev tm f <;> rw [hf] at h hv <;> simp only [funcE] at h
      simp only [VR] at hv
      obtain ⟨a', c', he, h1, h2⟩ := hv
      rename_i g as cs
      have hC : Out X E (fun v J => openE X.P type v fun v => K v J) Xp ((callFunc g (a' ++ args.map a.eval ++ c')).run X.P w) := callE_ok hW (by simpa using VRs_append h1 (VRs_append hargs h2)) (by rw [List.append_assoc] at h; exact h)
      have : (execOp a.eval ⟨dst, .call ⟨.value f, args, argTypes⟩, type, pos, after, guard⟩).run X.P w = (callFunc g (a' ++ args.map a.eval ++ c')).run X.P w := by
        simp only [execOp, resolve, he, Deferred.ofValue, Sem.run_bind, Sem.run_pure, Result.andThen_ok, invoke]
      rw [this]
      exact hC.mono (fun v J h => hK h) (fun v J h => h)
    | invoke rv name =>
      simp only [heapE] at h
      have hv := ev_ok htm rv
      cases hf : ev tm rv <;> rw [hf] at h hv <;> simp only [invE] at h
      rename_i t x
      simp only [VR] at hv
      obtain ⟨v', he, hv'⟩ := hv
      obtain ⟨g, hm, h⟩ := (optP_iff _ _).1 h
      have hC : Out X E (fun v J => openE X.P type v fun v => K v J) Xp ((callFunc g (#[v'] ++ args.map a.eval)).run X.P w) := callE_ok hW (by simpa using VRs_cons hv' hargs) h
      have hmr := methodA_ok (w := w) (cv := v') hm (X.P.types.size + 99)
      have hmr' : (method (X.P.types.size + Made.depth) t v' name).run X.P w = .ok (g, v') w := hmr
      have : (execOp a.eval ⟨dst, .call ⟨.invoke rv name, args, argTypes⟩, type, pos, after, guard⟩).run X.P w = (callFunc g (#[v'] ++ args.map a.eval)).run X.P w := by
        have hx0 : (#[Value.iface t v'] ++ args.map a.eval)[0]? = some (Value.iface t v') := by
          generalize args.map a.eval = q
          rw [← Array.getElem?_toList]
          simp
        have hx1 : (#[Value.iface t v'] ++ args.map a.eval).extract 1 (#[Value.iface t v'] ++ args.map a.eval).size = args.map a.eval := by
          generalize args.map a.eval = q
          rw [← Array.toList_inj]; simp
        simp only [execOp, resolve, he, Sem.run_bind, Sem.run_pure, Result.andThen_ok, invoke, hx0, hx1, callMethod, run_program, hmr']
      rw [this]
      exact hC.mono (fun v J h => hK h) (fun v J h => h)
    | builtin b =>
      cases b
      case len =>
        simp only [heapE] at h
        split at h
        · rename_i x kt et ha ht
          obtain ⟨t, ht1, ht2⟩ := Option.bind_eq_some_iff.1 ht
          have hargs : args.map a.eval = #[a.eval x] := by rw [← Array.toList_inj]; simp [ha]
          obtain ⟨es, m, ces, h, hr, hp, he, hcm⟩ := mapE_ok hW (ev_ok htm x) h
          have hlen : ces.size = es.length := by
            have h1 := hp.length_eq
            have h2 := congrArg List.length (ERs_keys es m he)
            simp at h1 h2; omega
          have : (execOp a.eval ⟨dst, .call ⟨.builtin .len, args, argTypes⟩, type, pos, after, guard⟩).run X.P w = .ok (.value (.int .i64 (es.length : Int))) w := by
            rcases hcm with ⟨e1, rfl⟩ | ⟨b, c, e1, hb⟩
            · have : es.length = 0 := by simpa using hlen.symm
              simp [execOp, resolve, hargs, invoke, builtin, Builtin.len_, ht1, run_underlying ht2, goInt, e1, this]
            · simp [execOp, resolve, hargs, invoke, builtin, Builtin.len_, ht1, run_underlying ht2, goInt, e1, run_getObj hb, hlen]
          rw [this]
          exact Out.val h (Env.le_refl E) VRi hW
        · exact h.elim
      case delete =>
        simp only [heapE] at h
        split at h
        · rename_i m k kt et ha ht
          obtain ⟨t, ht1, ht2⟩ := Option.bind_eq_some_iff.1 ht
          have hargs : args.map a.eval = #[a.eval m, a.eval k] := by rw [← Array.toList_inj]; simp [ha]
          split at h
          · rename_i hk
            obtain ⟨key, he, _, h⟩ := strE_ok h (ev_ok htm k)
            obtain ⟨J, w', h, hWD, hr⟩ := upE_del (P := X.P) (argTypes := argTypes) (type := type) ht1 ht2 hk hW (ev_ok htm m) h
            have : (execOp a.eval ⟨dst, .call ⟨.builtin .delete, args, argTypes⟩, type, pos, after, guard⟩).run X.P w = .ok (.value (.tuple #[])) w' := by
              simp only [execOp, resolve, hargs, he, invoke, builtin, Sem.run_bind, Sem.run_pure, Result.andThen_ok, hr]
            rw [this]
            exact Out.val h (Env.le_refl E) VR_undef hWD
          · exact h.elim
        · exact h.elim
      case append =>
        simp only [heapE] at h
        have same : ∀ (t tx : TypeId) (cy cz : Value) (w : World), argTypes[0]? = some t → argTypes[1]? = some tx → (Builtin.append_ argTypes type #[cy, cz]).run X.P w = (Builtin.append_ #[t, tx] type #[cy, cz]).run X.P w := by
          intro t tx cy cz w h1 h2; simp only [Builtin.append_, h1, h2]; rfl
        split at h
        · rename_i x y e e' ha ht hty
          obtain ⟨t, ht1, ht2⟩ := Option.bind_eq_some_iff.1 ht
          obtain ⟨tx, htx1, htx2⟩ := Option.bind_eq_some_iff.1 hty
          have hargs : args.map a.eval = #[a.eval x, a.eval y] := by rw [← Array.toList_inj]; simp [ha]
          simp only [optP_iff] at h
          obtain ⟨sz, hsz, by_, hby, z, hz, h⟩ := h
          split at h
          · rename_i c1 c2
            have c1 := Nat.le_of_ble_eq_true c1
            have c2 := Nat.eq_of_beq_eq_true c2
            obtain ⟨l, vals, h, hv, hel, hF⟩ := valsE_ok (P := X.P) hW (ev_ok htm y) htx2 h
            obtain ⟨v, J, D, cv, w', h, hle, hvv, hWD, hr⟩ := appE_ok (ty := type) ht2 hsz hby c1 hz c2 hW (ev_ok htm x) hv hel hF h
            have : (execOp a.eval ⟨dst, .call ⟨.builtin .append, args, argTypes⟩, type, pos, after, guard⟩).run X.P w = .ok (.value cv) w' := by
              simp only [execOp, resolve, hargs, invoke, builtin, Sem.run_bind, Sem.run_pure, Result.andThen_ok, same t tx _ _ _ ht1 htx1, hr]
            rw [this]
            exact Out.val h hle hvv hWD
          · exact h.elim
        · rename_i x y e ha ht hty
          obtain ⟨t, ht1, ht2⟩ := Option.bind_eq_some_iff.1 ht
          obtain ⟨tx, htx1, htx2⟩ := Option.bind_eq_some_iff.1 hty
          have hargs : args.map a.eval = #[a.eval x, a.eval y] := by rw [← Array.toList_inj]; simp [ha]
          simp only [optP_iff] at h
          obtain ⟨sz, hsz, by_, hby, z, hz, h⟩ := h
          split at h
          · rename_i c1 c2 c3
            have c1 := Nat.le_of_ble_eq_true c1
            have c2 := Nat.eq_of_beq_eq_true c2
            obtain rfl := Nat.eq_of_beq_eq_true c3
            obtain ⟨s, he, _, h⟩ := strE_ok h (ev_ok htm y)
            obtain ⟨vals, hv, hel, hF⟩ := bytes_from (P := X.P) (E := E) (w := w) s htx2
            obtain ⟨v, J, D, cv, w', h, hle, hvv, hWD, hr⟩ := appE_ok (ty := type) ht2 hsz hby c1 hz c2 hW (ev_ok htm x) hv hel hF h
            have : (execOp a.eval ⟨dst, .call ⟨.builtin .append, args, argTypes⟩, type, pos, after, guard⟩).run X.P w = .ok (.value cv) w' := by
              simp only [execOp, resolve, hargs, he, invoke, builtin, Sem.run_bind, Sem.run_pure, Result.andThen_ok, same t tx _ _ _ ht1 htx1, hr]
            rw [this]
            exact Out.val h hle hvv hWD
          · exact h.elim
        · exact h.elim
      all_goals (simp [heapE] at h)
  all_goals (simp [heapE] at h)
theorem opE_ok {K Xp : V → Hp → Prop} (htm : TR E tm a) (hW : WR E X.base X.w0 H w) (h : opE X tm o H K Xp) : Out X E K Xp ((execOp a.eval o).run X.P w) := by
  unfold opE at h
  split at h
  · rename_i hp
    obtain ⟨v, h, cv, hv, hr⟩ := pureE_ok htm hp h
    rw [hr w]
    exact Out.val h (Env.le_refl E) hv hW
  · exact heapE_ok htm hW h
end Go.Proofs.Ytmpheeanjjfddaa.SM
