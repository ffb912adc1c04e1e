/- All the small machine's operations answer as the model's do. -/
import Derived.Test.YtmpheeanjjfddaaDoorAMHeap3
namespace Go.Proofs.YtmpheeanjjfddaaDoor.AM
open Go Go.RowKit
set_option linter.unusedVariables false
set_option linter.unusedSimpArgs false
variable {P : Program} {E : Env} {tm : Tm} {a : Act} {o : Oper} {v : AV} {base : Nat} {w0 w : World} {s : St}

theorem foldl_size (off : Nat) : ∀ (zs : List (Value × Nat)) (cs : Array Value), (zs.foldl (fun cs (x : Value × Nat) => cs.setIfInBounds (off + x.2) x.1) cs).size = cs.size
  | [], cs => rfl
  | y :: ys, cs => by simp only [List.foldl_cons]; rw [foldl_size off ys]; simp
theorem fill_size (pl : Nat → Option (Nat × Nat)) : ∀ (parts : List (Nat × Value)) (cs0 out : Array Value), Instr.fill pl cs0 parts = some out → out.size = cs0.size
  | [], cs0, out, hh => by simp only [Instr.fill, Option.some.injEq] at hh; subst hh; rfl
  | (i, x) :: r, cs0, out, hh => by
    simp only [Instr.fill] at hh
    split at hh
    · cases hh
    · split at hh
      · cases hh
      · rw [fill_size pl r _ _ hh, ← Array.foldl_toList]
        exact foldl_size _ _ _
theorem entries_ok (hW : WR E base w0 s.H w) {m : AV} {cm : Value} (hm : VR E m cm) {es : List (AV × AV × Nat)} (h : entriesOf m s = some es) :
    (cm = .map none ∧ es = []) ∨ ∃ b ces c, cm = .map (some b) ∧ w.heap[b]? = some (.map ces c) ∧ ERs E es ces.toList := by
  unfold entriesOf at h
  split at h
  · cases h; simp only [VR] at hm; exact .inl ⟨hm, rfl⟩
  · rename_i n
    split at h
    · rename_i es' c hn
      cases h
      simp only [VR] at hm
      obtain ⟨b, N, hG, rfl⟩ := hm
      obtain ⟨ces, h1, h2⟩ := map_at hW hn hG
      exact .inr ⟨b, ces, c, rfl, h1, h2⟩
    · cases h
  · cases h
theorem lookupA_ok (hW : WR E base w0 s.H w) {t : TypeId} {m k v : AV} {cm ck : Value} {ok : Bool} (hm : VR E m cm) (hk : VR E k ck) (h : lookupA P t m k ok s = some v) :
    ∃ cv, VR E v cv ∧ (Instr.lookup t cm ck ok).run P w = .ok cv w := by
  unfold lookupA at h
  split at h
  · rename_i kt et hu
    split at h
    · rename_i hfit
      obtain ⟨d, hd, hFD⟩ := fits_ok hfit
      split at h
      · rename_i es hes
        -- the entries, concretely
        have key : ∀ (ces : Array MapEntry), ERs E es ces.toList →
            ((cm = .map none ∧ ces = #[]) ∨ ∃ b c, cm = .map (some b) ∧ w.heap[b]? = some (.map ces c)) →
            ∃ cv, VR E v cv ∧ (Instr.lookup t cm ck ok).run P w = .ok cv w := by
          intro ces hER hcm
          have pre1 : ∀ i ev, Instr.findNow d ck ces.toList 0 = some (some (i, ev)) → (Instr.lookup t cm ck ok).run P w = .ok (if ok then .tuple #[ev, .bool true] else ev) w := by
            intro i ev hfn
            rcases hcm with ⟨rfl, rfl⟩ | ⟨b, c, rfl, hb⟩
            · simp only [Instr.lookup, Sem.run_bind, run_underlying hu, Result.andThen_ok, Sem.run_pure, checkKey_ok hd hFD hk, findKey_run hd hfn]
            · have hg : (getObj b).run P w = .ok (.map ces c) w := by simp [getObj, Sem.run, hb]
              simp only [Instr.lookup, Sem.run_bind, run_underlying hu, Result.andThen_ok, Sem.run_pure, hg, checkKey_ok hd hFD hk, findKey_run hd hfn]
          have pre2 : ∀ cz, Instr.findNow d ck ces.toList 0 = some none → (∀ w, (zeroValue et).run P w = .ok cz w) → (Instr.lookup t cm ck ok).run P w = .ok (if ok then .tuple #[cz, .bool false] else cz) w := by
            intro cz hfn hz
            rcases hcm with ⟨rfl, rfl⟩ | ⟨b, c, rfl, hb⟩
            · simp only [Instr.lookup, Sem.run_bind, run_underlying hu, Result.andThen_ok, Sem.run_pure, checkKey_ok hd hFD hk, findKey_run hd hfn, hz]
            · have hg : (getObj b).run P w = .ok (.map ces c) w := by simp [getObj, Sem.run, hb]
              simp only [Instr.lookup, Sem.run_bind, run_underlying hu, Result.andThen_ok, Sem.run_pure, hg, checkKey_ok hd hFD hk, findKey_run hd hfn, hz]
          split at h
          · rename_i i x born hf
            cases h
            obtain ⟨e, _, _, _, hfn, hvx, _⟩ := findA_ok hk hFD es ces.toList 0 _ hER hf
            refine ⟨_, ?_, pre1 _ _ hfn⟩
            cases ok
            · simpa using hvx
            · simp only [if_true, VR]; exact ⟨_, rfl, VRs_cons hvx (VRs_cons (by simp only [VR]) VRs_nil)⟩
          · rename_i hf
            have hfn := findA_ok hk hFD es ces.toList 0 _ hER hf
            simp only at hfn
            split at h
            · rename_i z hz
              cases h
              obtain ⟨cz, hvz, hrz⟩ := run_zero (E := E) hz
              refine ⟨_, ?_, pre2 _ hfn hrz⟩
              cases ok
              · simpa using hvz
              · simp only [if_true, VR]; exact ⟨_, rfl, VRs_cons hvz (VRs_cons (by simp only [VR]) VRs_nil)⟩
            · cases h
          · cases h
        rcases entries_ok hW hm hes with ⟨h1, h2⟩ | ⟨b, ces, c, h1, h2, h3⟩
        · subst h2; exact key #[] (by simp [ERs]) (.inl ⟨h1, rfl⟩)
        · exact key ces h3 (.inr ⟨b, c, h1, h2⟩)
      · cases h
    · cases h
  · cases h
theorem run_setObj {b : Nat} {ces ces' : Array MapEntry} {c c' : Nat} (hb : w.heap[b]? = some (.map ces c)) : (setObj b (.map ces' c')).run P w = .ok () { w with heap := w.heap.setIfInBounds b (.map ces' c') } := by simp [setObj, Sem.run, hb]
theorem run_getObj {b : Nat} {ces : Array MapEntry} {c : Nat} (hb : w.heap[b]? = some (.map ces c)) : (getObj b).run P w = .ok (.map ces c) w := by simp [getObj, Sem.run, hb]
theorem updateA_ok (hW : WR E base w0 s.H w) {t : TypeId} {m k v : AV} {cm ck cv : Value} {s' : St} (hm : VR E m cm) (hk : VR E k ck) (hv : VR E v cv) (h : updateA P t m k v s = some s') :
    ∃ w', WR E base w0 s'.H w' ∧ (Instr.mapUpdate t cm ck cv).run P w = .ok () w' := by
  unfold updateA at h
  split at h
  · rename_i kt et n hu
    split at h
    · rename_i hfit
      obtain ⟨d, hd, hFD⟩ := fits_ok hfit
      split at h
      · rename_i es c hn
        simp only [VR] at hm
        obtain ⟨b, N, hG, rfl⟩ := hm
        obtain ⟨ces, hb, hER⟩ := map_at hW hn hG
        split at h
        · rename_i i x born hf
          cases h
          obtain ⟨e, _, he, hes, hfn, _, hke, _, hsame⟩ := findA_ok hk hFD es ces.toList 0 _ hER hf
          simp only [Nat.sub_zero] at he hes
          have he' : ces[i]? = some e := by simpa using he
          refine ⟨_, map_write (ces2 := ces.modify i fun e => { e with key := ck, val := cv }) (c2 := c) hW hn hG ?_, ?_⟩
          · rw [Array.toList_modify]
            exact setVal_ok hv es ces.toList i k x born ck hER hes hk
          · simp only [Instr.mapUpdate, Sem.run_bind, run_underlying hu, Result.andThen_ok, run_getObj hb, checkKey_ok hd hFD hk, findKey_run hd hfn, he', Option.map_some, Option.getD_some, Instr.keyThatStays, hsame, if_true, Sem.run_pure, run_setObj hb]
        · rename_i hf
          cases h
          have hfn := findA_ok hk hFD es ces.toList 0 _ hER hf
          simp only at hfn
          refine ⟨_, map_write (ces2 := ces.push { key := ck, val := cv, born := c }) (c2 := c + 1) hW hn hG ?_, ?_⟩
          · rw [Array.toList_push]
            exact ERs_append hER ⟨_, [], rfl, hk, hv, rfl, rfl⟩
          · simp only [Instr.mapUpdate, Sem.run_bind, run_underlying hu, Result.andThen_ok, run_getObj hb, checkKey_ok hd hFD hk, findKey_run hd hfn, run_setObj hb]
        · cases h
      · cases h
    · cases h
  · cases h
theorem entryA_ok (hW : WR E base w0 s.H w) {t : TypeId} {m k v : AV} {cm ck : Value} {s' : St} (hm : VR E m cm) (hk : VR E k ck) (h : entryA P t m k s = some (v, s')) :
    ∃ cv w', VR E v cv ∧ WR E base w0 s'.H w' ∧ (Instr.mapEntry t cm ck).run P w = .ok cv w' := by
  unfold entryA at h
  split at h
  · rename_i kt et n hu
    split at h
    · rename_i hfit
      obtain ⟨d, hd, hFD⟩ := fits_ok hfit
      split at h
      · rename_i es c hn
        simp only [VR] at hm
        obtain ⟨b, N, hG, rfl⟩ := hm
        obtain ⟨ces, hb, hER⟩ := map_at hW hn hG
        split at h
        · rename_i i x born hf
          cases h
          obtain ⟨e, _, he, hes, hfn, hvx, hke, hborn, hsame⟩ := findA_ok hk hFD es ces.toList 0 _ hER hf
          simp only [Nat.sub_zero] at he hes
          have he' : ces[i]? = some e := by simpa using he
          have hw := map_write (ces2 := ces.modify i fun e => { e with key := ck }) (c2 := c) hW hn hG (by rw [Array.toList_modify]; exact keyOnly_ok es ces.toList i k x born ck hER hes hk)
          have hsame2 : WR E base w0 s.H { w with heap := w.heap.setIfInBounds b (.map (ces.modify i fun e => { e with key := ck }) c) } := by
            refine ⟨hw.below, hw.big, ?_, ?_, ?_⟩
            · intro q p b' M hq hGq
              refine hw.live q p b' M ?_ hGq
              rw [hget_hset]
              split
              · rename_i hqn; subst hqn; rw [hn] at hq; exact hq
              · exact hq
            · exact hW.dom
            · exact hW.kin
          refine ⟨.tuple #[e.val, .int .i64 (born : Int)], _, ?_, hsame2, ?_⟩
          · simp only [VR]; exact ⟨_, rfl, VRs_cons hvx (VRs_cons (by simp only [VR]; rfl) VRs_nil)⟩
          · simp only [Instr.mapEntry, Sem.run_bind, run_underlying hu, Result.andThen_ok, run_getObj hb, checkKey_ok hd hFD hk, findKey_run hd hfn, he', Option.map_some, Option.getD_some, Instr.keyThatStays, hsame, if_true, Sem.run_pure, run_setObj hb, goInt, hborn]
        · rename_i hf
          have hfn := findA_ok hk hFD es ces.toList 0 _ hER hf
          simp only at hfn
          split at h
          · rename_i z hz
            cases h
            obtain ⟨cz, hvz, hrz⟩ := run_zero (E := E) hz
            refine ⟨.tuple #[cz, .int .i64 (c : Int)], _, ?_, map_write (ces2 := ces.push { key := ck, val := cz, born := c }) (c2 := c + 1) hW hn hG ?_, ?_⟩
            · simp only [VR]; exact ⟨_, rfl, VRs_cons hvz (VRs_cons (by simp only [VR]; rfl) VRs_nil)⟩
            · rw [Array.toList_push]
              exact ERs_append hER ⟨_, [], rfl, hk, hvz, rfl, rfl⟩
            · simp only [Instr.mapEntry, Sem.run_bind, run_underlying hu, Result.andThen_ok, run_getObj hb, checkKey_ok hd hFD hk, findKey_run hd hfn, hrz, run_setObj hb, Sem.run_pure, goInt]
          · cases h
        · cases h
      · cases h
    · cases h
  · cases h
theorem entryStoreA_ok (hW : WR E base w0 s.H w) {t : TypeId} {m st v : AV} {cm cst cv : Value} {s' : St} (hm : VR E m cm) (hst : VR E st cst) (hv : VR E v cv) (h : entryStoreA m st v s = some s') :
    ∃ w', WR E base w0 s'.H w' ∧ (Instr.entryStore t cm cst cv).run P w = .ok () w' := by
  unfold entryStoreA at h
  split at h
  · rename_i n kd born
    split at h
    · rename_i es c hn
      split at h
      · rename_i i hi
        cases h
        simp only [VR] at hm hst
        obtain ⟨b, N, hG, rfl⟩ := hm
        subst hst
        obtain ⟨ces, hb, hER⟩ := map_at hW hn hG
        obtain ⟨_, hf⟩ := findBorn_ok es ces.toList 0 i hER hi
        have hf' : ces.findIdx? (fun e => (e.born : Int) == (born : Int)) = some i := by
          cases ces with
          | mk l => simpa using hf
        refine ⟨_, map_write (ces2 := ces.modify i fun e => { e with val := cv }) (c2 := c) hW hn hG ?_, ?_⟩
        · rw [Array.toList_modify]
          exact valOnly_ok hv es ces.toList i hER
        · have hb0 : Int.ofNat born = (born : Int) := rfl
          simp only [Instr.entryStore, Sem.run_bind, Result.andThen_ok, run_getObj hb, asInt, asIntOf, Sem.run_pure, hb0, hf', run_setObj hb]
      · cases h
    · cases h
  · cases h

theorem callA_ok {f : FuncId} {args : List AV} {r : R} {cargs : Array Value} (hargs : VRs E args cargs.toList) (h : callA P f args s = some r) : r = .call f args s ∧ (callFunc f cargs).run P w = .ok (.enter f cargs) w := by
  unfold callA at h
  split at h
  · rename_i fn hf
    split at h
    · rename_i hc
      cases h
      simp only [Bool.and_eq_true, Bool.not_eq_true'] at hc
      have hb : fn.body.isNone = false := by
        cases hb : fn.body <;> simp [hb] at hc ⊢
      refine ⟨rfl, ?_⟩
      simp only [callFunc, Sem.run_bind, run_program, Result.andThen_ok, hf, hc.2, Bool.false_eq_true, if_false, hb, Sem.run_pure]
    · cases h
  · cases h
theorem methodA_ok {t : TypeId} {v : AV} {cv : Value} {name : String} {f : FuncId} {rc : AV} (hv : VR E v cv) (h : methodA P t v name = some (f, rc)) (n : Nat) : rc = v ∧ (method (n + 1) t cv name).run P w = .ok (f, cv) w := by
  unfold methodA at h
  split at h
  · rename_i i hi
    split at h
    · rename_i m hm
      split at h
      · rename_i hp
        have hpath : m.path.toList = [] := by
          have : m.path = #[] := by simpa using hp
          simp [this]
        split at h
        · rename_i g e hmf hu
          cases h
          refine ⟨rfl, ?_⟩
          simp only [method, typeInfo, Sem.run_bind, run_program, Result.andThen_ok, hi, Sem.run_pure, hm, hpath, follow, hmf, receiverAt, run_underlying hu, Place.get]
        · cases h
        · rename_i g d hd hmf hu
          cases h
          refine ⟨rfl, ?_⟩
          simp only [method, typeInfo, Sem.run_bind, run_program, Result.andThen_ok, hi, Sem.run_pure, hm, hpath, follow, hmf, receiverAt, run_underlying hu]
          first
            | (simp [Place.get]; done)
            | (split <;> simp_all [Place.get])
        · cases h
      · cases h
    · cases h
  · cases h
theorem R_map_val {x : Option AV} {s : St} {r : R} (h : x.map (R.val · s) = some r) : ∃ v, x = some v ∧ r = .val v s := by
  obtain ⟨v, hv, rfl⟩ := Option.map_eq_some_iff.1 h; exact ⟨v, hv, rfl⟩

set_option maxHeartbeats 1000000 in
theorem heapA_ok (htm : TR E tm a) (hW : WR E base w0 s.H w) {r : R} (h : heapA P tm o s = some r) : HeapOk P E base w0 a o s w r := by
  obtain ⟨dst, op, type, pos, after, guard⟩ := o
  cases op
  case alloc e =>
    simp only [heapA] at h
    split at h
    · rename_i z hz
      obtain ⟨cz, hvz, hrz⟩ := run_zero (E := E) hz
      split at h
      · rename_i n s2 hal
        cases h
        obtain ⟨E', w', hle, hv', hW', hr⟩ := new_box (P := P) hW hal hvz
        exact ⟨E', _, w', _, hle, hv', hW', by simp only [execOp, Instr.alloc, Sem.run_bind, hrz, Result.andThen_ok, hr, Sem.run_pure], .inl rfl⟩
      · cases h
    · cases h
  case box e x =>
    simp only [heapA] at h
    split at h
    · rename_i y hy
      split at h
      · rename_i n s2 hal
        cases h
        obtain ⟨E', w', hle, hv', hW', hr⟩ := new_box (P := P) hW hal (ev_ok htm hy)
        exact ⟨E', _, w', _, hle, hv', hW', by simp only [execOp, Instr.box, Sem.run_bind, Result.andThen_ok, hr, Sem.run_pure], .inl rfl⟩
      · cases h
    · cases h
  case buildSlice t len parts =>
    simp only [heapA] at h
    split at h
    · rename_i l hl
      obtain ⟨p, hp, rfl⟩ := Option.map_eq_some_iff.1 h
      obtain ⟨v, s2⟩ := p
      have hparts := evParts_ok htm _ _ hl
      unfold buildSliceA at hp
      split at hp
      · rename_i e hu
        split at hp
        · rename_i n z hn hz
          obtain ⟨cz, hvz, hrz⟩ := run_zero (E := E) hz
          split at hp
          · rename_i hcond
            split at hp
            · rename_i cs hf
              split at hp
              · rename_i nm s3 hal
                cases hp
                have hzc := cells_ok hvz
                have hzl := VRs_length _ _ hzc
                have hzs : cz.cells.size = n := by simp at hzl; omega
                have hrep := rep_made hzc len
                rw [hzs] at hrep
                obtain ⟨out', ho', hr'⟩ := fill_ok _ _ _ _ (((List.range (len * n)).map fun i => cz.cells[i % n]!).toArray) _ hparts (by simpa using hrep) hf
                have hol := VRs_length _ _ hr'
                have hfl : out'.size = len * n := by
                  rw [fill_size _ _ _ _ ho']; simp
                obtain ⟨E', hle, hv', hW'⟩ := new_row (sz := n) (arr := out') hW len len hal (by simp at hol; omega) (by rw [← hol, List.take_length]; exact hr') (by omega) (Nat.le_refl _)
                refine ⟨E', _, _, _, hle, hv', hW', ?_, .inl rfl⟩
                have h24 : ¬ (len * n > 2 ^ 24) := by have := hcond.1; omega
                simp only [execOp, Instr.buildSlice, Sem.run_bind, run_underlying hu, Result.andThen_ok, run_sizeOf hn, if_neg h24, Sem.run_pure]
                by_cases h0 : len * n = 0
                · have hr0 : ∀ f : Nat → Value, Array.map f (Array.range (len * n)) = ((List.range (len * n)).map fun i => cz.cells[i % n]!).toArray := by intro f; rw [h0]; apply Array.ext'; simp
                  simp only [if_pos h0, Sem.run_pure, Result.andThen_ok, hr0, Array.toList_map, ho']
                  simp only [Sem.run_bind, newRow, run_newObj_alloc, Result.andThen_ok, Sem.run_pure]
                · have hr0 : Array.map (fun i => cz.cells[i % cz.cells.size]!) (Array.range (len * n)) = ((List.range (len * n)).map fun i => cz.cells[i % n]!).toArray := by apply Array.ext'; simp [hzs]
                  simp only [if_neg h0, Sem.run_bind, hrz, Sem.run_pure, Result.andThen_ok, hr0, Array.toList_map, ho']
                  simp only [Sem.run_bind, newRow, run_newObj_alloc, Result.andThen_ok, Sem.run_pure]
              · cases hp
            · cases hp
          · cases hp
        · cases hp
      · cases hp
    · cases h
  case load t x =>
    simp only [heapA] at h
    split at h
    · rename_i n off hx
      obtain ⟨v, hv, rfl⟩ := R_map_val h
      have hp := ev_ok htm hx
      simp only [VR] at hp
      obtain ⟨b, N, hG, he⟩ := hp
      obtain ⟨cv, hcv, hr⟩ := loadA_ok hW hv hG
      exact ⟨E, cv, w, _, Env.le_refl E, hcv, hW, by simp only [execOp, Instr.loadAt, he, Instr.sureAddr, Sem.run_bind, Sem.run_pure, Result.andThen_ok, hr], .inl rfl⟩
    · cases h
  case store t x y =>
    simp only [heapA] at h
    split at h
    · rename_i n off vy hx hy
      obtain ⟨s2, hs, rfl⟩ := Option.map_eq_some_iff.1 h
      have hp := ev_ok htm hx
      simp only [VR] at hp
      obtain ⟨b, N, hG, he⟩ := hp
      obtain ⟨w', hW', hr⟩ := storeA_ok hW hs (ev_ok htm hy) hG
      exact ⟨E, undef, w', _, Env.le_refl E, VR_undef, hW', by simp only [execOp, Instr.storeAt, he, Instr.sureAddr, Sem.run_bind, Sem.run_pure, Result.andThen_ok, hr], .inr ⟨rfl, rfl⟩⟩
    · cases h
  case makeMap t x =>
    have hmk : ∀ (n : Nat) (s2 : St), s.alloc (.map [] 0) = some (n, s2) → (Instr.makeMap t (x.map a.eval)).run P w = .ok (.map (some w.heap.size)) (w.alloc (.map #[] 0)) →
        HeapOk P E base w0 a ⟨dst, .makeMap t x, type, pos, after, guard⟩ s w (.val (.map n) s2) := by
      intro n s2 hal hr
      obtain ⟨hn, hH, _⟩ := St.alloc_ok hal
      refine ⟨E.set n w.heap.size 0, .map (some w.heap.size), w.alloc (.map #[] 0), _, Env.le_set (hW.dom n hn), by simp only [VR]; exact ⟨_, _, Env.get_set _ _ _ _, rfl⟩, ?_, by simp only [execOp, Sem.run_bind, hr, Result.andThen_ok, Sem.run_pure], .inl rfl⟩
      rw [hH]
      exact hW.alloc hn _ _ _ ⟨#[], heap_new _ _, by simp [ERs]⟩
    simp only [heapA] at h
    split at h
    · rename_i k e hu hx
      cases x with
      | some x => simp at hx
      | none =>
        split at h
        · rename_i n s2 hal; cases h
          exact hmk n s2 hal (by simp [Instr.makeMap])
        · cases h
    · rename_i k e kd q hu hx
      cases x with
      | none => simp at hx
      | some x =>
        simp only [Option.map_some, Option.some.injEq] at hx
        have hq := ev_ok htm hx
        simp only [VR] at hq
        split at h
        · rename_i n s2 hal; cases h
          exact hmk n s2 hal (by simp [Instr.makeMap, run_underlying hu, hq, asInt, asIntOf])
        · cases h
    · cases h
  case makeSlice t x y =>
    simp only [heapA] at h
    split at h
    · rename_i e l c hu hl hc
      split at h
      · rename_i by_ z n hb hz hn
        split at h
        · rename_i hcond
          simp only [Bool.and_eq_true, Nat.beq_eq, Nat.ble_eq] at hcond
          obtain ⟨⟨⟨hlc, hl6⟩, hb6⟩, hzl⟩ := hcond
          subst hlc
          split at h
          · rename_i nm s2 hal
            cases h
            obtain ⟨k1, hk1⟩ := asNat_ok htm hl
            obtain ⟨k2, hk2⟩ := asNat_ok htm hc
            have hn0 := hn
            unfold sizeA at hn0
            obtain ⟨i, hi, hisz⟩ := Option.map_eq_some_iff.1 hn0
            subst hisz
            have hby' : i.bytes = by_ := by rw [hi] at hb; simpa using hb
            unfold zeroA at hz
            obtain ⟨cz, hcz, hzz⟩ := Option.bind_eq_some_iff.1 hz
            rw [hi] at hcz
            simp only [Option.bind_some] at hcz
            have hvz : VR E z cz := ofV_ok hzz
            have hzc := cells_ok hvz
            have hzsz : cz.cells.size = i.size := by
              have := VRs_length _ _ hzc
              simp at this; omega
            have hbytes : (i.bytes : Int) * (l : Int) ≤ 281474976710656 := by
              have h1 : i.bytes * l ≤ 1000000 * 1000000 := Nat.mul_le_mul (by omega) hl6
              have h2 : ((i.bytes * l : Nat) : Int) ≤ 281474976710656 := by omega
              rwa [Int.natCast_mul] at h2
            have hr := run_make (P := P) w t e i cz hu hi hcz k1 k2 l l (by omega) (Int.le_refl _) hbytes (by omega)
            simp only [Int.toNat_natCast] at hr
            have hrep := rep_made hzc l
            rw [hzsz] at hrep
            have hmade : (madeCells cz.cells (l * i.size)).toList = (List.range (l * i.size)).map fun j => cz.cells[j % i.size]! := by unfold madeCells; rw [hzsz]; simp
            have hms : (madeCells cz.cells (l * i.size)).size = l * i.size := size_madeCells _ _
            have hrl : (rep (cellsA z) l).length = l * i.size := by rw [rep_len, hzl]
            obtain ⟨E', hle, hv', hW'⟩ := new_row (sz := i.size) (arr := madeCells cz.cells (l * i.size)) hW l l hal (by omega) (by rw [hmade, hrl, List.take_of_length_le (by simp)]; exact hrep) (by omega) (Nat.le_refl _)
            refine ⟨E', _, _, _, hle, hv', hW', ?_, .inl rfl⟩
            simp only [execOp, hk1, hk2, Sem.run_bind, hr, Result.andThen_ok, Sem.run_pure]
          · cases h
        · cases h
      · cases h
    · cases h
  case lookup t m k ok =>
    simp only [heapA] at h
    split at h
    · rename_i vm vk hm hk
      obtain ⟨v, hv, rfl⟩ := R_map_val h
      obtain ⟨cv, hcv, hr⟩ := lookupA_ok hW (ev_ok htm hm) (ev_ok htm hk) hv
      exact ⟨E, cv, w, _, Env.le_refl E, hcv, hW, by simp only [execOp, Sem.run_bind, hr, Result.andThen_ok, Sem.run_pure], .inl rfl⟩
    · cases h
  case mapUpdate t m k x =>
    simp only [heapA] at h
    split at h
    · rename_i vm vk vx hm hk hx
      obtain ⟨s2, hs, rfl⟩ := Option.map_eq_some_iff.1 h
      obtain ⟨w', hW', hr⟩ := updateA_ok hW (ev_ok htm hm) (ev_ok htm hk) (ev_ok htm hx) hs
      exact ⟨E, undef, w', _, Env.le_refl E, VR_undef, hW', by simp only [execOp, Sem.run_bind, hr, Result.andThen_ok, Sem.run_pure], .inr ⟨rfl, rfl⟩⟩
    · cases h
  case insert t m k x =>
    simp only [heapA] at h
    split at h
    · rename_i vm vk vx hm hk hx
      obtain ⟨s2, hs, rfl⟩ := Option.map_eq_some_iff.1 h
      obtain ⟨w', hW', hr⟩ := updateA_ok hW (ev_ok htm hm) (ev_ok htm hk) (ev_ok htm hx) hs
      exact ⟨E, undef, w', _, Env.le_refl E, VR_undef, hW', by simp only [execOp, Sem.run_bind, hr, Result.andThen_ok, Sem.run_pure], .inr ⟨rfl, rfl⟩⟩
    · cases h
  case mapEntry t m k =>
    simp only [heapA] at h
    split at h
    · rename_i vm vk hm hk
      obtain ⟨p, hp, rfl⟩ := Option.map_eq_some_iff.1 h
      obtain ⟨v, s2⟩ := p
      obtain ⟨cv, w', hcv, hW', hr⟩ := entryA_ok hW (ev_ok htm hm) (ev_ok htm hk) hp
      exact ⟨E, cv, w', _, Env.le_refl E, hcv, hW', by simp only [execOp, Sem.run_bind, hr, Result.andThen_ok, Sem.run_pure], .inl rfl⟩
    · cases h
  case entryStore t m st x =>
    simp only [heapA] at h
    split at h
    · rename_i vm vst vx hm hst hx
      obtain ⟨s2, hs, rfl⟩ := Option.map_eq_some_iff.1 h
      obtain ⟨w', hW', hr⟩ := entryStoreA_ok (P := P) (t := t) hW (ev_ok htm hm) (ev_ok htm hst) (ev_ok htm hx) hs
      exact ⟨E, undef, w', _, Env.le_refl E, VR_undef, hW', by simp only [execOp, Sem.run_bind, hr, Result.andThen_ok, Sem.run_pure], .inr ⟨rfl, rfl⟩⟩
    · cases h
  case call c =>
    obtain ⟨callee, args, argTypes⟩ := c
    have hargs1 : ∀ y, evs tm args.toList = some [y] → ∃ cy, VR E y cy ∧ args.map a.eval = #[cy] := by
      intro y hy
      have hys := evs_ok htm _ _ hy
      simp only [VRs] at hys
      obtain ⟨cy, m, hm, hvy, rfl⟩ := hys
      exact ⟨cy, hvy, by rw [← Array.toList_inj]; simpa using hm⟩
    have hargs2 : ∀ y z, evs tm args.toList = some [y, z] → ∃ cy cz, VR E y cy ∧ VR E z cz ∧ args.map a.eval = #[cy, cz] := by
      intro y z hy
      have hys := evs_ok htm _ _ hy
      simp only [VRs] at hys
      obtain ⟨cy, m, hm, hvy, cz, m', rfl, hvz, rfl⟩ := hys
      exact ⟨cy, cz, hvy, hvz, by rw [← Array.toList_inj]; simpa using hm⟩
    cases callee with
    | value f =>
      simp only [heapA] at h
      split at h
      · rename_i g first cap as hf has
        have hvf := ev_ok htm hf
        simp only [VR] at hvf
        obtain ⟨first', cap', he, h1, h2⟩ := hvf
        have h3 := evs_ok htm _ _ has
        obtain ⟨rfl, hr⟩ := callA_ok (w := w) (cargs := first' ++ args.map a.eval ++ cap') (by simpa using VRs_append h1 (VRs_append h3 h2)) h
        refine ⟨rfl, first' ++ args.map a.eval ++ cap', by simpa using VRs_append h1 (VRs_append h3 h2), ?_⟩
        simp only [execOp, resolve, he, Deferred.ofValue, Sem.run_bind, Sem.run_pure, Result.andThen_ok, invoke, hr]
      · cases h
    | invoke rv name =>
      simp only [heapA] at h
      split at h
      · rename_i t v as hrv has
        have hvr := ev_ok htm hrv
        simp only [VR] at hvr
        obtain ⟨v', he, hv'⟩ := hvr
        have h3 := evs_ok htm _ _ has
        split at h
        · rename_i f rc hm
          obtain ⟨rfl, hmr⟩ := methodA_ok (w := w) hv' hm (P.types.size + 99)
          obtain ⟨rfl, hr⟩ := callA_ok (w := w) (cargs := #[v'] ++ args.map a.eval) (by simpa using VRs_cons hv' h3) h
          refine ⟨rfl, #[v'] ++ args.map a.eval, by simpa using VRs_cons hv' h3, ?_⟩
          have hmr' : (method (P.types.size + Made.depth) t v' name).run P w = .ok (f, v') w := hmr
          have hx0 : (#[Value.iface t v'] ++ args.map a.eval)[0]? = some (Value.iface t v') := by
            generalize args.map a.eval = q
            rw [← Array.getElem?_toList]
            simp
          have hx1 : (#[Value.iface t v'] ++ args.map a.eval).extract 1 (#[Value.iface t v'] ++ args.map a.eval).size = args.map a.eval := by
            generalize args.map a.eval = q
            rw [← Array.toList_inj]; simp
          simp only [execOp, resolve, he, Sem.run_bind, Sem.run_pure, Result.andThen_ok, invoke, hx0, hx1, callMethod, run_program, hmr', hr]
        · cases h
      · cases h
    | builtin b =>
      cases b
      case len =>
        simp only [heapA] at h
        split at h
        · rename_i hy
          obtain ⟨cy, hvy, he⟩ := hargs1 _ hy
          simp only [VR] at hvy
          subst hvy
          split at h
          · rename_i kt et ht
            cases h
            obtain ⟨t, ht1, ht2⟩ := Option.bind_eq_some_iff.1 ht
            refine ⟨E, .int .i64 0, w, _, Env.le_refl E, by simp only [VR], hW, ?_, .inl rfl⟩
            simp [execOp, resolve, he, invoke, builtin, Builtin.len_, ht1, run_underlying ht2, goInt]
          · cases h
        · rename_i n hy
          obtain ⟨cy, hvy, he⟩ := hargs1 _ hy
          simp only [VR] at hvy
          obtain ⟨b, N, hG, rfl⟩ := hvy
          split at h
          · rename_i kt et es c ht hn
            cases h
            obtain ⟨t, ht1, ht2⟩ := Option.bind_eq_some_iff.1 ht
            obtain ⟨ces, hb, hER⟩ := map_at hW hn hG
            have hlen := ERs_len _ _ hER
            have hl' : ces.size = es.length := by simpa using hlen
            refine ⟨E, .int .i64 (es.length : Int), w, _, Env.le_refl E, by simp only [VR]; rfl, hW, ?_, .inl rfl⟩
            simp [execOp, resolve, he, invoke, builtin, Builtin.len_, ht1, run_underlying ht2, goInt, run_getObj hb, hl']
          · cases h
        · cases h
      case clear =>
        simp only [heapA] at h
        have hskip : ∀ cy t e, args.map a.eval = #[cy] → argTypes[0]? = some t → P.underlying t = some (.slice e) → ((∃ c, cy = .slice none 0 c) ∨ (∃ ad c, cy = .slice (some ad) 0 c)) →
            HeapOk P E base w0 a ⟨dst, .call ⟨.builtin .clear, args, argTypes⟩, type, pos, after, guard⟩ s w (.val (.tuple []) s) := by
          intro cy t e he ht1 hu hcy
          refine ⟨E, .tuple #[], w, _, Env.le_refl E, VR_undef, hW, ?_, .inl rfl⟩
          rcases hcy with ⟨c, rfl⟩ | ⟨ad, c, rfl⟩ <;> simp [execOp, resolve, he, invoke, builtin, Builtin.clear_, ht1, run_underlying hu]
        split at h
        · rename_i e hy ht
          cases h
          obtain ⟨cy, hvy, he⟩ := hargs1 _ hy
          obtain ⟨t, ht1, ht2⟩ := Option.bind_eq_some_iff.1 ht
          simp only [VR] at hvy
          exact hskip cy t e he ht1 ht2 (.inl ⟨0, hvy⟩)
        · rename_i e hy ht
          cases h
          obtain ⟨cy, hvy, he⟩ := hargs1 _ hy
          obtain ⟨t, ht1, ht2⟩ := Option.bind_eq_some_iff.1 ht
          simp only [VR] at hvy
          obtain ⟨ad, c, hcy⟩ := hvy
          exact hskip cy t e he ht1 ht2 (.inr ⟨ad, c, hcy⟩)
        · rename_i n off len sz e hy ht
          obtain ⟨cy, hvy, he⟩ := hargs1 _ hy
          obtain ⟨t, ht1, ht2⟩ := Option.bind_eq_some_iff.1 ht
          simp only [VR] at hvy
          obtain ⟨b, N, c, hG, rfl, _, _⟩ := hvy
          split at h
          · rename_i hl0
            subst hl0
            cases h
            exact hskip _ t e he ht1 ht2 (.inr ⟨_, _, rfl⟩)
          · rename_i hl0
            split at h
            · rename_i z hz
              split at h
              · rename_i hzl
                obtain ⟨s2, hs, rfl⟩ := Option.map_eq_some_iff.1 h
                obtain ⟨cz, hvz, hrz⟩ := run_zero (E := E) hz
                have hzc := cells_ok hvz
                have hrep := rep_made hzc len
                have hlist : (Builtin.zeroCells cz.cells len).toList = (List.range (len * cz.cells.size)).map fun i => cz.cells[i % cz.cells.size]! := by unfold Builtin.zeroCells; simp
                obtain ⟨w', hW', hr⟩ := putA_ok (P := P) hW hs hrep hG
                rw [← hlist] at hr
                refine ⟨E, .tuple #[], w', _, Env.le_refl E, VR_undef, hW', ?_, .inl rfl⟩
                have hclear : (Builtin.clear_ argTypes type #[.slice (some ⟨b, off, none⟩) len c]).run P w = .ok (.tuple #[]) w' := by
                  obtain ⟨len', rfl⟩ : ∃ k, len = k + 1 := ⟨len - 1, by omega⟩
                  have hu2 : P.underlying t = some (.slice e) := ht2
                  have hx0 : (#[Value.slice (some ⟨b, off, none⟩) (len' + 1) c])[0]? = some (Value.slice (some ⟨b, off, none⟩) (len' + 1) c) := rfl
                  simp only [Builtin.clear_, ht1, hx0, Sem.run_bind, run_underlying hu2, Result.andThen_ok, hrz, hr, Sem.run_pure]
                simp only [execOp, resolve, he, Sem.run_bind, Sem.run_pure, Result.andThen_ok, invoke, builtin, hclear]
              · cases h
            · cases h
        · cases h
      case append =>
        simp only [heapA] at h
        split at h
        · rename_i y z hy
          obtain ⟨cy, cz, hvy, hvz, he⟩ := hargs2 _ _ hy
          split at h
          · rename_i t e ht1 ht2
            obtain ⟨p, hp, rfl⟩ := Option.map_eq_some_iff.1 h
            obtain ⟨v, s2⟩ := p
            obtain ⟨tx, htx1, htx2⟩ := Option.bind_eq_some_iff.1 ht2
            obtain ⟨E', cv, w', hle, hcv, hW', hr⟩ := appendA_ok (P := P) (tx := tx) (ty := type) hW hvy hvz (.inl ⟨e, htx2⟩) hp
            refine ⟨E', cv, w', _, hle, hcv, hW', ?_, .inl rfl⟩
            have hsame : ∀ w, (Builtin.append_ argTypes type #[cy, cz]).run P w = (Builtin.append_ #[t, tx] type #[cy, cz]).run P w := by
              intro w; simp only [Builtin.append_, ht1, htx1]; rfl
            simp only [execOp, resolve, he, Sem.run_bind, Sem.run_pure, Result.andThen_ok, invoke, builtin, hsame, hr]
          · rename_i t ht1 ht2
            obtain ⟨p, hp, rfl⟩ := Option.map_eq_some_iff.1 h
            obtain ⟨v, s2⟩ := p
            obtain ⟨tx, htx1, htx2⟩ := Option.bind_eq_some_iff.1 ht2
            obtain ⟨E', cv, w', hle, hcv, hW', hr⟩ := appendA_ok (P := P) (tx := tx) (ty := type) hW hvy hvz (.inr htx2) hp
            refine ⟨E', cv, w', _, hle, hcv, hW', ?_, .inl rfl⟩
            have hsame : ∀ w, (Builtin.append_ argTypes type #[cy, cz]).run P w = (Builtin.append_ #[t, tx] type #[cy, cz]).run P w := by
              intro w; simp only [Builtin.append_, ht1, htx1]; rfl
            simp only [execOp, resolve, he, Sem.run_bind, Sem.run_pure, Result.andThen_ok, invoke, builtin, hsame, hr]
          · cases h
        · cases h
      all_goals (simp [heapA] at h)
  all_goals (simp [heapA] at h)
end Go.Proofs.YtmpheeanjjfddaaDoor.AM
