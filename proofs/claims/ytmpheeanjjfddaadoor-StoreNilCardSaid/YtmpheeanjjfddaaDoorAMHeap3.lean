/- The small machine's appends and all its heap operations answer as the model's do. -/
import Derived.Test.YtmpheeanjjfddaaDoorAMHeap2
namespace Go.Proofs.YtmpheeanjjfddaaDoor.AM
open Go Go.RowKit
set_option linter.unusedVariables false
set_option linter.unusedSimpArgs false
variable {P : Program} {E : Env} {tm : Tm} {a : Act} {o : Oper} {v : AV} {base : Nat} {w0 w : World} {s : St}

theorem kill_or (l off q m : Nat) (o : AO) : kill l off q m o = o ∨ kill l off q m o = .dead := by
  unfold kill
  split
  · split
    · exact .inr rfl
    · exact .inl rfl
  · exact .inl rfl
theorem row_kill_write (hW : WR E base w0 s.H w) {n b N off q : Nat} {vs : List AV} {t l : Nat} {arr arr2 : Array Value} (hq : hget s.H q = none) (hn : hget s.H n = some (.row vs t l)) (hG : E.G n = some (b, N)) (harr : w.heap[b]? = some (.cells arr t (0, 0)))
    (hsz : arr2.size = arr.size) (hpre : arr2.toList.take off = arr.toList.take off) : WR E base w0 (hmap (kill l off q) s.H) (w.setRow b arr2) := by
  obtain ⟨hb, hlt, arr', h1, hN, hle, hvs⟩ := hW.live n _ b N hn hG
  rw [harr] at h1
  have harr' : arr' = arr := by injection h1 with h1; injection h1 with h1; exact h1.symm
  subst harr'
  have hnew := setRow_heap w b arr' arr2 t (0, 0) harr
  have hcond : ∀ m o', hget (hmap (kill l off q) s.H) m = some o' → ∃ o, hget s.H m = some o ∧ o' = kill l off q m o := by
    intro m o' hm
    rw [hget_hmap] at hm
    obtain ⟨o, ho, rfl⟩ := Option.map_eq_some_iff.1 hm
    exact ⟨o, ho, rfl⟩
  refine hW.write (b := b) hb (setRow_size _ _ _) rfl rfl rfl (fun k hk => setRow_other w b k arr2 hk) ?_ ?_ ?_ ?_
  · intro m hm
    rw [hget_hmap] at hm; simpa using hm
  · intro m o' hm
    obtain ⟨o, ho, rfl⟩ := hcond m o' hm
    refine ⟨o, ho, ?_⟩
    rcases kill_or l off q m o with h | h
    · exact .inr (.inl h)
    · exact .inl h
  · intro m o' M hm hGm
    obtain ⟨o, ho, rfl⟩ := hcond m o' hm
    have hmq : m ≠ q := by rintro rfl; rw [ho] at hq; cases hq
    have hrow : ∀ vm tm' , o = .row vm tm' l → OR E (kill l off q m o) b M (w.setRow b arr2) := by
      rintro vm tm' rfl
      simp only [kill]
      split
      · trivial
      · rename_i hc
        have hlen : vm.length ≤ off := by
          simp only [Bool.and_eq_true, Nat.beq_eq, Nat.blt_eq, Bool.not_eq_true', not_and] at hc
          by_cases hh : off < vm.length
          · have h3 := hc ⟨by simp, hh⟩
            have h4 : Nat.beq m q = false := by
              cases hb : Nat.beq m q
              · rfl
              · exact absurd (Nat.eq_of_beq_eq_true hb) hmq
            exact absurd h4 h3
          · omega
        obtain ⟨_, _, arrm, g1, g2, g3, g4⟩ := hW.live m _ b M ho hGm
        rw [harr] at g1
        have e1 : arr' = arrm ∧ t = tm' := by injection g1 with g1; injection g1 with g1 g5; exact ⟨g1, g5⟩
        obtain ⟨rfl, rfl⟩ := e1
        refine ⟨arr2, hnew, by omega, g3, ?_⟩
        have : arr2.toList.take vm.length = arr'.toList.take vm.length := by
          have := congrArg (List.take vm.length) hpre
          rwa [List.take_take, List.take_take, Nat.min_eq_left hlen] at this
        rw [this]; exact g4
    by_cases hmn : m = n
    · subst hmn
      rw [hn] at ho; cases ho
      exact hrow _ _ rfl
    · rcases hW.kin m n o _ b M N ho hn hmn hGm hG with rfl | h | ⟨l', hl1, hl2⟩
      · simp [kill, OR]
      · cases h
      · simp only [lin, Option.some.injEq] at hl2
        subst hl2
        cases o with
        | row vm tm' lm => simp only [lin, Option.some.injEq] at hl1; subst hl1; exact hrow _ _ rfl
        | _ => simp [lin] at hl1
  · intro m o' c M hm hGm hc
    obtain ⟨o, ho, rfl⟩ := hcond m o' hm
    exact ⟨o, ho, kill_or l off q m o⟩
theorem WR.alias {H : Hp} (h : WR E base w0 H w) {q : Nat} (hq : hget H q = none) {b N : Nat} (hb : base ≤ b) (hlt : b < w.heap.size) (o : AO) (ho : OR (E.set q b N) o b N w)
    (hk : ∀ m p M, hget H m = some p → E.G m = some (b, M) → Kin p o) : WR (E.set q b N) base w0 (hset H q o) w := by
  have hle : E.le (E.set q b N) := Env.le_set (h.dom q hq)
  refine ⟨h.below, h.big, ?_, ?_, ?_⟩
  · intro m p c M hm hG
    rw [hget_hset] at hm
    by_cases hmn : m = q
    · subst hmn
      simp only [if_pos trivial, Option.some.injEq] at hm
      subst hm
      simp only [Env.set, if_pos trivial, Option.some.injEq, Prod.mk.injEq] at hG
      obtain ⟨rfl, rfl⟩ := hG
      exact ⟨hb, hlt, ho⟩
    · rw [if_neg hmn] at hm
      simp only [Env.set, if_neg hmn] at hG
      obtain ⟨h1, h2, h3⟩ := h.live m p c M hm hG
      exact ⟨h1, h2, OR_mono hle h3⟩
  · intro m hm
    rw [hget_hset] at hm
    by_cases hmn : m = q
    · subst hmn; simp at hm
    · rw [if_neg hmn] at hm
      simp only [Env.set, if_neg hmn]
      exact h.dom m hm
  · intro m k p r c M K hm hk' hne hGm hGk
    rw [hget_hset] at hm hk'
    by_cases hmn : m = q
    · subst hmn
      have hkn : ¬ k = m := fun e => hne e.symm
      rw [if_neg hkn] at hk'
      simp only [if_pos trivial, Option.some.injEq] at hm
      subst hm
      simp only [Env.set, if_pos trivial, if_neg hkn, Option.some.injEq, Prod.mk.injEq] at hGm hGk
      obtain ⟨rfl, rfl⟩ := hGm
      exact (hk k r K hk' hGk).symm
    · by_cases hkn : k = q
      · subst hkn
        rw [if_neg hmn] at hm
        simp only [if_pos trivial, Option.some.injEq] at hk'
        subst hk'
        simp only [Env.set, if_pos trivial, if_neg hmn, Option.some.injEq, Prod.mk.injEq] at hGm hGk
        obtain ⟨rfl, rfl⟩ := hGk
        exact hk m p M hm hGm
      · rw [if_neg hmn] at hm
        rw [if_neg hkn] at hk'
        simp only [Env.set, if_neg hmn, if_neg hkn] at hGm hGk
        exact h.kin m k p r c M K hm hk' hne hGm hGk

theorem from_ok (hW : WR E base w0 s.H w) {x : AV} {cx : Value} (hx : VR E x cx) {t : TypeId} {sz n : Nat} {new : List AV} (ht : (∃ e, P.underlying t = some (.slice e)) ∨ P.underlying t = some .string) (hl : lenA x = some n) (hc : sliceCells x s = some new) (hn : new.length = n * sz) :
    ∃ news, VRs E new news ∧ From P t sz n cx news w := by
  have hd : ∃ d, P.underlying t = some d ∧ ((∃ e, d = .slice e) ∨ d = .string) := by
    rcases ht with ⟨e, he⟩ | he
    · exact ⟨_, he, .inl ⟨e, rfl⟩⟩
    · exact ⟨_, he, .inr rfl⟩
  unfold sliceCells at hc
  split at hc
  · cases hc
    simp only [VR] at hx; subst hx
    simp only [lenA, Option.some.injEq] at hl; subst hl
    exact ⟨[], VRs_nil, hd, fun w' => by simp [Builtin.lenOf], fun w' _ => by simp [Builtin.firstCells]⟩
  · cases hc
    simp only [VR] at hx; obtain ⟨ad, c, rfl⟩ := hx
    simp only [lenA, Option.some.injEq] at hl; subst hl
    exact ⟨[], VRs_nil, hd, fun w' => by simp [Builtin.lenOf], fun w' _ => by simp [Builtin.firstCells, loadCells, loadCellsFrom]⟩
  · rename_i m off len sz'
    split at hc
    · rename_i vs hvs
      split at hc
      · rename_i hle
        cases hc
        simp only [VR] at hx
        obtain ⟨b, N, c, hG, rfl, hlc, hN⟩ := hx
        simp only [lenA, Option.some.injEq] at hl; subst hl
        obtain ⟨arr, ty, h1, h2, h3, h4⟩ := cells_of hW hvs hG
        have hV : VRs E ((vs.drop off).take (len * sz')) ((arr.toList.drop off).take (len * sz')) := by
          have h5 := VRs_take (len * sz') (VRs_drop off h4)
          have e : ((arr.toList.take vs.length).drop off).take (len * sz') = (arr.toList.drop off).take (len * sz') := by
            rw [List.drop_take, List.take_take, Nat.min_eq_left (by omega)]
          rwa [e] at h5
        have hlen := VRs_length _ _ hV
        refine ⟨_, hV, hd, fun w' => by simp [Builtin.lenOf], fun w' hw => ?_⟩
        refine run_firstCells_some (P := P) w' sz len ⟨b, off, none⟩ len c _ (by omega) (fun j v hj => ?_)
        rw [addr_add, cell_at (hw ▸ h1)]
        have hjk : j < len * sz' := by
          have := (List.getElem?_eq_some_iff.1 hj).1
          simp at this; omega
        rw [List.getElem?_take, if_pos hjk, List.getElem?_drop] at hj
        simpa using hj
      · cases hc
    · cases hc
  · rename_i l
    cases hc
    simp only [VR] at hx
    obtain ⟨rfl, hlt⟩ := hx
    simp only [lenA, Option.some.injEq] at hl; subst hl
    refine ⟨((BS l).data.map fun b => Value.int .u8 (b.toNat : Int)).toList, ?_, hd, fun w' => by simp [Builtin.lenOf, BS_size], fun w' _ => ?_⟩
    · simp only [BS, List.map_toArray, List.map_map]
      clear hn hd ht
      induction l with
      | nil => simp [VRs]
      | cons b r ih =>
        simp only [List.map_cons]
        refine VRs_cons ?_ (ih (fun x hx => hlt x (by simp [hx])))
        simp only [VR, Function.comp, UInt8.toNat_ofNat', Nat.mod_eq_of_lt (hlt b (by simp))]
        rfl
    · have : (BS l).extract 0 l.length = BS l := by
        rw [← BS_size l]
        exact ByteArray.extract_zero_size
      simp only [Builtin.firstCells, this, Sem.run_pure]
  · cases hc
theorem run_append_zero {t tx ty e : TypeId} {i : TypeInfo} (ht : P.underlying t = some (.slice e)) (hi : P.info? e = some i) {ad : Addr} {len cap : Nat} {x : Value} (hs : From P tx i.size 0 x [] w) (hroom : len ≤ cap) :
    (Builtin.append_ #[t, tx] ty #[.slice (some ad) len cap, x]).run P w = .ok (.slice (some ad) len cap) w := by
  obtain ⟨⟨d, hd, hk⟩, hl, hc⟩ := hs
  rcases hk with ⟨e', rfl⟩ | rfl <;> simp [Builtin.append_, run_underlying ht, run_underlying hd, sizeOf, typeInfo, hi, hl, hroom, hc w rfl, storeCells]
theorem appendA_ok (hW : WR E base w0 s.H w) {t tx ty : TypeId} {sv x v : AV} {csv cx : Value} {s' : St} (hsv : VR E sv csv) (hx : VR E x cx) (ht : (∃ e, P.underlying tx = some (.slice e)) ∨ P.underlying tx = some .string)
    (h : appendA P t sv x s = some (v, s')) : ∃ E' cv w', E.le E' ∧ VR E' v cv ∧ WR E' base w0 s'.H w' ∧ (Builtin.append_ #[t, tx] ty #[csv, cx]).run P w = .ok cv w' := by
  unfold appendA at h
  split at h
  · rename_i e hu
    split at h
    · rename_i sz z by_ n new hsz hz hby hl hc
      split at h
      · rename_i hcond
        obtain ⟨hnl, hone, hzl, hb⟩ := hcond
        have hsz0 := hsz
        unfold sizeA at hsz0
        obtain ⟨i, hi, hisz⟩ := Option.map_eq_some_iff.1 hsz0
        have hby' : i.bytes = by_ := by
          rw [hi] at hby; simpa using hby
        unfold zeroA at hz
        obtain ⟨cz, hcz, hzz⟩ := Option.bind_eq_some_iff.1 hz
        rw [hi] at hcz
        simp only [Option.bind_some] at hcz
        have hvz : VR E z cz := ofV_ok hzz
        have hzsz : cz.cells.size = sz := by
          have := VRs_length _ _ (cells_ok hvz)
          simp at this; omega
        subst hisz
        obtain ⟨news, hV, hF⟩ := from_ok (P := P) hW hx ht hl hc hnl
        have hnewslen := VRs_length _ _ hV
        have h1c := all_one hone hV
        split at h
        · rename_i hn0
          subst hn0
          have hnews : news = [] := List.eq_nil_of_length_eq_zero (by omega)
          subst hnews
          split at h
          · cases h
            simp only [VR] at hsv; subst hsv
            exact ⟨E, _, w, Env.le_refl E, by simp only [VR], hW, run_append_nil0 hu hi hF⟩
          · cases h
            have hsv' := hsv
            simp only [VR] at hsv'
            obtain ⟨b, N, c, hG, rfl, hlc, hN⟩ := hsv'
            exact ⟨E, _, w, Env.le_refl E, hsv, hW, run_append_zero hu hi hF hlc⟩
          · cases h
        · rename_i hn0
          split at h
          · -- a nil slice
            split at h
            · rename_i hbig
              split at h
              · rename_i nm s2 hal
                cases h
                simp only [VR] at hsv; subst hsv
                have hg := grown_ge w (0 + n) 0 e
                have hrun := run_append_more (P := P) (t := t) (tx := tx) (ty := ty) (w := w) hu hi hcz (ob := none) (len := 0) (cap := 0) (olds := []) hF (fun w' _ => by simp [Builtin.firstCells]) (by omega) (by omega) (by omega)
                have harr : ((#[] : Array Value) ++ news.toArray ++ Builtin.zeroCells cz.cells (grownCap w (0 + n) 0 e - (0 + n))).size = grownCap w (0 + n) 0 e * i.size := by
                  simp only [Array.size_append, size_zeroCells, hzsz, List.size_toArray, List.length_nil]
                  rw [hnewslen, hnl, Nat.sub_mul]
                  have := Nat.mul_le_mul_right i.size hg
                  simp only [Nat.zero_add] at this ⊢
                  omega
                obtain ⟨E', hle, hv', hW'⟩ := new_row (s := s) hW.drew (sz := i.size) (arr := (#[] : Array Value) ++ news.toArray ++ Builtin.zeroCells cz.cells (grownCap w (0 + n) 0 e - (0 + n))) n (grownCap w (0 + n) 0 e) hal
                  (by rw [harr, hnl]; simp only [Nat.zero_add] at hg ⊢; exact Nat.mul_le_mul_right _ hg)
                  (by
                    have : (((#[] : Array Value) ++ news.toArray ++ Builtin.zeroCells cz.cells (grownCap w (0 + n) 0 e - (0 + n))).toList.take new.length) = news := by
                      simp only [Array.toList_append, List.nil_append]
                      rw [← hnewslen]
                      simp
                    rw [this]; exact hV)
                  (by rw [harr]; exact Nat.le_refl _) (by omega)
                refine ⟨E', _, _, hle, hv', hW', ?_⟩
                rw [hrun]
                simp only [Nat.zero_add]
                rfl
              · cases h
            · cases h
          · rename_i m len sz'
            split at h
            · rename_i hcc
              obtain ⟨rfl, hbig⟩ := hcc
              simp only [VR] at hsv
              obtain ⟨b, N, c, hG, rfl, hlc, hN⟩ := hsv
              unfold growA at h
              split at h
              · rename_i vs t' l hm
                split at h
                · rename_i hte
                  obtain ⟨rfl, hle⟩ := hte
                  split at h
                  · rename_i nm s2 hal
                    cases h
                    obtain ⟨hbb, hlt, arr, g1, g2, g3, g4⟩ := hW.live m _ b N hm hG
                    obtain ⟨hq, hH2, hnm⟩ := St.alloc_ok hal
                    simp only at hq hH2 hnm
                    subst hnm
                    have hq0 : hget s.H s.nx = none := by
                      rw [hget_hmap] at hq; simpa using hq
                    have hmul : (len + n) * i.size = len * i.size + n * i.size := Nat.add_mul _ _ _
                    by_cases hroom : len + n ≤ c
                    · -- there is room
                      have hfit : len * i.size + news.length ≤ arr.size := by
                        have := Nat.mul_le_mul_right i.size hroom
                        omega
                      have hrun := run_append_in (P := P) (t := t) (tx := tx) (ty := ty) hu hi hF g1 hroom hfit h1c
                      have hal' : arr.toList.length = arr.size := by simp
                      have hW1 := row_kill_write (arr2 := (arr.toList.take (len * i.size) ++ news ++ arr.toList.drop (len * i.size + news.length)).toArray) hW hq0 hm hG g1 (by simp; omega)
                        (off := len * i.size) (by simp only [List.append_assoc]; rw [List.take_append_of_le_length (by simp; omega), List.take_take, Nat.min_self])
                      refine ⟨E.set s.nx b N, _, _, Env.le_set (hW.dom _ hq0), ?_, ?_, hrun⟩
                      · simp only [VR]; exact ⟨b, N, c, Env.get_set _ _ _ _, rfl, hroom, by omega⟩
                      · rw [hH2]
                        refine hW1.alias hq hbb (by rw [setRow_size]; exact hlt) _ ?_ ?_
                        · refine ⟨_, setRow_heap w b arr _ _ (0, 0) g1, by simp; omega, by simp; omega, ?_⟩
                          refine VRs_mono (Env.le_set (hW.dom _ hq0)) _ _ ?_
                          have e1 : (vs.take (len * i.size) ++ new).length = len * i.size + news.length := by simp; omega
                          rw [e1]
                          have e2 : (arr.toList.take (len * i.size) ++ news ++ arr.toList.drop (len * i.size + news.length)).take (len * i.size + news.length) = arr.toList.take (len * i.size) ++ news := by
                            rw [List.take_append_of_le_length (by simp; omega), List.take_of_length_le (by simp; omega)]
                          simp only [e2]
                          refine VRs_append ?_ hV
                          have := VRs_take (len * i.size) g4
                          rwa [List.take_take, Nat.min_eq_left hle] at this
                        · intro k p M hk hGk
                          rw [hget_hmap] at hk
                          obtain ⟨p0, hp0, rfl⟩ := Option.map_eq_some_iff.1 hk
                          rcases kill_or l (len * i.size) s.nx k p0 with hh | hh
                          · rw [hh]
                            by_cases hkm : k = m
                            · subst hkm; rw [hm] at hp0; cases hp0; exact .inr (.inr ⟨l, rfl, rfl⟩)
                            · rcases hW.kin k m p0 _ b M N hp0 hm hkm hGk hG with h | h | ⟨l', h1, h2⟩
                              · exact .inl h
                              · cases h
                              · simp only [lin, Option.some.injEq] at h2; subst h2; exact .inr (.inr ⟨l, h1, rfl⟩)
                          · exact .inl hh
                    · -- a new block
                      have hg := grown_ge w (len + n) c t'
                      have hrun := run_append_more (P := P) (t := t) (tx := tx) (ty := ty) (w := w) hu hi hcz (ob := some ⟨b, 0, none⟩) (len := len) (cap := c) (olds := arr.toList.take (len * i.size)) hF
                        (fun w' hw => run_firstCells_some (P := P) w' i.size len ⟨b, 0, none⟩ len c _ (by simp; omega) (fun j v hj => by
                          rw [addr_add, cell_at (hw ▸ g1)]
                          have hjk : j < len * i.size := by
                            have := (List.getElem?_eq_some_iff.1 hj).1
                            simp at this; omega
                          rw [List.getElem?_take, if_pos hjk] at hj
                          simpa using hj)) (by omega) hbig (by omega)
                      have hW1 := row_kill_write (arr2 := arr) hW hq0 hm hG g1 rfl (off := len * i.size) rfl
                      rw [setRow_self w b arr _ (0, 0) g1] at hW1
                      have hol : (arr.toList.take (len * i.size)).length = len * i.size := by simp; omega
                      have harr : ((arr.toList.take (len * i.size)).toArray ++ news.toArray ++ Builtin.zeroCells cz.cells (grownCap w (len + n) c t' - (len + n))).size = grownCap w (len + n) c t' * i.size := by
                        simp only [Array.size_append, size_zeroCells, hzsz, List.size_toArray, hol]
                        rw [hnewslen, hnl, Nat.sub_mul]
                        have := Nat.mul_le_mul_right i.size hg
                        omega
                      obtain ⟨E', hle', hv', hW'⟩ := new_row (s := ⟨hmap (kill l (len * i.size) s.nx) s.H, s.nx⟩) hW1.drew (sz := i.size) (arr := (arr.toList.take (len * i.size)).toArray ++ news.toArray ++ Builtin.zeroCells cz.cells (grownCap w (len + n) c t' - (len + n))) (len + n) (grownCap w (len + n) c t') hal
                        (by rw [harr]; simp; have := Nat.mul_le_mul_right i.size hg; omega)
                        (by
                          have e1 : (vs.take (len * i.size) ++ new).length = ((arr.toList.take (len * i.size)) ++ news).length := by simp; omega
                          have : (((arr.toList.take (len * i.size)).toArray ++ news.toArray ++ Builtin.zeroCells cz.cells (grownCap w (len + n) c t' - (len + n))).toList.take (vs.take (len * i.size) ++ new).length) = arr.toList.take (len * i.size) ++ news := by
                            rw [e1]
                            simp only [Array.toList_append]
                            rw [List.take_append_of_le_length (by simp), List.take_of_length_le (by simp)]
                          rw [this]
                          refine VRs_append ?_ hV
                          have := VRs_take (len * i.size) g4
                          rwa [List.take_take, Nat.min_eq_left hle] at this)
                        (by rw [harr]; exact Nat.le_refl _) (by omega)
                      exact ⟨E', _, _, hle', hv', hW', hrun⟩
                  · cases h
                · cases h
              · cases h
            · cases h
          · cases h
      · cases h
    · cases h
  · cases h
end Go.Proofs.YtmpheeanjjfddaaDoor.AM
