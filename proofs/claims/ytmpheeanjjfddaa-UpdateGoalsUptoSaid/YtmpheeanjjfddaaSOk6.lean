/- The heap: appends and maps; all operations together. -/
import Derived.Test.YtmpheeanjjfddaaSOk5
namespace Go.Proofs.Ytmpheeanjjfddaa.SM
open Go Go.RowKit
set_option linter.unusedVariables false
set_option linter.unusedSimpArgs false
variable {P : Program} {E : Env} {tm : Tm} {a : Act} {o : Oper} {v : V} {base : Nat} {w0 w : World} {H : Hp}

theorem flat_nil {vals : List Value} {sz : Nat} (hsz : 0 < sz) (hs : ∀ v ∈ vals, El sz v) (h : vals.length = 0) : flat vals = [] := by
  have := List.eq_nil_of_length_eq_zero h
  subst this; rfl
theorem El_cells {vals : List Value} {sz : Nat} (hs : ∀ v ∈ vals, El sz v) : ∀ c ∈ flat vals, c.oneCell' = true := by
  intro c hc
  obtain ⟨v, hv, hc⟩ := List.mem_flatMap.1 hc
  exact (hs v hv).2 c hc
theorem rowCells_ok : ∀ {l : List V} {vals : List Value}, l.all okEl = true → VRs E l vals → VRs E (rowCells l) (flat vals)
  | [], vals, _, h => by simp only [VRs] at h; subst h; exact VRs_nil
  | x :: l, vals, ho, h => by
    simp only [VRs] at h
    obtain ⟨v, m, rfl, h1, h2⟩ := h
    simp only [List.all_cons, Bool.and_eq_true] at ho
    exact VRs_append (cellsA_ok h1 (by rintro rfl; cases ho.1) (by rintro t rfl; cases ho.1)) (rowCells_ok ho.2 h2)
theorem appE_ok {t tx ty e : TypeId} {sz by_ : Nat} {z : V} {s : V} {cs cx : Value} {l : List V} {vals : List Value} {K : V → Hp → Prop} (hu : P.underlying t = some (.slice e)) (hsz : sizeA P e = some sz) (hby : bytesA P e = some by_) (hb : by_ ≤ 16384) (hz : zeroA P e = some z) (hzl : (cellsA z).length = sz)
    (hW : WR E base w0 H w) (hs : VR E s cs) (hv : VRs E l vals) (hel : ∀ v ∈ vals, El sz v) (hF : From P tx sz vals.length cx (flat vals) w) (h : appE sz e s l H K) :
    ∃ v J D cv w', K v J ∧ E.le D ∧ VR D v cv ∧ WR D base w0 J w' ∧ (Builtin.append_ #[t, tx] ty #[cs, cx]).run P w = .ok cv w' := by
  have hsz0 := hsz
  unfold sizeA at hsz0
  obtain ⟨i, hi, hisz⟩ := Option.map_eq_some_iff.1 hsz0
  subst hisz
  have hby' : i.bytes = by_ := by unfold bytesA at hby; rw [hi] at hby; simpa using hby
  unfold zeroA at hz
  obtain ⟨cz, hcz, hzz⟩ := Option.map_eq_some_iff.1 hz
  rw [hi] at hcz
  simp only [Option.bind_some] at hcz
  have hzsz : cz.cells.size = i.size := by
    have := VRs_length _ _ (cellsA_z (E := E) (cz := cz))
    rw [hzz] at this
    simp at this; omega
  have hlen := VRs_length _ _ hv
  have hfl := flat_len vals (fun v hv => (hel v hv).1)
  have ho := El_cells hel
  -- a new row
  have fresh : ∀ (ob : Option Addr) (len cap : Nat) (olds : List Value) (l0 : List V) (ovals : List Value) (H' : Hp), WR E base w0 H' w → VRs E l0 ovals → (∀ v ∈ ovals, El i.size v) → olds = flat ovals → ovals.length = len → cs = .slice ob len cap →
      (∀ w', w'.heap = w.heap → (Builtin.firstCells i.size len (.slice ob len cap)).run P w' = .ok olds.toArray w') → cap < len + vals.length → len + vals.length ≤ 4294967296 →
      newE H' (.tip ((len + vals.length) * i.size) e) (fun n J => K (.osl n i.size (l0 ++ l)) J) →
      ∃ v J D cv w', K v J ∧ E.le D ∧ VR D v cv ∧ WR D base w0 J w' ∧ (Builtin.append_ #[t, tx] ty #[cs, cx]).run P w = .ok cv w' := by
    rintro ob len cap olds l0 ovals H' hW' hv0 hel0 rfl hol rfl hold hg hbig hnew
    have hrun := run_append_more (P := P) (t := t) (tx := tx) (ty := ty) (w := w) hu hi hcz hF hold hg hbig (by omega)
    have hgr := grown_ge w (len + vals.length) cap e
    have hfo := flat_len ovals (fun v hv => (hel0 v hv).1)
    have hmul : (len + vals.length) * i.size = len * i.size + vals.length * i.size := Nat.add_mul _ _ _
    have harr : ((flat ovals).toArray ++ (flat vals).toArray ++ Builtin.zeroCells cz.cells (grownCap w (len + vals.length) cap e - (len + vals.length))).size = grownCap w (len + vals.length) cap e * i.size := by
      simp only [Array.size_append, size_zeroCells, hzsz, List.size_toArray, hfo, hfl, hol]
      rw [Nat.sub_mul]
      have := Nat.mul_le_mul_right i.size hgr
      omega
    obtain ⟨v, J, D, hK, hle, hvv, hWD⟩ := new_row (cap := grownCap w (len + vals.length) cap e) (arr := (flat ovals).toArray ++ (flat vals).toArray ++ Builtin.zeroCells cz.cells (grownCap w (len + vals.length) cap e - (len + vals.length))) hW'.drew (by rw [List.length_append, hol]) hnew (VRs_append hv0 hv) (by
      intro v hm
      rcases List.mem_append.1 hm with hm | hm
      · exact hel0 v hm
      · exact hel v hm) (by
        rw [flat_append]
        have e1 : (len + vals.length) * i.size = (flat ovals ++ flat vals).length := by rw [List.length_append, hfo, hfl, hol, hmul]
        rw [e1]
        simp only [Array.toList_append]
        rw [List.take_append_of_le_length (by simp), List.take_of_length_le (by simp)]) hgr (by rw [harr]; exact Nat.le_refl _)
    exact ⟨v, J, D, _, _, hK, hle, hvv, hWD, hrun⟩
  -- a new row that may be written
  have freshR : ∀ (ob : Option Addr) (len cap : Nat) (olds : List Value) (l0 : List V) (H' : Hp), WR E base w0 H' w → VRs E l0 olds → olds.length = len * i.size → l.all okEl = true → cs = .slice ob len cap →
      (∀ w', w'.heap = w.heap → (Builtin.firstCells i.size len (.slice ob len cap)).run P w' = .ok olds.toArray w') → cap < len + vals.length → len + vals.length ≤ 4294967296 →
      newE H' (.row (l0 ++ rowCells l) e) (fun n J => K (.sl n 0 (len + vals.length) i.size) J) →
      ∃ v J D cv w', K v J ∧ E.le D ∧ VR D v cv ∧ WR D base w0 J w' ∧ (Builtin.append_ #[t, tx] ty #[cs, cx]).run P w = .ok cv w' := by
    rintro ob len cap olds l0 H' hW' hv0 hol hok rfl hold hg hbig hnew
    have hrun := run_append_more (P := P) (t := t) (tx := tx) (ty := ty) (w := w) hu hi hcz hF hold hg hbig (by omega)
    have hgr := grown_ge w (len + vals.length) cap e
    have hmul : (len + vals.length) * i.size = len * i.size + vals.length * i.size := Nat.add_mul _ _ _
    have harr : (olds.toArray ++ (flat vals).toArray ++ Builtin.zeroCells cz.cells (grownCap w (len + vals.length) cap e - (len + vals.length))).size = grownCap w (len + vals.length) cap e * i.size := by
      simp only [Array.size_append, size_zeroCells, hzsz, List.size_toArray, hfl, hol]
      rw [Nat.sub_mul]
      have := Nat.mul_le_mul_right i.size hgr
      omega
    obtain ⟨n, hn, h⟩ := newE_ok hW'.drew hnew
    have hvv := VRs_append hv0 (rowCells_ok hok hv)
    have hle : E.le (E.new n w.drew.heap.size (olds.toArray ++ (flat vals).toArray ++ Builtin.zeroCells cz.cells (grownCap w (len + vals.length) cap e - (len + vals.length))).size none) := Env.le_new (hW'.dom n hn) (fresh_F hW'.drew)
    have hll : (l0 ++ rowCells l).length = (olds ++ flat vals).length := (VRs_length _ _ hvv).symm
    obtain ⟨_, hG, hWD⟩ := hW'.drew.new hn (.cells (olds.toArray ++ (flat vals).toArray ++ Builtin.zeroCells cz.cells (grownCap w (len + vals.length) cap e - (len + vals.length))) e) (.row (l0 ++ rowCells l) e) (olds.toArray ++ (flat vals).toArray ++ Builtin.zeroCells cz.cells (grownCap w (len + vals.length) cap e - (len + vals.length))).size none ⟨by simp [Env.new], _, heap_new _ _, rfl, by rw [hll]; simp, by
      have e1 : ((olds.toArray ++ (flat vals).toArray ++ Builtin.zeroCells cz.cells (grownCap w (len + vals.length) cap e - (len + vals.length))).toList.take (l0 ++ rowCells l).length) = olds ++ flat vals := by
        rw [hll]
        simp only [Array.toList_append]
        rw [List.take_append_of_le_length (by simp), List.take_of_length_le (by simp)]
      rw [e1]; exact VRs_mono hle _ _ hvv⟩ (fun fs h => by cases h)
    refine ⟨_, _, _, _, _, h, hle, ?_, hWD, hrun⟩
    simp only [VR]
    exact ⟨_, _, _, hG, rfl, hgr, by rw [harr]; simp⟩
  unfold appE at h
  split at h
  · -- nil
    simp only [VR] at hs
    subst hs
    split at h
    · have : vals = [] := List.eq_nil_of_length_eq_zero (by simpa using hlen)
      subst this
      exact ⟨_, _, E, _, w, h, Env.le_refl E, by simp only [VR], hW, run_append_nil0 hu hi hF⟩
    · rename_i x0 r0
      obtain ⟨hbig, h⟩ := h
      rcases h with h | ⟨⟨hok, hone⟩, h⟩
      · refine fresh none 0 0 [] [] [] H hW VRs_nil (by simp) rfl rfl rfl (fun w' _ => by simp [Builtin.firstCells]) (by simp at hlen; omega) (by rw [Nat.zero_add, hlen]; exact hbig) ?_
        rw [Nat.zero_add, hlen]; exact h
      · refine freshR none 0 0 [] [] H hW VRs_nil (by simp) hok rfl (fun w' _ => by simp [Builtin.firstCells]) (by simp at hlen; omega) (by rw [Nat.zero_add, hlen]; exact hbig) ?_
        rw [Nat.zero_add, hlen]; exact h
  · simp only [VR] at hs
    obtain ⟨ad, rfl⟩ := hs
    split at h
    · have : vals = [] := List.eq_nil_of_length_eq_zero (by simpa using hlen)
      subst this
      exact ⟨_, _, E, _, w, h, Env.le_refl E, by simp only [VR]; exact ⟨ad, rfl⟩, hW, run_append_zero hu hi hF (Nat.le_refl _)⟩
    · rename_i x0 r0
      obtain ⟨hbig, h⟩ := h
      rcases h with h | ⟨⟨hok, hone⟩, h⟩
      · refine fresh (some ad) 0 0 [] [] [] H hW VRs_nil (by simp) rfl rfl rfl (fun w' _ => by simp [Builtin.firstCells, loadCells, loadCellsFrom]) (by simp at hlen; omega) (by rw [Nat.zero_add, hlen]; exact hbig) ?_
        rw [Nat.zero_add, hlen]; exact h
      · refine freshR (some ad) 0 0 [] [] H hW VRs_nil (by simp) hok rfl (fun w' _ => by simp [Builtin.firstCells, loadCells, loadCellsFrom]) (by simp at hlen; omega) (by rw [Nat.zero_add, hlen]; exact hbig) ?_
        rw [Nat.zero_add, hlen]; exact h
  · rename_i n z0 l0
    obtain ⟨rfl, h⟩ := h
    have hs' := hs
    simp only [VR] at hs'
    obtain ⟨b, N, c, ovals, rfl, h1, h3, h4, hG, hN⟩ := hs'
    have hol := VRs_length _ _ h4
    split at h
    · have : vals = [] := List.eq_nil_of_length_eq_zero (by simpa using hlen)
      subst this
      exact ⟨_, _, E, _, w, h, Env.le_refl E, hs, hW, run_append_zero hu hi hF h1⟩
    · rename_i x0 r0
      obtain ⟨hbig, htip, h⟩ := h
      rw [← hol] at htip
      have hnlen : vals.length = (x0 :: r0).length := hlen
      obtain ⟨hbb, hlt, ⟨fs, hfs, hfe⟩, arr, g1, g2⟩ := hW.live n _ b N htip hG (by simp)
      have hfo := flat_len ovals (fun v hv => (h3.1 v hv).1)
      have hmul : (ovals.length + vals.length) * i.size = ovals.length * i.size + vals.length * i.size := Nat.add_mul _ _ _
      by_cases hroom : ovals.length + vals.length ≤ c
      · -- there is room
        have hfs2 : fs = flat ovals := by
          by_cases hne : ovals = []
          · subst hne
            have : fs = [] := List.eq_nil_of_length_eq_zero (by simpa using hfe)
            rw [this]; rfl
          · obtain ⟨b', o', he, fs', rest, hb', ho', hd'⟩ := h3.2 hne
            cases he
            rw [hfs] at hb'; cases hb'
            simp only [List.drop_zero] at hd'
            have : rest = [] := by
              have := congrArg List.length hd'
              rw [List.length_append, hfo, hfe] at this
              exact List.eq_nil_of_length_eq_zero (by omega)
            rw [hd', this, List.append_nil]
        have hfit : ovals.length * i.size + (flat vals).length ≤ arr.size := by
          have := Nat.mul_le_mul_right i.size hroom
          omega
        have hrun := run_append_in (P := P) (t := t) (tx := tx) (ty := ty) hu hi hF g1 hroom hfit ho
        obtain ⟨m, hm, h⟩ := newE_ok (hW.die n (by rw [htip]; simp)) h
        have hin : arr.toList.take fs.length = fs := by
          apply List.ext_getElem?
          intro j
          by_cases hj : j < fs.length
          · rw [List.getElem?_take, if_pos hj]
            have := (hW.iced b fs hfs).2 j fs[j] (List.getElem?_eq_getElem hj)
            rw [cell_at g1] at this
            rw [List.getElem?_eq_getElem hj]
            simpa using this
          · rw [List.getElem?_eq_none (by simp; omega), List.getElem?_eq_none (by omega)]
        have hlf : fs.length = ovals.length * i.size := by rw [hfs2, hfo]
        obtain ⟨hle, hWD⟩ := hW.grow (news := flat vals) htip hG hfs hm g1 (arr2 := (arr.toList.take (ovals.length * i.size) ++ flat vals ++ arr.toList.drop (ovals.length * i.size + (flat vals).length)).toArray)
          (by simp; omega) (by
            simp only
            rw [← hlf, hin]
            rw [List.take_append_of_le_length (by simp), List.take_of_length_le (by simp)])
        refine ⟨.osl m i.size (l0 ++ (x0 :: r0)), _, _, _, _, ?_, hle, ?_, hWD, hrun⟩
        · have e1 : fs.length + (flat vals).length = (l0.length + (x0 :: r0).length) * i.size := by rw [hlf, hfl, ← hmul, hol, hnlen]
          rw [e1]; exact h
        · simp only [VR]
          refine ⟨b, N, c, ovals ++ vals, by rw [List.length_append], by rw [List.length_append]; exact hroom, ⟨fun v hm => ?_, fun _ => ⟨b, 0, rfl, fs ++ flat vals, [], by simp, by simp, by simp [flat_append, hfs2]⟩⟩, VRs_mono hle _ _ (VRs_append h4 hv), by simp, hN⟩
          rcases List.mem_append.1 hm with hm | hm
          · exact h3.1 v hm
          · exact hel v hm
      · -- a new block
        refine fresh (some ⟨b, 0, none⟩) ovals.length c (flat ovals) l0 ovals _ (hW.die n (by rw [htip]; simp)) h4 h3.1 rfl rfl rfl (fun w' hw => firstCells_row hW.iced h3 w' hw) (by omega) (by rw [hol, hnlen]; exact hbig) ?_
        rw [hol, hnlen]; exact h
  · rename_i n len z0
    obtain ⟨rfl, h⟩ := h
    have hs' := hs
    simp only [VR] at hs'
    obtain ⟨b, N, c, hG, rfl, h1, hN⟩ := hs'
    split at h
    · have : vals = [] := List.eq_nil_of_length_eq_zero (by simpa using hlen)
      subst this
      exact ⟨_, _, E, _, w, h, Env.le_refl E, hs, hW, run_append_zero hu hi hF h1⟩
    · rename_i x0 r0
      obtain ⟨hbig, hok, hone, vs, hrow, hle0, h⟩ := h
      have hnlen : vals.length = (x0 :: r0).length := hlen
      obtain ⟨hbb, hlt, hFb, arr, g1, g2, g3, g4⟩ := hW.live n _ b N hrow hG (by simp)
      have hmul : (len + vals.length) * i.size = len * i.size + vals.length * i.size := Nat.add_mul _ _ _
      have hpre : VRs E (vs.take (len * i.size)) (arr.toList.take (len * i.size)) := by
        have := VRs_take (len * i.size) g4
        rwa [List.take_take, Nat.min_eq_left hle0] at this
      have htl : (arr.toList.take (len * i.size)).length = len * i.size := by simp; omega
      by_cases hroom : len + vals.length ≤ c
      · have hfit : len * i.size + (flat vals).length ≤ arr.size := by
          have := Nat.mul_le_mul_right i.size hroom
          omega
        have hrun := run_append_in (P := P) (t := t) (tx := tx) (ty := ty) hu hi hF g1 hroom hfit ho
        obtain ⟨m, hm, h⟩ := newE_ok (hW.die n (by rw [hrow]; simp)) h
        have hvv : VRs (E.set m b N) (vs.take (len * i.size) ++ rowCells (x0 :: r0)) (arr.toList.take (len * i.size) ++ flat vals) := by
          have hle : E.le (E.set m b N) := Env.le_set (hW.dom _ (by
            by_cases hmn : m = n
            · subst hmn; rw [Hp.set_same] at hm; cases hm
            · rw [Hp.set_ne _ _ hmn] at hm; exact hm))
          exact VRs_mono hle _ _ (VRs_append hpre (rowCells_ok hok hv))
        obtain ⟨hle, hWD⟩ := hW.rename (o' := .row (vs.take (len * i.size) ++ rowCells (x0 :: r0)) e) hrow (by simp) hG hFb hm (w' := w.setRow b (arr.toList.take (len * i.size) ++ flat vals ++ arr.toList.drop (len * i.size + (flat vals).length)).toArray) (setRow_size _ _ _) rfl rfl rfl (fun k hk => setRow_other w b k _ hk)
          ⟨hFb, _, setRow_heap w b arr _ e (0, 0) g1, by simp; omega, by have := VRs_length _ _ hvv; simp at this ⊢; omega, by
            have e1 : (vs.take (len * i.size) ++ rowCells (x0 :: r0)).length = (arr.toList.take (len * i.size) ++ flat vals).length := (VRs_length _ _ hvv).symm
            rw [e1]
            have e2 : ((arr.toList.take (len * i.size) ++ flat vals ++ arr.toList.drop (len * i.size + (flat vals).length)).toArray.toList.take (arr.toList.take (len * i.size) ++ flat vals).length) = arr.toList.take (len * i.size) ++ flat vals := by
              rw [List.toList_toArray, List.take_append_of_le_length (Nat.le_refl _), List.take_length]
            rw [e2]
            exact hvv⟩
        refine ⟨_, _, _, _, _, h, hle, ?_, hWD, hrun⟩
        simp only [VR]
        exact ⟨b, N, c, Env.get_set _ _ _ _, by rw [hnlen], by rw [← hnlen]; exact hroom, hN⟩
      · refine freshR (some ⟨b, 0, none⟩) len c (arr.toList.take (len * i.size)) (vs.take (len * i.size)) _ (hW.die n (by rw [hrow]; simp)) hpre htl hok rfl ?_ (by omega) (by rw [hnlen]; exact hbig) ?_
        · intro w' hw
          refine run_firstCells_some (P := P) w' i.size len ⟨b, 0, none⟩ len c _ htl (fun j v hj => ?_)
          rw [addr_add, Nat.zero_add, show w'.cell? ⟨b, j, none⟩ = w.cell? ⟨b, j, none⟩ from by simp [World.cell?, hw], cell_at g1]
          have hjk : j < len * i.size := by
            have := (List.getElem?_eq_some_iff.1 hj).1
            omega
          rw [List.getElem?_take, if_pos hjk] at hj
          simpa using hj
        · rw [hnlen]; exact h
  · exact h.elim

/-! maps -/
theorem map_at (hW : WR E base w0 H w) {n b N : Nat} {st : Bool} {es : List (List UInt8 × V)} (hn : H n = some (.map st es)) (hG : E.G n = some (b, N)) : E.F b = none ∧ ∃ (ces : Array MapEntry) (c : Nat), w.heap[b]? = some (.map ces c) ∧ Rise es ∧ (∃ m, m.Perm ces.toList ∧ ERs E es m) ∧ (ces.toList.map (·.born)).Nodup ∧ (∀ x ∈ ces.toList, x.born < c) ∧ ∀ k s, E.S b k = some s → st = true ∧ ∃ x ∈ ces.toList, x.key = .string (B k) ∧ x.born = s :=
  (hW.live n _ b N hn hG (by simp)).2.2
theorem B_eqb (a b : List UInt8) : (B a == B b) = (a == b) := by rw [B_beq, beqL]
/-- Keys of entries. -/
theorem ERs_key : ∀ (es : List (List UInt8 × V)) (m : List MapEntry), ERs E es m → ∀ x ∈ m, ∃ e ∈ es, x.key = .string (B e.1) ∧ VR E e.2 x.val
  | [], m, h, x, hx => by simp only [ERs] at h; subst h; simp at hx
  | (k, v) :: r, m, h, x, hx => by
    obtain ⟨y, m', rfl, h1, h2, h3⟩ := h
    rcases List.mem_cons.1 hx with rfl | hx
    · exact ⟨(k, v), by simp, h1, h2⟩
    · obtain ⟨e, he, h⟩ := ERs_key r m' h3 x hx
      exact ⟨e, List.mem_cons_of_mem _ he, h⟩
theorem ERs_mem : ∀ (es : List (List UInt8 × V)) (m : List MapEntry), ERs E es m → ∀ e ∈ es, ∃ x ∈ m, x.key = .string (B e.1) ∧ VR E e.2 x.val
  | [], m, h, e, he => by simp at he
  | (k, v) :: r, m, h, e, he => by
    obtain ⟨y, m', rfl, h1, h2, h3⟩ := h
    rcases List.mem_cons.1 he with rfl | he
    · exact ⟨y, by simp, h1, h2⟩
    · obtain ⟨x, hx, h⟩ := ERs_mem r m' h3 e he
      exact ⟨x, List.mem_cons_of_mem _ hx, h⟩
theorem rise_inj {es : List (List UInt8 × V)} (h : Rise es) {x y : List UInt8 × V} (hx : x ∈ es) (hy : y ∈ es) (he : x.1 = y.1) : x = y := by
  induction es with
  | nil => cases hx
  | cons z r ih =>
    obtain ⟨h1, h2⟩ := List.pairwise_cons.1 h
    rcases List.mem_cons.1 hx with ex | hx <;> rcases List.mem_cons.1 hy with ey | hy
    · rw [ex, ey]
    · have := h1 y hy; rw [← ex, he] at this; exact absurd this (List.lt_irrefl _)
    · have := h1 x hx; rw [← ey, ← he] at this; exact absurd this (List.lt_irrefl _)
    · exact ih h2 hx hy
theorem nodup_inj {α β : Type} {f : α → β} : ∀ {l : List α}, (l.map f).Nodup → ∀ {x y : α}, x ∈ l → y ∈ l → f x = f y → x = y
  | [], _, x, y, hx, _, _ => by cases hx
  | z :: r, h, x, y, hx, hy, he => by
    simp only [List.map_cons, List.nodup_cons] at h
    rcases List.mem_cons.1 hx with ex | h1 <;> rcases List.mem_cons.1 hy with ey | h2
    · exact ex.trans ey.symm
    · exact absurd (List.mem_map.2 ⟨y, h2, by rw [← he, ex]⟩) h.1
    · exact absurd (List.mem_map.2 ⟨x, h1, by rw [he, ey]⟩) h.1
    · exact nodup_inj h.2 h1 h2 he
theorem ERs_keys : ∀ (es : List (List UInt8 × V)) (m : List MapEntry), ERs E es m → m.map (·.key) = es.map fun e => Value.string (B e.1)
  | [], m, h => by simp only [ERs] at h; subst h; rfl
  | (k, v) :: r, m, h => by
    obtain ⟨y, m', rfl, h1, h2, h3⟩ := h
    simp [h1, ERs_keys r m' h3]
theorem keys_nodup {es : List (List UInt8 × V)} (h : Rise es) : (es.map fun e => Value.string (B e.1)).Nodup := by
  induction es with
  | nil => simp
  | cons e r ih =>
    obtain ⟨h1, h2⟩ := List.pairwise_cons.1 h
    simp only [List.map_cons, List.nodup_cons]
    refine ⟨fun hm => ?_, ih h2⟩
    obtain ⟨y, hy, he⟩ := List.mem_map.1 hm
    have hk : B y.1 = B e.1 := by injection he
    have := h1 y hy
    rw [B_inj hk] at this
    exact List.lt_irrefl _ this
theorem sameNow_B (a b : List UInt8) : Instr.sameNow .string (.string (B a)) (.string (B b)) = some (decide (a = b)) := by simp only [Instr.sameNow, B_beq]
theorem find_none (k : List UInt8) : ∀ (ces : List MapEntry) (i : Nat), (∀ x ∈ ces, ∃ s, x.key = .string (B s) ∧ k ≠ s) → Instr.findNow .string (.string (B k)) ces i = some none
  | [], i, h => rfl
  | x :: r, i, h => by
    obtain ⟨s, hs, hne⟩ := h x (by simp)
    simp only [Instr.findNow, hs, sameNow_B, hne, decide_false]
    exact find_none k r (i + 1) (fun y hy => h y (by simp [hy]))
theorem find_some (k : List UInt8) : ∀ (ces : List MapEntry) (i : Nat) (x : MapEntry), (∀ y ∈ ces, ∃ s, y.key = .string (B s)) → x ∈ ces → x.key = .string (B k) → (∀ y ∈ ces, y.key = .string (B k) → y = x) →
    ∃ j, ces[j]? = some x ∧ Instr.findNow .string (.string (B k)) ces i = some (some (i + j, x.val))
  | [], i, x, h, hx, _, _ => by cases hx
  | y :: r, i, x, h, hx, hk, hu => by
    obtain ⟨s, hs⟩ := h y (by simp)
    by_cases he : k = s
    · subst he
      have := hu y (by simp) hs
      subst this
      exact ⟨0, rfl, by simp only [Instr.findNow, hs, sameNow_B, decide_true]; rfl⟩
    · rcases List.mem_cons.1 hx with rfl | hx
      · rw [hs] at hk
        have : B s = B k := by injection hk
        exact absurd (B_inj this).symm he
      · obtain ⟨j, hj, hf⟩ := find_some k r (i + 1) x (fun y hy => h y (by simp [hy])) hx hk (fun y hy => hu y (by simp [hy]))
        refine ⟨j + 1, by simpa using hj, ?_⟩
        simp only [Instr.findNow, hs, sameNow_B, he, decide_false]
        rw [hf]
        congr 3
        omega
/-- What a map's block says of a key. -/
theorem look_ok {k : List UInt8} {es : List (List UInt8 × V)} {m ces : List MapEntry} (hr : Rise es) (hp : m.Perm ces) (he : ERs E es m) :
    (getK k es = none ∧ (∀ e ∈ es, e.1 ≠ k) ∧ ∀ i, Instr.findNow .string (.string (B k)) ces i = some none) ∨
    (∃ v x j, getK k es = some v ∧ (k, v) ∈ es ∧ x ∈ ces ∧ x.key = .string (B k) ∧ VR E v x.val ∧ ces[j]? = some x ∧ ∀ i, Instr.findNow .string (.string (B k)) ces i = some (some (i + j, x.val))) := by
  have hstr : ∀ y ∈ ces, ∃ e ∈ es, y.key = .string (B e.1) ∧ VR E e.2 y.val := fun y hy => ERs_key es m he y (hp.mem_iff.2 hy)
  have hnd : (ces.map (·.key)).Nodup := (hp.map (·.key)).nodup_iff.1 (by rw [ERs_keys es m he]; exact keys_nodup hr)
  by_cases hk : ∃ e ∈ es, e.1 = k
  · obtain ⟨⟨k', v⟩, hm, rfl⟩ := hk
    right
    obtain ⟨x, hx, hxk, hxv⟩ := ERs_mem es m he _ hm
    have hx2 := hp.mem_iff.1 hx
    have hu : ∀ y ∈ ces, y.key = .string (B k') → y = x := fun y hy hyk => nodup_inj hnd hy hx2 (hyk.trans hxk.symm)
    obtain ⟨j, hj, _⟩ := find_some k' ces 0 x (fun y hy => by obtain ⟨e, _, h, _⟩ := hstr y hy; exact ⟨_, h⟩) hx2 hxk hu
    refine ⟨v, x, j, ?_, hm, hx2, hxk, hxv, hj, fun i => ?_⟩
    · unfold getK
      cases hf : es.find? (fun e => e.1 == k') with
      | none => have := List.find?_eq_none.1 hf _ hm; simp at this
      | some y =>
        have h1 := List.mem_of_find?_eq_some hf
        have h2 := List.find?_some hf
        have := rise_inj hr h1 hm (by simpa using h2)
        subst this; rfl
    · obtain ⟨j', hj', hf'⟩ := find_some k' ces i x (fun y hy => by obtain ⟨e, _, h, _⟩ := hstr y hy; exact ⟨_, h⟩) hx2 hxk hu
      have : j' = j := by
        have h1 := (List.getElem?_eq_some_iff.1 hj').1
        have h2 := (List.getElem?_eq_some_iff.1 hj).1
        refine (List.getElem_inj (xs := ces.map (·.key)) (h₀ := by simpa using h1) (h₁ := by simpa using h2) hnd).1 ?_
        simp only [List.getElem_map]
        rw [(List.getElem?_eq_some_iff.1 hj').2, (List.getElem?_eq_some_iff.1 hj).2]
      subst this; exact hf'
  · left
    have hne : ∀ e ∈ es, e.1 ≠ k := fun e he h => hk ⟨e, he, h⟩
    refine ⟨?_, hne, fun i => find_none k ces i (fun x hx => ?_)⟩
    · unfold getK
      rw [List.find?_eq_none.2 (fun e he => by simpa using hne e he)]; rfl
    · obtain ⟨e, he, h, _⟩ := hstr x hx
      exact ⟨_, h, fun hh => hne e he hh.symm⟩
theorem ERs_del (k : List UInt8) : ∀ (es : List (List UInt8 × V)) (m : List MapEntry), ERs E es m → ∃ m0, ERs E (delK k es) m0 ∧ m0 = m.filter (fun x => match x.key with | .string s => !(s == B k) | _ => true)
  | [], m, h => by simp only [ERs] at h; subst h; exact ⟨[], rfl, rfl⟩
  | (j, v) :: r, m, h => by
    obtain ⟨y, m', rfl, h1, h2, h3⟩ := h
    obtain ⟨m0, h4, h5⟩ := ERs_del k r m' h3
    by_cases hj : j = k
    · subst hj
      refine ⟨m0, by simpa [delK] using h4, ?_⟩
      rw [List.filter_cons]
      simp [h1, h5, B_beq]
    · refine ⟨y :: m0, ?_, ?_⟩
      · have e1 : delK k ((j, v) :: r) = (j, v) :: delK k r := by simp [delK, hj]
        rw [e1]
        exact ⟨y, m0, rfl, h1, h2, h4⟩
      · rw [List.filter_cons]
        simp [h1, h5, B_beq, hj]
theorem ERs_ins {k : List UInt8} {v : V} {y : MapEntry} (hk : y.key = .string (B k)) (hv : VR E v y.val) : ∀ (es : List (List UInt8 × V)) (m : List MapEntry), ERs E es m → ∃ m1, ERs E (insK k v es) m1 ∧ m1.Perm (y :: m)
  | [], m, h => by simp only [ERs] at h; subst h; exact ⟨[y], ⟨y, [], rfl, hk, hv, rfl⟩, List.Perm.refl _⟩
  | (j, u) :: r, m, h => by
    obtain ⟨z, m', rfl, h1, h2, h3⟩ := h
    unfold insK
    split
    · exact ⟨y :: z :: m', ⟨y, _, rfl, hk, hv, z, m', rfl, h1, h2, h3⟩, List.Perm.refl _⟩
    · obtain ⟨m1, h4, h5⟩ := ERs_ins hk hv r m' h3
      exact ⟨z :: m1, ⟨z, m1, rfl, h1, h2, h4⟩, (h5.cons z).trans (List.Perm.swap y z m')⟩
theorem ins_mem (k : List UInt8) (v : V) : ∀ (L : List (List UInt8 × V)) (y : List UInt8 × V), y ∈ insK k v L ↔ y = (k, v) ∨ y ∈ L
  | [], y => by simp [insK]
  | z :: r, y => by
    unfold insK
    split
    · simp
    · simp only [List.mem_cons, ins_mem k v r]; constructor <;> rintro (h | h | h) <;> simp [h]
theorem rise_ins (k : List UInt8) (v : V) : ∀ (L : List (List UInt8 × V)), Rise L → (∀ y ∈ L, y.1 ≠ k) → Rise (insK k v L)
  | [], _, _ => List.pairwise_singleton _ _
  | y :: r, h, hn => by
    obtain ⟨h1, h2⟩ := List.pairwise_cons.1 h
    unfold insK
    split
    · rename_i hl
      exact List.pairwise_cons.2 ⟨fun z hz => by
        rcases List.mem_cons.1 hz with rfl | hz
        · exact hl
        · exact List.lt_trans hl (h1 z hz), h⟩
    · rename_i hl
      refine List.pairwise_cons.2 ⟨fun z hz => ?_, rise_ins k v r h2 (fun z hz => hn z (List.mem_cons_of_mem _ hz))⟩
      rcases (ins_mem k v r z).1 hz with rfl | hz
      · exact lt_of_not hl (fun e => hn y (List.mem_cons_self) e.symm)
      · exact h1 z hz
theorem rise_del {es : List (List UInt8 × V)} (k : List UInt8) (h : Rise es) : Rise (delK k es) := h.filter _
theorem rise_put {es : List (List UInt8 × V)} (k : List UInt8) (v : V) (h : Rise es) : Rise (putK k v es) := by
  refine rise_ins k v _ (rise_del k h) (fun y hy => ?_)
  have := (List.mem_filter.1 hy).2
  simpa using this
theorem mapE_ok {x : V} {cx : Value} {K : List (List UInt8 × V) → Prop} (hW : WR E base w0 H w) (hx : VR E x cx) (h : mapE x H K) :
    ∃ es m ces, K es ∧ Rise es ∧ m.Perm ces.toList ∧ ERs E es m ∧ ((cx = .map none ∧ ces = #[]) ∨ ∃ b c, cx = .map (some b) ∧ w.heap[b]? = some (.map ces c)) := by
  unfold mapE at h
  split at h
  · simp only [VR] at hx
    exact ⟨[], [], #[], h, List.Pairwise.nil, List.Perm.refl _, rfl, .inl ⟨hx, rfl⟩⟩
  · rename_i n
    simp only [VR] at hx
    obtain ⟨b, N, hG, rfl⟩ := hx
    split at h
    · rename_i st es hn
      obtain ⟨_, ces, c, h1, h2, ⟨m, h3, h4⟩, _⟩ := map_at hW hn hG
      exact ⟨es, m, ces, h, h2, h3, h4, .inr ⟨b, c, rfl, h1⟩⟩
    · exact h.elim
  · exact h.elim
theorem checkKey_str (n : Nat) {t : TypeId} (hu : P.underlying t = some .string) (k : ByteArray) (em : Bool) (w : World) : (Instr.checkKey em (n + 1) t (.string k)).run P w = .ok () w := by
  simp only [Instr.checkKey, Sem.run_bind, run_underlying hu, Result.andThen_ok, Sem.run_pure]
theorem check_str {t : TypeId} (hu : P.underlying t = some .string) (k : ByteArray) (em : Bool) (w : World) : (Instr.checkKey em 10000 t (.string k)).run P w = .ok () w := checkKey_str 9999 hu k em w
theorem findKey_run {t : TypeId} (hu : P.underlying t = some .string) {ck : Value} {ces : List MapEntry} {r : Option (Nat × Value)} (h : Instr.findNow .string ck ces 0 = some r) (w : World) : (Instr.findKey t ck ces).run P w = .ok r w := by
  simp only [Instr.findKey, Sem.run_bind, run_underlying hu, Result.andThen_ok, h, Sem.run_pure]
theorem run_getObj {b : Nat} {ces : Array MapEntry} {c : Nat} (hb : w.heap[b]? = some (.map ces c)) : (getObj b).run P w = .ok (.map ces c) w := by simp [getObj, Sem.run, hb]
theorem run_setObj {b : Nat} {ces ces' : Array MapEntry} {c c' : Nat} (hb : w.heap[b]? = some (.map ces c)) : (setObj b (.map ces' c')).run P w = .ok () { w with heap := w.heap.setIfInBounds b (.map ces' c') } := by simp [setObj, Sem.run, hb]
theorem lkE_ok {t kt et : TypeId} {m : V} {cm : Value} {k : List UInt8} {z : V} {cz : Value} {K : V → Bool → Prop} (hu : P.underlying t = some (.map kt et)) (hk : P.underlying kt = some .string) (hz : VR E z cz) (hrz : ∀ w, (zeroValue et).run P w = .ok cz w) (hW : WR E base w0 H w) (hm : VR E m cm) (h : lkE m k z H K) :
    ∃ v r, K v r ∧ ∃ cv, VR E v cv ∧ (Instr.lookup t cm (.string (B k)) true).run P w = .ok (.tuple #[cv, .bool r]) w ∧ (Instr.lookup t cm (.string (B k)) false).run P w = .ok cv w := by
  obtain ⟨es, m', ces, h, hr, hp, he, hcm⟩ := mapE_ok hW hm h
  have hes : ∀ (ok : Bool) (r : Option (Nat × Value)), Instr.findNow .string (.string (B k)) ces.toList 0 = some r → (Instr.lookup t cm (.string (B k)) ok).run P w = .ok (match r with
      | some (_, v) => if ok then .tuple #[v, .bool true] else v
      | none => if ok then .tuple #[cz, .bool false] else cz) w := by
    intro ok r hf
    rcases hcm with ⟨rfl, rfl⟩ | ⟨b, c, rfl, hb⟩
    · cases r with
      | none => simp only [Instr.lookup, Sem.run_bind, run_underlying hu, Result.andThen_ok, Sem.run_pure, check_str hk, findKey_run hk hf, hrz]
      | some r => simp only [Instr.lookup, Sem.run_bind, run_underlying hu, Result.andThen_ok, Sem.run_pure, check_str hk, findKey_run hk hf]
    · cases r with
      | none => simp only [Instr.lookup, Sem.run_bind, run_underlying hu, Result.andThen_ok, Sem.run_pure, run_getObj hb, check_str hk, findKey_run hk hf, hrz]
      | some r => simp only [Instr.lookup, Sem.run_bind, run_underlying hu, Result.andThen_ok, Sem.run_pure, run_getObj hb, check_str hk, findKey_run hk hf]
  rcases look_ok (k := k) hr hp he with ⟨hg, _, hf⟩ | ⟨v, x, j, hg, _, _, _, hv, _, hf⟩
  · rw [hg] at h
    exact ⟨z, false, h, cz, hz, by simpa using hes true none (hf 0), by simpa using hes false none (hf 0)⟩
  · rw [hg] at h
    exact ⟨v, true, h, x.val, hv, by simpa using hes true _ (hf 0), by simpa using hes false _ (hf 0)⟩
theorem modify_split {α : Type} (l : List α) (j : Nat) (x : α) (f : α → α) (h : l[j]? = some x) : ∃ l1 l2, l = l1 ++ x :: l2 ∧ l.modify j f = l1 ++ f x :: l2 := by
  refine ⟨l.take j, l.drop (j + 1), ?_, ?_⟩
  · have hj := (List.getElem?_eq_some_iff.1 h).1
    have := (List.getElem?_eq_some_iff.1 h).2
    rw [← this, ← List.drop_eq_getElem_cons hj, List.take_append_drop]
  · have hj := (List.getElem?_eq_some_iff.1 h).1
    have := (List.getElem?_eq_some_iff.1 h).2
    rw [List.modify_eq_take_cons_drop hj, this]
/-- All entries but those under a key. -/
def notK (k : List UInt8) (x : MapEntry) : Bool := match x.key with
  | .string s => !(s == B k)
  | _ => true
theorem modify_split2 {α : Type} (l : List α) (j : Nat) (x : α) (h : l[j]? = some x) : ∃ l1 l2, l = l1 ++ x :: l2 ∧ ∀ f : α → α, l.modify j f = l1 ++ f x :: l2 := by
  have hj := (List.getElem?_eq_some_iff.1 h).1
  have hx := (List.getElem?_eq_some_iff.1 h).2
  refine ⟨l.take j, l.drop (j + 1), ?_, fun f => ?_⟩
  · rw [← hx, ← List.drop_eq_getElem_cons hj, List.take_append_drop]
  · rw [List.modify_eq_take_cons_drop hj, hx]
/-- The entries but one, where one has the key. -/
theorem map_other {k : List UInt8} {es : List (List UInt8 × V)} {m' : List MapEntry} {ces : Array MapEntry} {x : MapEntry} {j : Nat} (hr : Rise es) (hp : m'.Perm ces.toList) (he : ERs E es m') (hxk : x.key = .string (B k)) (hj : ces.toList[j]? = some x) :
    ∃ l1 l2, ces.toList = l1 ++ x :: l2 ∧ (∀ f, (ces.modify j f).toList = l1 ++ f x :: l2) ∧ ces.toList.filter (notK k) = l1 ++ l2 := by
  obtain ⟨l1, l2, hl, hl2⟩ := modify_split2 ces.toList j x hj
  refine ⟨l1, l2, hl, fun f => by rw [Array.toList_modify, hl2], ?_⟩
  have hother : ∀ y ∈ l1 ++ l2, notK k y = true := by
    have hnk : (ces.toList.map (·.key)).Nodup := (hp.map (·.key)).nodup_iff.1 (by rw [ERs_keys es m' he]; exact keys_nodup hr)
    rw [hl, List.map_append, List.map_cons] at hnk
    intro y hy
    have hys : y ∈ ces.toList := by
      rw [hl]; rcases List.mem_append.1 hy with h | h
      · exact List.mem_append_left _ h
      · exact List.mem_append_right _ (List.mem_cons_of_mem _ h)
    obtain ⟨e, hee, hke, _⟩ := ERs_key es m' he y (hp.mem_iff.2 hys)
    simp only [notK, hke, B_beq, Bool.not_eq_true', decide_eq_false_iff_not]
    intro hek
    have hkk : y.key = x.key := by rw [hke, hxk, hek]
    have h1 := List.nodup_append.1 hnk
    have h2 := List.nodup_cons.1 h1.2.1
    rcases List.mem_append.1 hy with h | h
    · exact h1.2.2 y.key (List.mem_map.2 ⟨y, h, rfl⟩) x.key (by simp) hkk
    · exact h2.1 (List.mem_map.2 ⟨y, h, hkk⟩)
  have hxn : notK k x = false := by simp [notK, hxk, B_beq]
  rw [hl, List.filter_append, List.filter_cons, hxn]
  simp only [Bool.false_eq_true, if_false]
  rw [← List.filter_append, List.filter_eq_self.2 hother]
/-- One entry has a key. -/
theorem key_one {k : List UInt8} {es : List (List UInt8 × V)} {m' : List MapEntry} {ces : Array MapEntry} (hr : Rise es) (hp : m'.Perm ces.toList) (he : ERs E es m') {x y : MapEntry} (hx : x ∈ ces.toList) (hy : y ∈ ces.toList) (hxk : x.key = .string (B k)) (hyk : y.key = .string (B k)) : x = y :=
  nodup_inj (f := (·.key)) ((hp.map (·.key)).nodup_iff.1 (by rw [ERs_keys es m' he]; exact keys_nodup hr)) hx hy (hxk.trans hyk.symm)
/-- A map, written at a key: a new entry. -/
theorem WR.map_new (hW : WR E base w0 H w) {D : Env} (hle : E.le D) (hDG : D.G = E.G) (hDF : D.F = E.F) {n b N : Nat} (hDS : ∀ c, c ≠ b → D.S c = E.S c) {st : Bool} {es : List (List UInt8 × V)} (hn : H n = some (.map st es)) (hG : E.G n = some (b, N)) {ces : Array MapEntry} {c : Nat} (hb : w.heap[b]? = some (.map ces c)) {k : List UInt8} {v : V} {cv : Value} (hv : VR E v cv)
    (hno : ∀ e ∈ es, e.1 ≠ k) (st' : Bool) (hDb : ∀ q s, D.S b q = some s → st' = true ∧ ((q = k ∧ s = c) ∨ E.S b q = some s)) :
    WR D base w0 (H.set n (.map st' (putK k v es))) { w with heap := w.heap.setIfInBounds b (.map (ces.push ⟨.string (B k), cv, c⟩) (c + 1)) } := by
  obtain ⟨hF, ces', c', hb', hr, ⟨m', hp, he⟩, hnd, hlt, hst⟩ := map_at hW hn hG
  rw [hb] at hb'
  obtain ⟨rfl, rfl⟩ : ces' = ces ∧ c' = c := by injection hb' with h; injection h with h1 h2; exact ⟨h1.symm, h2.symm⟩
  obtain ⟨hbb, hbl, _⟩ := hW.live n _ b N hn hG (by simp)
  obtain ⟨m0, hm0, hm0e⟩ := ERs_del k es m' he
  have hm0p : m0.Perm (ces'.toList.filter (notK k)) := by rw [hm0e]; exact hp.filter _
  have hall : ces'.toList.filter (notK k) = ces'.toList := by
    rw [List.filter_eq_self]
    intro x hx
    obtain ⟨e, hee, hke, _⟩ := ERs_key es m' he x (hp.mem_iff.2 hx)
    simp [notK, hke, B_beq, hno e hee]
  refine hW.putS hle hDG hDF hn (by simp) hG hF (by simp) rfl rfl rfl (fun q hq => by simp [Array.getElem?_setIfInBounds_ne (Ne.symm hq)]) hDS ?_
  obtain ⟨m1, h1, h2⟩ := ERs_ins (y := ⟨.string (B k), cv, c'⟩) rfl hv (delK k es) m0 hm0
  refine ⟨by rw [hDF]; exact hF, ces'.push ⟨.string (B k), cv, c'⟩, c' + 1, by simp [hbl], rise_put k v hr, ⟨m1, h2.trans ((hm0p.cons _).trans ?_), ERs_mono hle _ _ h1⟩, ?_, ?_, ?_⟩
  · rw [hall, Array.toList_push]; exact (List.perm_append_singleton _ _).symm
  · rw [Array.toList_push, List.map_append, List.nodup_append]
    refine ⟨hnd, by simp, ?_⟩
    intro a ha b' hb' hab
    simp at hb'
    subst hb'
    obtain ⟨x, hx, rfl⟩ := List.mem_map.1 ha
    have := hlt x hx
    omega
  · intro x hx
    rw [Array.toList_push] at hx
    rcases List.mem_append.1 hx with hx | hx
    · have := hlt x hx; omega
    · simp at hx; subst hx; exact Nat.lt_succ_self c'
  · intro q s hs
    obtain ⟨h1, h2⟩ := hDb q s hs
    refine ⟨h1, ?_⟩
    rcases h2 with ⟨rfl, rfl⟩ | h2
    · exact ⟨⟨.string (B q), cv, s⟩, by simp, rfl, rfl⟩
    · obtain ⟨_, x, hx, h3⟩ := hst q s h2
      exact ⟨x, by simp [hx], h3⟩
/-- A map, written at a key: an entry that is there. -/
theorem WR.map_old (hW : WR E base w0 H w) {D : Env} (hle : E.le D) (hDG : D.G = E.G) (hDF : D.F = E.F) {n b N : Nat} (hDS : ∀ c, c ≠ b → D.S c = E.S c) {st : Bool} {es : List (List UInt8 × V)} (hn : H n = some (.map st es)) (hG : E.G n = some (b, N)) {ces : Array MapEntry} {c : Nat} (hb : w.heap[b]? = some (.map ces c)) {k : List UInt8} {v : V} {cv : Value} (hv : VR E v cv)
    {x : MapEntry} {j : Nat} (hxk : x.key = .string (B k)) (hj : ces.toList[j]? = some x) (st' : Bool) (hDb : ∀ q s, D.S b q = some s → st' = true ∧ ((q = k ∧ s = x.born) ∨ E.S b q = some s)) (f : MapEntry → MapEntry) (hf : f x = ⟨.string (B k), cv, x.born⟩) :
    WR D base w0 (H.set n (.map st' (putK k v es))) { w with heap := w.heap.setIfInBounds b (.map (ces.modify j f) c) } := by
  obtain ⟨hF, ces', c', hb', hr, ⟨m', hp, he⟩, hnd, hlt, hst⟩ := map_at hW hn hG
  rw [hb] at hb'
  obtain ⟨rfl, rfl⟩ : ces' = ces ∧ c' = c := by injection hb' with h; injection h with h1 h2; exact ⟨h1.symm, h2.symm⟩
  obtain ⟨hbb, hbl, _⟩ := hW.live n _ b N hn hG (by simp)
  obtain ⟨m0, hm0, hm0e⟩ := ERs_del k es m' he
  have hm0p : m0.Perm (ces'.toList.filter (notK k)) := by rw [hm0e]; exact hp.filter _
  obtain ⟨l1, l2, hl, hl2, hfil⟩ := map_other hr hp he hxk hj
  refine hW.putS hle hDG hDF hn (by simp) hG hF (by simp) rfl rfl rfl (fun q hq => by simp [Array.getElem?_setIfInBounds_ne (Ne.symm hq)]) hDS ?_
  obtain ⟨m1, h1, h2⟩ := ERs_ins (y := ⟨.string (B k), cv, x.born⟩) rfl hv (delK k es) m0 hm0
  refine ⟨by rw [hDF]; exact hF, ces'.modify j f, c', by simp [hbl], rise_put k v hr, ⟨m1, h2.trans ((hm0p.cons _).trans ?_), ERs_mono hle _ _ h1⟩, ?_, ?_, ?_⟩
  · rw [hfil, hl2, hf]; exact List.perm_middle.symm
  · rw [hl2, hf]
    rw [hl] at hnd
    simpa using hnd
  · intro y hy
    rw [hl2, hf] at hy
    have hin : ∀ y ∈ l1 ++ x :: l2, y.born < c' := by rw [← hl]; exact hlt
    rcases List.mem_append.1 hy with hy | hy
    · exact hin y (List.mem_append_left _ hy)
    · rcases List.mem_cons.1 hy with rfl | hy
      · exact hin x (by simp)
      · exact hin y (by simp [hy])
  · intro q s hs
    obtain ⟨h1, h2⟩ := hDb q s hs
    refine ⟨h1, ?_⟩
    have hxin : x ∈ ces'.toList := by rw [hl]; simp
    have hnew : (⟨.string (B k), cv, x.born⟩ : MapEntry) ∈ (ces'.modify j f).toList := by rw [hl2, hf]; simp
    rcases h2 with ⟨rfl, rfl⟩ | h2
    · exact ⟨_, hnew, rfl, rfl⟩
    · obtain ⟨_, y, hy, hyk, hyb⟩ := hst q s h2
      by_cases hq : q = k
      · subst hq
        have := key_one hr hp he hy hxin hyk hxk
        subst this
        exact ⟨_, hnew, rfl, hyb⟩
      · refine ⟨y, ?_, hyk, hyb⟩
        rw [hl2]
        rw [hl] at hy
        rcases List.mem_append.1 hy with hy | hy
        · exact List.mem_append_left _ hy
        · rcases List.mem_cons.1 hy with rfl | hy
          · rw [hxk] at hyk
            injection hyk with h
            exact absurd (B_inj h).symm hq
          · exact List.mem_append_right _ (List.mem_cons_of_mem _ hy)
theorem upE_put {t kt et : TypeId} {m v : V} {cm cv : Value} {k : List UInt8} {K : Hp → Prop} (hu : P.underlying t = some (.map kt et)) (hk : P.underlying kt = some .string) (hW : WR E base w0 H w) (hm : VR E m cm) (hv : VR E v cv) (h : upE m H (putK k v) K) :
    ∃ J w', K J ∧ WR E base w0 J w' ∧ (Instr.mapUpdate t cm (.string (B k)) cv).run P w = .ok () w' := by
  unfold upE at h
  split at h
  · rename_i n
    split at h
    · rename_i st es hn
      simp only [VR] at hm
      obtain ⟨b, N, hG, rfl⟩ := hm
      obtain ⟨hF, ces, c, hb, hr, ⟨m', hp, he⟩, hnd, hlt, hst⟩ := map_at hW hn hG
      rcases look_ok (k := k) hr hp he with ⟨hg, hno, hf⟩ | ⟨u, x, j, hg, hmem, hx, hxk, hxv, hj, hf⟩
      · refine ⟨_, _, h, hW.map_new (Env.le_refl E) rfl rfl (fun _ _ => rfl) hn hG hb hv hno st (fun q s hs => ⟨(hst q s hs).1, .inr hs⟩), ?_⟩
        simp only [Instr.mapUpdate, Sem.run_bind, run_underlying hu, Result.andThen_ok, run_getObj hb, check_str hk, findKey_run hk (hf 0), run_setObj hb]
      · have hf0 := hf 0
        rw [Nat.zero_add] at hf0
        refine ⟨_, _, h, hW.map_old (Env.le_refl E) rfl rfl (fun _ _ => rfl) hn hG hb hv hxk hj st (fun q s hs => ⟨(hst q s hs).1, .inr hs⟩) (fun e => { e with key := .string (B k), val := cv }) rfl, ?_⟩
        have hj' : ces[j]? = some x := by simpa using hj
        have hsame : Instr.sameBits 10000 x.key (.string (B k)) = true := by
          rw [hxk]; simp only [Instr.sameBits, B_beq, decide_true]
        simp only [Instr.mapUpdate, Sem.run_bind, run_underlying hu, Result.andThen_ok, run_getObj hb, check_str hk, findKey_run hk hf0, hj', Option.map_some, Option.getD_some, Instr.keyThatStays, hsame, if_true, Sem.run_pure, run_setObj hb]
    · exact h.elim
  · exact h.elim
/-- An entry that will be written. -/
theorem entE_ok {t kt et : TypeId} {m z : V} {cm cz : Value} {k : List UInt8} {K : V → Nat → Hp → Prop} (hu : P.underlying t = some (.map kt et)) (hk : P.underlying kt = some .string) (hz : VR E z cz) (hrz : ∀ w, (zeroValue et).run P w = .ok cz w) (hW : WR E base w0 H w) (hm : VR E m cm) (h : entE m k z H K) :
    ∃ v n J D cv cs w', K v n J ∧ E.le D ∧ VR D v cv ∧ VR D (.stamp n k) cs ∧ WR D base w0 J w' ∧ (Instr.mapEntry t cm (.string (B k))).run P w = .ok (.tuple #[cv, cs]) w' := by
  unfold entE at h
  split at h
  · rename_i n
    split at h
    · rename_i st es hn
      simp only [VR] at hm
      obtain ⟨b, N, hG, rfl⟩ := hm
      obtain ⟨hF, ces, c, hb, hr, ⟨m', hp, he⟩, hnd, hlt, hst⟩ := map_at hW hn hG
      rcases look_ok (k := k) hr hp he with ⟨hg, hno, hf⟩ | ⟨u, x, j, hg, hmem, hx, hxk, hxv, hj, hf⟩
      · rw [hg] at h
        have hle : E.le (E.stamp b k c) := Env.le_stamp (fun s hs => by
          obtain ⟨_, x, hx, hxk, _⟩ := hst k s hs
          obtain ⟨e, hee, hke, _⟩ := ERs_key es m' he x (hp.mem_iff.2 hx)
          rw [hxk] at hke
          injection hke with h'
          exact absurd (B_inj h').symm (hno e hee))
        have hSb : (E.stamp b k c).S b k = some c := by simp [Env.stamp]
        refine ⟨_, _, _, E.stamp b k c, cz, .int .i64 (c : Int), _, h, hle, VR_mono hle _ _ hz, by simp only [VR]; exact ⟨b, N, c, hG, hSb, rfl⟩, hW.map_new hle rfl rfl (fun d hd => by funext q; simp [Env.stamp, hd]) hn hG hb hz hno true (fun q s hs => ?_), ?_⟩
        · simp only [Env.stamp, true_and] at hs
          split at hs
          · rename_i hq; subst hq; cases hs; exact ⟨rfl, .inl ⟨rfl, rfl⟩⟩
          · exact ⟨rfl, .inr hs⟩
        · simp only [Instr.mapEntry, Sem.run_bind, run_underlying hu, Result.andThen_ok, run_getObj hb, check_str hk, findKey_run hk (hf 0), hrz, run_setObj hb, Sem.run_pure, goInt]
      · rw [hg] at h
        have hf0 := hf 0
        rw [Nat.zero_add] at hf0
        have hxin : x ∈ ces.toList := List.mem_of_getElem? hj
        have hle : E.le (E.stamp b k x.born) := Env.le_stamp (fun s hs => by
          obtain ⟨_, y, hy, hyk, hyb⟩ := hst k s hs
          rw [← hyb, key_one hr hp he hy hxin hyk hxk])
        have hSb : (E.stamp b k x.born).S b k = some x.born := by simp [Env.stamp]
        have hj' : ces[j]? = some x := by simpa using hj
        have hsame : Instr.sameBits 10000 x.key (.string (B k)) = true := by
          rw [hxk]; simp only [Instr.sameBits, B_beq, decide_true]
        have hfx : ({ x with key := .string (B k) } : MapEntry) = x := by rw [← hxk]
        have hmod : ces.modify j (fun e => { e with key := .string (B k) }) = ces := by
          obtain ⟨l1, l2, hl, hl2, _⟩ := map_other hr hp he hxk hj
          apply Array.ext'
          rw [hl2, hl]
          simp only [hfx]
        refine ⟨_, _, _, E.stamp b k x.born, x.val, .int .i64 (x.born : Int), _, h, hle, VR_mono hle _ _ hxv, by simp only [VR]; exact ⟨b, N, x.born, hG, hSb, rfl⟩, hW.putS (w' := { w with heap := w.heap.setIfInBounds b (.map ces c) }) hle rfl rfl hn (by simp) hG hF (by simp) rfl rfl rfl (fun q hq => by simp [Array.getElem?_setIfInBounds_ne (Ne.symm hq)]) (fun d hd => by funext q; simp [Env.stamp, hd]) ?_, ?_⟩
        · obtain ⟨hbb, hbl, _⟩ := hW.live n _ b N hn hG (by simp)
          refine ⟨hF, ces, c, by simp [hbl], hr, ⟨m', hp, ERs_mono hle _ _ he⟩, hnd, hlt, fun q s hs => ⟨rfl, ?_⟩⟩
          simp only [Env.stamp, true_and] at hs
          split at hs
          · rename_i hq; subst hq; cases hs; exact ⟨x, hxin, hxk, rfl⟩
          · exact (hst q s hs).2
        · simp only [Instr.mapEntry, Sem.run_bind, run_underlying hu, Result.andThen_ok, run_getObj hb, check_str hk, findKey_run hk hf0, hj', Option.map_some, Option.getD_some, Instr.keyThatStays, hsame, if_true, Sem.run_pure, hmod, run_setObj hb, goInt]
    · exact h.elim
  · exact h.elim
theorem findIdx_born {l : List MapEntry} (hn : (l.map (·.born)).Nodup) {j : Nat} {x : MapEntry} (hj : l[j]? = some x) : l.findIdx? (fun e => (e.born : Int) == (x.born : Int)) = some j := by
  rw [List.findIdx?_eq_some_iff_getElem]
  have hjl := (List.getElem?_eq_some_iff.1 hj).1
  have hjx := (List.getElem?_eq_some_iff.1 hj).2
  refine ⟨hjl, by simp [hjx], fun i hi => ?_⟩
  have hne := (List.nodup_iff_pairwise_ne.1 hn)
  have := List.pairwise_iff_getElem.1 hne i j (by simp; omega) (by simpa using hjl) hi
  simp only [List.getElem_map, hjx] at this
  simp
  omega
/-- The entry is written. -/
theorem esE_ok {t : TypeId} {m s v : V} {cm cs cv : Value} {K : Hp → Prop} (hW : WR E base w0 H w) (hm : VR E m cm) (hs : VR E s cs) (hv : VR E v cv) (h : esE m s v H K) :
    ∃ J w', K J ∧ WR E base w0 J w' ∧ (Instr.entryStore t cm cs cv).run P w = .ok () w' := by
  unfold esE at h
  split at h
  · rename_i n n' k
    obtain ⟨rfl, h⟩ := h
    split at h
    · rename_i st es hn
      simp only [VR] at hm hs
      obtain ⟨b, N, hG, rfl⟩ := hm
      obtain ⟨b', N', s, hG', hS, rfl⟩ := hs
      rw [hG] at hG'; cases hG'
      obtain ⟨hF, ces, c, hb, hr, ⟨m', hp, he⟩, hnd, hlt, hst⟩ := map_at hW hn hG
      obtain ⟨_, x, hx, hxk, hxb⟩ := hst k s hS
      obtain ⟨j, hj⟩ := List.getElem?_of_mem hx
      refine ⟨_, _, h, hW.map_old (Env.le_refl E) rfl rfl (fun _ _ => rfl) hn hG hb hv hxk hj st (fun q s hs => ⟨(hst q s hs).1, .inr hs⟩) (fun e => { e with val := cv }) (by rw [← hxk]), ?_⟩
      have hfi : ces.findIdx? (fun e => (e.born : Int) == (s : Int)) = some j := by
        have e : ∀ q : MapEntry → Bool, ces.findIdx? q = ces.toList.findIdx? q := fun q => by
          conv => lhs; rw [← Array.toArray_toList (xs := ces)]
          exact List.findIdx?_toArray ..
        rw [← hxb, e]
        exact findIdx_born hnd hj
      simp only [Instr.entryStore, Sem.run_bind, run_getObj hb, Result.andThen_ok, asInt, asIntOf, Sem.run_pure, hfi, run_setObj hb]
    · exact h.elim
  · exact h.elim
end Go.Proofs.Ytmpheeanjjfddaa.SM
