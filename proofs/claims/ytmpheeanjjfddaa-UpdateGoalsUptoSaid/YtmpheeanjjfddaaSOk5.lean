/- The heap: boxes, rows that grow, maps; calls. -/
import Derived.Test.YtmpheeanjjfddaaSOk4
import Derived.Laws.AppendOwn
namespace Go.Proofs.Ytmpheeanjjfddaa.SM
open Go Go.RowKit
set_option linter.unusedVariables false
set_option linter.unusedSimpArgs false
variable {P : Program} {E : Env} {tm : Tm} {a : Act} {o : Oper} {v : V} {base : Nat} {w0 w : World} {H : Hp}

theorem newE_ok {o : O} {K : Nat → Hp → Prop} (hW : WR E base w0 H w) (h : newE H o K) : ∃ n, H n = none ∧ K n (H.set n o) := by
  obtain ⟨k, hk⟩ := hW.fin
  exact ⟨k, hk k (Nat.le_refl _), h k (hk k (Nat.le_refl _))⟩
theorem new_box {e : TypeId} {cs : List V} {cv : Value} {K : Nat → Hp → Prop} (hW : WR E base w0 H w) (h : newE H (.box cs e) K) (hv : VRs E cs cv.cells.toList) :
    ∃ n J D w', K n J ∧ E.le D ∧ VR D (.ptr n 0) (.pointer (some ⟨w.heap.size, 0, none⟩)) ∧ WR D base w0 J w' ∧ (newVar e cv).run P w = .ok ⟨w.heap.size, 0, none⟩ w' := by
  obtain ⟨n, hn, h⟩ := newE_ok hW h
  have hle : E.le (E.new n w.heap.size cv.cells.size none) := Env.le_new (hW.dom n hn) (fresh_F hW)
  obtain ⟨_, hG, hW'⟩ := hW.new hn (.cells cv.cells e) (.box cs e) cv.cells.size none ⟨by simp [Env.new], cv.cells, heap_new _ _, VRs_mono hle _ _ hv, rfl⟩ (fun fs h => by cases h)
  exact ⟨n, _, _, w.alloc (.cells cv.cells e), h, hle, by simp only [VR]; exact ⟨_, _, hG, rfl⟩, hW', by simp [newVar, newRow]⟩

/-! rows of elements -/
theorem groups_ok {agg : Bool} {sz : Nat} (hsz : 0 < sz) (h1 : agg = false → sz = 1) : ∀ (n : Nat) (cs : List V) (vs : List Value), VRs E cs vs → cs.length = n * sz → (∀ v ∈ vs, v.oneCell' = true) →
    ∃ vals, VRs E (groups agg sz n cs) vals ∧ vals.length = n ∧ flat vals = vs ∧ ∀ v ∈ vals, El sz v
  | 0, cs, vs, hv, hl, _ => by
    have hl2 := VRs_length _ _ hv
    have : vs = [] := List.eq_nil_of_length_eq_zero (by omega)
    subst this
    exact ⟨[], VRs_nil, rfl, rfl, by simp⟩
  | n + 1, cs, vs, hv, hl, ho => by
    have hl2 := VRs_length _ _ hv
    have hle : sz ≤ vs.length := by rw [hl2, hl, Nat.add_mul]; omega
    obtain ⟨vals, g1, g2, g3, g4⟩ := groups_ok hsz h1 n (cs.drop sz) (vs.drop sz) (VRs_drop sz hv) (by simp [hl, Nat.add_mul]) (fun v h => ho v (List.mem_of_mem_drop h))
    cases agg with
    | true =>
      refine ⟨.agg (vs.take sz).toArray :: vals, ?_, by simp [g2], ?_, ?_⟩
      · simp only [groups]
        exact VRs_cons (by simp only [VR]; exact ⟨_, rfl, by simpa using VRs_take sz hv⟩) g1
      · show (Value.agg _).cells.toList ++ flat vals = vs
        rw [g3]; simp [Value.cells]
      · intro v hm
        rcases List.mem_cons.1 hm with rfl | hm
        · refine ⟨by simp [Value.cells]; omega, fun c hc => ho c (List.mem_of_mem_take (by simpa [Value.cells] using hc))⟩
        · exact g4 v hm
    | false =>
      obtain rfl := h1 rfl
      cases cs with
      | nil => simp at hl
      | cons c cr =>
        simp only [VRs] at hv
        obtain ⟨x, m, rfl, hx, hm⟩ := hv
        have hox := ho x (by simp)
        have hxc : x.cells = #[x] := by cases x <;> first | rfl | cases hox
        refine ⟨x :: vals, ?_, by simp [g2], ?_, ?_⟩
        · simp only [groups, List.headD_cons]
          exact VRs_cons hx g1
        · show x.cells.toList ++ flat vals = _
          rw [g3, hxc]; rfl
        · intro v hmv
          rcases List.mem_cons.1 hmv with rfl | hmv
          · exact ⟨by rw [hxc]; rfl, fun c hc => by rw [hxc] at hc; simp at hc; subst hc; exact hox⟩
          · exact g4 v hmv
/-- A new row whose elements stand for ever. -/
theorem new_row {e : TypeId} {sz len cap : Nat} {l : List V} {vals : List Value} {arr : Array Value} {K : V → Hp → Prop} (hW : WR E base w0 H w) (hlen : vals.length = len) (h : newE H (.tip (len * sz) e) fun n J => K (.osl n sz l) J)
    (hv : VRs E l vals) (hs : ∀ v ∈ vals, El sz v) (harr : arr.toList.take (len * sz) = flat vals) (hc : len ≤ cap) (hcs : cap * sz ≤ arr.size) :
    ∃ v J D, K v J ∧ E.le D ∧ VR D v (.slice (some ⟨w.heap.size, 0, none⟩) len cap) ∧ WR D base w0 J (w.alloc (.cells arr e)) := by
  obtain ⟨n, hn, h⟩ := newE_ok hW h
  have hle : E.le (E.new n w.heap.size arr.size (some (flat vals))) := Env.le_new (hW.dom n hn) (fresh_F hW)
  have hfl := flat_len vals (fun v hv => (hs v hv).1)
  obtain ⟨_, hG, hW'⟩ := hW.new hn (.cells arr e) (.tip (len * sz) e) arr.size (some (flat vals)) ⟨⟨flat vals, by simp [Env.new], by rw [hfl, hlen]⟩, arr, heap_new _ _, rfl⟩ (by
    rintro fs hf j v hj
    cases hf
    rw [cell_at (heap_new _ _)]
    rw [← harr] at hj
    have hjl := (List.getElem?_eq_some_iff.1 hj).1
    rw [List.getElem?_take, if_pos (by simp at hjl; omega)] at hj
    simpa using hj)
  refine ⟨_, _, _, h, hle, ?_, hW'⟩
  simp only [VR]
  refine ⟨_, _, cap, vals, by rw [hlen], by omega, ⟨hs, fun _ => ⟨_, 0, rfl, flat vals, [], by simp [Env.new], by simp, by simp⟩⟩, VRs_mono hle _ _ hv, hG, hcs⟩
theorem rep_made {z : List V} {zc : Array Value} (hz : VRs E z zc.toList) : ∀ n, VRs E (rep z n) ((List.range (n * zc.size)).map fun i => zc[i % zc.size]!)
  | 0 => by simp [rep, VRs]
  | n + 1 => by
    have e : (n + 1) * zc.size = zc.size + n * zc.size := by rw [Nat.add_mul]; omega
    rw [e, List.range_add, List.map_append]
    refine VRs_append ?_ ?_
    · have : (List.range zc.size).map (fun i => zc[i % zc.size]!) = zc.toList := by
        apply List.ext_getElem
        · simp
        · intro i h1 h2
          simp at h1
          simp [Nat.mod_eq_of_lt h1, h1]
      rw [this]; exact hz
    · have ih := rep_made hz n
      have : (List.map (fun i => zc[i % zc.size]!) (List.map (fun x => zc.size + x) (List.range (n * zc.size)))) = (List.range (n * zc.size)).map fun i => zc[i % zc.size]! := by
        simp only [List.map_map]
        apply List.map_congr_left
        intro i hi
        simp [Nat.add_mod_left]
      rw [this]; exact ih
theorem rep_len (z : List V) : ∀ n, (rep z n).length = n * z.length
  | 0 => by simp [rep]
  | n + 1 => by simp [rep, rep_len z n, Nat.add_mul]; omega

/-! appends -/
/-- Where new elements come from: how many, and their cells in whatever world that has this one's heap. -/
def From (P : Program) (t : TypeId) (size n : Nat) (x : Value) (news : List Value) (w : World) : Prop :=
  (∃ d, P.underlying t = some d ∧ ((∃ e, d = .slice e) ∨ d = .string)) ∧ (∀ w', (Builtin.lenOf x).run P w' = .ok n w') ∧ (∀ w', w'.heap = w.heap → (Builtin.firstCells size n x).run P w' = .ok news.toArray w')
theorem run_append_in {t tx ty e : TypeId} {i : TypeInfo} (ht : P.underlying t = some (.slice e)) (hi : P.info? e = some i) {b len cap : Nat} {x : Value} {n : Nat} {news : List Value} (hs : From P tx i.size n x news w)
    {arr : Array Value} {te : Nat} (harr : w.heap[b]? = some (.cells arr te (0, 0))) (hroom : len + n ≤ cap) (hfit : len * i.size + news.length ≤ arr.size) (h1 : ∀ v ∈ news, v.oneCell' = true) :
    (Builtin.append_ #[t, tx] ty #[.slice (some ⟨b, 0, none⟩) len cap, x]).run P w = .ok (.slice (some ⟨b, 0, none⟩) (len + n) cap) (w.setRow b (arr.toList.take (len * i.size) ++ news ++ arr.toList.drop (len * i.size + news.length)).toArray) := by
  obtain ⟨⟨d, hd, hk⟩, hl, hc⟩ := hs
  have hst := run_storeCells_at P b (len * i.size) te news 0 arr w harr (by simpa using hfit) h1
  simp only [Nat.add_zero] at hst
  rcases hk with ⟨e', rfl⟩ | rfl <;> simp [Builtin.append_, run_underlying ht, run_underlying hd, sizeOf, typeInfo, hi, hl, hroom, hc w rfl, addr_add, hst]
theorem run_append_nil0 {t tx ty e : TypeId} {i : TypeInfo} (ht : P.underlying t = some (.slice e)) (hi : P.info? e = some i) {x : Value} {news : List Value} (hs : From P tx i.size 0 x news w) :
    (Builtin.append_ #[t, tx] ty #[.slice none 0 0, x]).run P w = .ok (.slice none 0 0) w := by
  obtain ⟨⟨d, hd, hk⟩, hl, hc⟩ := hs
  rcases hk with ⟨e', rfl⟩ | rfl <;> simp [Builtin.append_, run_underlying ht, run_underlying hd, sizeOf, typeInfo, hi, hl, hc w rfl]
theorem run_append_zero {t tx ty e : TypeId} {i : TypeInfo} (ht : P.underlying t = some (.slice e)) (hi : P.info? e = some i) {ad : Addr} {len cap : Nat} {x : Value} (hs : From P tx i.size 0 x [] w) (hroom : len ≤ cap) :
    (Builtin.append_ #[t, tx] ty #[.slice (some ad) len cap, x]).run P w = .ok (.slice (some ad) len cap) w := by
  obtain ⟨⟨d, hd, hk⟩, hl, hc⟩ := hs
  rcases hk with ⟨e', rfl⟩ | rfl <;> simp [Builtin.append_, run_underlying ht, run_underlying hd, sizeOf, typeInfo, hi, hl, hroom, hc w rfl, storeCells]
theorem run_append_more {t tx ty e : TypeId} {i : TypeInfo} {z : Value} (ht : P.underlying t = some (.slice e)) (hi : P.info? e = some i) (hz : i.zero = some z) {ob : Option Addr} {len cap : Nat} {x : Value} {n : Nat} {olds news : List Value} (hs : From P tx i.size n x news w)
    (hold : ∀ w', w'.heap = w.heap → (Builtin.firstCells i.size len (.slice ob len cap)).run P w' = .ok olds.toArray w') (hg : cap < len + n) (h63 : len + n ≤ 4294967296) (hb : i.bytes ≤ 16384) :
    (Builtin.append_ #[t, tx] ty #[.slice ob len cap, x]).run P w =
      .ok (.slice (some ⟨w.heap.size, 0, none⟩) (len + n) (grownCap w (len + n) cap e)) (w.drew.alloc (.cells (olds.toArray ++ news.toArray ++ Builtin.zeroCells z.cells (grownCap w (len + n) cap e - (len + n))) e)) := by
  obtain ⟨⟨d, hd, hk⟩, hl, hc⟩ := hs
  have hn : ¬ (len + n ≤ cap) := by omega
  have h63' : ¬ (9223372036854775807 < ((len : Int) + (n : Int))) := by omega
  have hfit : Builtin.nextslicecap (len + n) cap * i.bytes ≤ 281474976710656 := by
    have h1 := nextslicecap_le hg
    have h2 : Builtin.nextslicecap (len + n) cap * i.bytes ≤ (2 * (len + n)) * 16384 := Nat.mul_le_mul h1 hb
    omega
  have h48' : ¬ (281474976710656 < Builtin.nextslicecap (len + n) cap * i.bytes) := by omega
  have hf := hc w.drew rfl
  have hfo := hold w.drew rfl
  rcases hk with ⟨e', rfl⟩ | rfl <;>
    (simp [Builtin.append_, run_underlying ht, run_underlying hd, sizeOf, typeInfo, zeroValue, hi, hz, hl, hn, h63', h48', Question.forced, hf, hfo, newRow, grownCap]
     congr 2
     apply Array.ext'
     simp [List.append_assoc])
theorem grown_ge (w : World) (need old : Nat) (e : TypeId) : need ≤ grownCap w need old e := by simp [grownCap, Question.cut]
theorem firstCells_row {sz : Nat} {ad : Option Addr} {vals : List Value} {c : Nat} (hi : Iced E w) (hr : Row E sz ad vals) (w' : World) (hw : w'.heap = w.heap) : (Builtin.firstCells sz vals.length (.slice ad vals.length c)).run P w' = .ok (flat vals).toArray w' := by
  by_cases hne : vals = []
  · subst hne
    cases ad with
    | none => simp [Builtin.firstCells, flat]
    | some ad => simp [Builtin.firstCells, flat, loadCells, loadCellsFrom]
  · obtain ⟨b, o, rfl, hat⟩ := hr.2 hne
    refine run_firstCells_some (P := P) w' sz vals.length ⟨b, o, none⟩ vals.length c _ (flat_len _ (fun v hv => (hr.1 v hv).1)) (fun j v hj => ?_)
    rw [addr_add, show w'.cell? ⟨b, o + j, none⟩ = w.cell? ⟨b, o + j, none⟩ from by simp [World.cell?, hw]]
    exact At_cells hi hat j v hj
/-- The elements that are appended: as values, and where their cells come from. -/
theorem valsE_ok {x : V} {cx : Value} {K : List V → Prop} {t e : TypeId} {sz : Nat} (hW : WR E base w0 H w) (hx : VR E x cx) (ht : P.underlying t = some (.slice e))
    (h : valsE sz x K) : ∃ l vals, K l ∧ VRs E l vals ∧ (∀ v ∈ vals, El sz v) ∧ From P t sz vals.length cx (flat vals) w := by
  have hd : ∃ d, P.underlying t = some d ∧ ((∃ e, d = .slice e) ∨ d = .string) := ⟨_, ht, .inl ⟨e, rfl⟩⟩
  cases x <;> simp only [valsE] at h <;> simp only [VR] at hx
  · subst hx
    exact ⟨_, [], h, VRs_nil, by simp, hd, fun w' => by simp [Builtin.lenOf], fun w' _ => by simp [Builtin.firstCells, flat]⟩
  · obtain ⟨ad, rfl⟩ := hx
    exact ⟨_, [], h, VRs_nil, by simp, hd, fun w' => by simp [Builtin.lenOf], fun w' _ => by simp [Builtin.firstCells, flat, loadCells, loadCellsFrom]⟩
  · split at h
    rotate_left
    · exact h.elim
    rename_i hz
    obtain rfl := Nat.eq_of_beq_eq_true hz
    obtain ⟨ad, c, vals, rfl, h1, h2, h3, h4⟩ := hx
    exact ⟨_, vals, h, h4, h3.1, hd, fun w' => by simp [Builtin.lenOf], fun w' hw => firstCells_row hW.iced h3 w' hw⟩
  · split at h
    rotate_left
    · exact h.elim
    rename_i hz
    obtain rfl := Nat.eq_of_beq_eq_true hz
    obtain ⟨b, N, c, vals, rfl, h1, h3, h4, _⟩ := hx
    exact ⟨_, vals, h, h4, h3.1, hd, fun w' => by simp [Builtin.lenOf], fun w' hw => firstCells_row hW.iced h3 w' hw⟩
theorem bytes_from {t : TypeId} (s : List UInt8) (ht : P.underlying t = some .string) : ∃ vals, VRs E (bytesV s) vals ∧ (∀ v ∈ vals, El 1 v) ∧ From P t 1 vals.length (.string (B s)) (flat vals) w := by
  have hd : ∃ d, P.underlying t = some d ∧ ((∃ e, d = .slice e) ∨ d = .string) := ⟨_, ht, .inr rfl⟩
  refine ⟨s.map fun b => Value.int .u8 (b.toNat : Int), ?_, ?_, hd, fun w' => by simp [Builtin.lenOf, B_size], fun w' _ => ?_⟩
  · unfold bytesV
    induction s with
    | nil => simp [VRs]
    | cons b r ih => exact VRs_cons VRi ih
  · intro v hv
    obtain ⟨b, _, rfl⟩ := List.mem_map.1 hv
    exact ⟨rfl, fun c hc => by simp [Value.cells] at hc; subst hc; rfl⟩
  · have e1 : (B s).extract 0 s.length = B s := by rw [B_extract]; simp
    have e2 : flat (s.map fun b => Value.int .u8 (b.toNat : Int)) = s.map fun b => Value.int .u8 (b.toNat : Int) := by
      simp only [flat, List.flatMap_map]
      exact (List.map_eq_flatMap).symm
    have e3 : (B s).data = s.toArray := rfl
    simp only [Builtin.firstCells, List.length_map, e1, e2, Sem.run_pure, e3, List.map_toArray]
/-- A row that may grow, grows in its block. -/
theorem WR.grow (h : WR E base w0 H w) {n m b N e t : Nat} {fs news : List Value} (hn : H n = some (.tip e t)) (hG : E.G n = some (b, N)) (hF : E.F b = some fs) (hm : (H.set n .dead) m = none) {arr : Array Value} (harr : w.heap[b]? = some (.cells arr t (0, 0))) {arr2 : Array Value}
    (hsz : arr2.size = arr.size) (hpre : arr2.toList.take (fs.length + news.length) = fs ++ news) :
    E.le ⟨fun k => if k = m then some (b, N) else E.G k, fun c => if c = b then some (fs ++ news) else E.F c, E.S⟩ ∧
    WR ⟨fun k => if k = m then some (b, N) else E.G k, fun c => if c = b then some (fs ++ news) else E.F c, E.S⟩ base w0 ((H.set n .dead).set m (.tip (fs.length + news.length) t)) (w.setRow b arr2) := by
  obtain ⟨hb, hlt, ⟨fs', hfs', hfe⟩, arr', h1, hN⟩ := h.live n _ b N hn hG (by simp)
  rw [hF] at hfs'; cases hfs'
  rw [harr] at h1
  have harr' : arr' = arr := by injection h1 with h1; injection h1 with h1; exact h1.symm
  subst harr'
  have hmn : m ≠ n := by rintro rfl; rw [Hp.set_same] at hm; cases hm
  have hm0 : H m = none := by rw [Hp.set_ne _ _ hmn] at hm; exact hm
  have hle : E.le ⟨fun k => if k = m then some (b, N) else E.G k, fun c => if c = b then some (fs ++ news) else E.F c, E.S⟩ := by
    refine ⟨fun k x hx => ?_, fun c gs hc => ?_, fun _ _ _ h => h⟩
    · by_cases hk : k = m
      · subst hk; rw [h.dom _ hm0] at hx; cases hx
      · simp [hk, hx]
    · by_cases hk : c = b
      · subst hk; rw [hF] at hc; cases hc; exact ⟨news, by simp⟩
      · exact ⟨[], by simp [hk, hc]⟩
  have hnew := setRow_heap w b arr' arr2 t (0, 0) harr
  refine ⟨hle, below_of h.below rfl rfl rfl (by rw [setRow_size]; exact Nat.le_refl _) (fun k hk => setRow_other w b k arr2 (by omega)), by rw [setRow_size]; exact h.big, ?_, ?_, ?_, ?_, fun c q hc => h.old c q (by rw [setRow_size] at hc; exact hc), Hp.fin_set (Hp.fin_set h.fin _ _) _ _⟩
  · intro k p c M hk hGk hd
    by_cases hkm : k = m
    · subst hkm
      rw [Hp.set_same] at hk; cases hk
      simp only [if_pos trivial, Option.some.injEq, Prod.mk.injEq] at hGk
      obtain ⟨rfl, rfl⟩ := hGk
      refine ⟨hb, by rw [setRow_size]; exact hlt, ⟨fs ++ news, by simp, by simp⟩, arr2, hnew, by omega⟩
    · rw [Hp.set_ne _ _ hkm] at hk
      simp only [if_neg hkm] at hGk
      by_cases hkn : k = n
      · subst hkn; rw [Hp.set_same] at hk; cases hk; exact absurd rfl hd
      · rw [Hp.set_ne _ _ hkn] at hk
        obtain ⟨g1, g2, g3⟩ := h.live k p c M hk hGk hd
        have hcb : c ≠ b := by
          rintro rfl
          exact hkn (h.apart k n p _ c M N hk hn hd (by simp) hGk hG)
        refine ⟨g1, by rw [setRow_size]; exact g2, OR_step hle (by simp [hcb]) (setRow_other w b c arr2 hcb) g3⟩
  · intro k hk
    by_cases hkm : k = m
    · subst hkm; rw [Hp.set_same] at hk; cases hk
    · rw [Hp.set_ne _ _ hkm] at hk
      simp only [if_neg hkm]
      by_cases hkn : k = n
      · subst hkn; rw [Hp.set_same] at hk; cases hk
      · rw [Hp.set_ne _ _ hkn] at hk; exact h.dom k hk
  · have back : ∀ k p c M, ((H.set n .dead).set m (.tip (fs.length + news.length) t)) k = some p → p ≠ .dead → (if k = m then some (b, N) else E.G k) = some (c, M) → (k = m ∧ c = b) ∨ (k ≠ m ∧ k ≠ n ∧ H k = some p ∧ E.G k = some (c, M) ∧ c ≠ b) := by
      intro k p c M hk hd hGk
      by_cases hkm : k = m
      · subst hkm
        simp only [if_pos trivial, Option.some.injEq, Prod.mk.injEq] at hGk
        exact .inl ⟨rfl, hGk.1.symm⟩
      · rw [Hp.set_ne _ _ hkm] at hk
        simp only [if_neg hkm] at hGk
        by_cases hkn : k = n
        · subst hkn; rw [Hp.set_same] at hk; cases hk; exact absurd rfl hd
        · rw [Hp.set_ne _ _ hkn] at hk
          refine .inr ⟨hkm, hkn, hk, hGk, ?_⟩
          rintro rfl
          exact hkn (h.apart k n p _ c M N hk hn hd (by simp) hGk hG)
    intro k l p q c M K hk hl hdp hdq hGk hGl
    rcases back k p c M hk hdp hGk with ⟨rfl, rfl⟩ | ⟨h1, h2, h3, h4, h5⟩
    · rcases back l q c K hl hdq hGl with ⟨rfl, _⟩ | ⟨_, _, _, _, h5⟩
      · rfl
      · exact absurd rfl h5
    · rcases back l q c K hl hdq hGl with ⟨_, rfl⟩ | ⟨g1, g2, g3, g4, g5⟩
      · exact absurd rfl h5
      · exact h.apart k l p q c M K h3 g3 hdp hdq h4 g4
  · intro c gs hc
    by_cases hcb : c = b
    · subst hcb
      simp only [if_pos trivial, Option.some.injEq] at hc
      subst hc
      refine ⟨by rw [setRow_size]; exact hlt, fun j v hj => ?_⟩
      rw [cell_at hnew]
      have hjl := (List.getElem?_eq_some_iff.1 hj).1
      rw [← hpre, List.getElem?_take, if_pos (by simpa using hjl)] at hj
      simpa using hj
    · simp only [if_neg hcb] at hc
      obtain ⟨g1, g2⟩ := h.iced c gs hc
      exact ⟨by rw [setRow_size]; exact g1, fun j v hj => by rw [cell_same (setRow_other w b c arr2 hcb)]; exact g2 j v hj⟩
/-- An object's block is written, and has another name then. -/
theorem WR.rename (h : WR E base w0 H w) {n m b N : Nat} {o o' : O} (hn : H n = some o) (hd : o ≠ .dead) (hG : E.G n = some (b, N)) (hF : E.F b = none) (hm : (H.set n .dead) m = none) {w' : World} (hsz : w'.heap.size = w.heap.size) (hos : w'.os = w.os) (ht : w'.tape = w.tape) (hou : w'.output = w.output)
    (hne : ∀ k, k ≠ b → w'.heap[k]? = w.heap[k]?) (ho : OR (E.set m b N) o' b N w') : E.le (E.set m b N) ∧ WR (E.set m b N) base w0 ((H.set n .dead).set m o') w' := by
  obtain ⟨hb, hlt, _⟩ := h.live n o b N hn hG hd
  have hmn : m ≠ n := by rintro rfl; rw [Hp.set_same] at hm; cases hm
  have hm0 : H m = none := by rw [Hp.set_ne _ _ hmn] at hm; exact hm
  have hle : E.le (E.set m b N) := Env.le_set (h.dom _ hm0)
  refine ⟨hle, below_of h.below hos ht hou (by omega) (fun k hk => hne k (by omega)), by have := h.big; omega, ?_, ?_, ?_, ?_, fun c q hc => h.old c q (by omega), Hp.fin_set (Hp.fin_set h.fin _ _) _ _⟩
  · intro k p c M hk hGk hdp
    by_cases hkm : k = m
    · subst hkm
      rw [Hp.set_same] at hk; cases hk
      rw [Env.get_set] at hGk; cases hGk
      exact ⟨hb, by omega, ho⟩
    · rw [Hp.set_ne _ _ hkm] at hk
      simp only [Env.set, if_neg hkm] at hGk
      by_cases hkn : k = n
      · subst hkn; rw [Hp.set_same] at hk; cases hk; exact absurd rfl hdp
      · rw [Hp.set_ne _ _ hkn] at hk
        obtain ⟨g1, g2, g3⟩ := h.live k p c M hk hGk hdp
        have hcb : c ≠ b := by
          rintro rfl
          exact hkn (h.apart k n p _ c M N hk hn hdp hd hGk hG)
        exact ⟨g1, by omega, OR_step hle rfl (hne c hcb) g3⟩
  · intro k hk
    by_cases hkm : k = m
    · subst hkm; rw [Hp.set_same] at hk; cases hk
    · rw [Hp.set_ne _ _ hkm] at hk
      simp only [Env.set, if_neg hkm]
      by_cases hkn : k = n
      · subst hkn; rw [Hp.set_same] at hk; cases hk
      · rw [Hp.set_ne _ _ hkn] at hk; exact h.dom k hk
  · have back : ∀ k p c M, ((H.set n .dead).set m o') k = some p → p ≠ .dead → (E.set m b N).G k = some (c, M) → (k = m ∧ c = b) ∨ (k ≠ m ∧ k ≠ n ∧ H k = some p ∧ E.G k = some (c, M) ∧ c ≠ b) := by
      intro k p c M hk hdp hGk
      by_cases hkm : k = m
      · subst hkm
        rw [Env.get_set] at hGk; cases hGk
        exact .inl ⟨rfl, rfl⟩
      · rw [Hp.set_ne _ _ hkm] at hk
        simp only [Env.set, if_neg hkm] at hGk
        by_cases hkn : k = n
        · subst hkn; rw [Hp.set_same] at hk; cases hk; exact absurd rfl hdp
        · rw [Hp.set_ne _ _ hkn] at hk
          refine .inr ⟨hkm, hkn, hk, hGk, ?_⟩
          rintro rfl
          exact hkn (h.apart k n p _ c M N hk hn hdp hd hGk hG)
    intro k l p q c M K hk hl hdp hdq hGk hGl
    rcases back k p c M hk hdp hGk with ⟨rfl, rfl⟩ | ⟨h1, h2, h3, h4, h5⟩
    · rcases back l q c K hl hdq hGl with ⟨rfl, _⟩ | ⟨_, _, _, _, h5⟩
      · rfl
      · exact absurd rfl h5
    · rcases back l q c K hl hdq hGl with ⟨_, rfl⟩ | ⟨g1, g2, g3, g4, g5⟩
      · exact absurd rfl h5
      · exact h.apart k l p q c M K h3 g3 hdp hdq h4 g4
  · intro c gs hc
    obtain ⟨g1, g2⟩ := h.iced c gs hc
    have hcb : c ≠ b := by
      rintro rfl
      have : E.F c = some gs := hc
      rw [hF] at this; cases this
    exact ⟨by omega, fun j v hj => by rw [cell_same (hne c hcb)]; exact g2 j v hj⟩
/-- A tip is used up. -/
theorem WR.die (h : WR E base w0 H w) (n : Nat) (hn : H n ≠ none) : WR E base w0 (H.set n .dead) w := by
  refine ⟨h.below, h.big, ?_, ?_, ?_, h.iced, h.old, Hp.fin_set h.fin _ _⟩
  · intro k p c M hk hGk hd
    by_cases hkn : k = n
    · subst hkn; rw [Hp.set_same] at hk; cases hk; exact absurd rfl hd
    · rw [Hp.set_ne _ _ hkn] at hk; exact h.live k p c M hk hGk hd
  · intro k hk
    by_cases hkn : k = n
    · subst hkn; rw [Hp.set_same] at hk; cases hk
    · rw [Hp.set_ne _ _ hkn] at hk; exact h.dom k hk
  · intro k l p q c M K hk hl hdp hdq hGk hGl
    have back : ∀ k p, (H.set n .dead) k = some p → p ≠ .dead → H k = some p := by
      intro k p hk hd
      by_cases hkn : k = n
      · subst hkn; rw [Hp.set_same] at hk; cases hk; exact absurd rfl hd
      · rw [Hp.set_ne _ _ hkn] at hk; exact hk
    exact h.apart k l p q c M K (back k p hk hdp) (back l q hl hdq) hdp hdq hGk hGl
end Go.Proofs.Ytmpheeanjjfddaa.SM
