/- Library functions as given functions of the small machine. -/
import Derived.Test.YtmpheeanjjfddaaDoorAMCall
import Derived.Test.YtmpheeanjjfddaaDoorHStr
import Derived.Test.YtmpheeanjjfddaaDoorHBase
namespace Go.Proofs.YtmpheeanjjfddaaDoor.AM
open Go Go.RowKit Go.Proofs.YtmpheeanjjfddaaDoor.X Go.Proofs.YtmpheeanjjfddaaDoorW.PrintWords Go.Proofs.YtmpheeanjjfddaaDoorW.PrintLast Go.Proofs.YtmpheeanjjfddaaDoorW.PrintMore
set_option linter.unusedVariables false
set_option linter.unusedSimpArgs false
variable {P : Program} {E : Env} {base : Nat} {w0 w w' : World} {s s' : St}

theorem WR.step {H : Hp} (hW : WR E base w0 H w) (hb : Below w.heap.size w w') : WR E base w0 H w' :=
  ⟨below_of hW.below hb.os hb.tape hb.output hb.size (fun k hk => hb.block k (by have := hW.big; omega)), Nat.le_trans hW.big hb.size,
    fun n o b N hn hG => by obtain ⟨h1, h2, h3⟩ := hW.live n o b N hn hG; exact ⟨h1, Nat.lt_of_lt_of_le h2 hb.size, OR_same (hb.block b h2) h3⟩, hW.dom, hW.kin⟩
abbrev Ora := List AV → St → Option (AV × St)
/-- A given function is a call of the model. -/
def OneOK (P : Program) (base : Nat) (w0 : World) (f : FuncId) (o : Ora) : Prop := ∀ args s v s', o args s = some (v, s') → ∀ E w (cargs : Array Value), WR E base w0 s.H w → VRs E args cargs.toList →
  Calls P f cargs w fun e w' => ∃ E' cv, e = .returned cv ∧ E.le E' ∧ VR E' v cv ∧ WR E' base w0 s'.H w'
def orcOf : List (FuncId × Ora) → Orc
  | [], _ => none
  | (g, o) :: r, f => if Nat.beq g f then some o else orcOf r f
def AllOK (P : Program) (base : Nat) (w0 : World) : List (FuncId × Ora) → Prop
  | [] => True
  | (g, o) :: r => OneOK P base w0 g o ∧ AllOK P base w0 r
theorem orcOf_ok : ∀ (l : List (FuncId × Ora)), AllOK P base w0 l → OrcOK P base w0 (orcOf l)
  | [], _ => fun f o h => by cases h
  | (g, o) :: r, hl => by
    intro f o' h
    simp only [orcOf] at h
    split at h
    · rename_i hg
      cases h
      simp only [Nat.beq_eq] at hg
      subst hg
      exact hl.1
    · exact orcOf_ok r hl.2 f o' h

def ofB (r : ByteArray) : AV := .str (r.data.toList.map UInt8.toNat)
theorem VR_ofB (r : ByteArray) : VR E (ofB r) (.string r) := by
  simp only [ofB, VR, BS_of]
  exact ⟨trivial, fun x hx => by obtain ⟨b, _, rfl⟩ := List.mem_map.1 hx; exact UInt8.toNat_lt b⟩
def strB : AV → Option ByteArray
  | .str l => some (BS l)
  | _ => none
theorem strB_ok {a : AV} {x : ByteArray} {v : Value} (h : strB a = some x) (hv : VR E a v) : v = .string x := by
  unfold strB at h
  split at h
  · cases h; simp only [VR] at hv; exact hv.1
  · cases h
theorem args1 {a : AV} {cargs : Array Value} (h : VRs E [a] cargs.toList) : ∃ x, cargs = #[x] ∧ VR E a x := by
  simp only [VRs] at h
  obtain ⟨x, m, hm, hx, rfl⟩ := h
  exact ⟨x, by rw [← Array.toList_inj]; exact hm, hx⟩
theorem args2 {a b : AV} {cargs : Array Value} (h : VRs E [a, b] cargs.toList) : ∃ x y, cargs = #[x, y] ∧ VR E a x ∧ VR E b y := by
  simp only [VRs] at h
  obtain ⟨x, m, hm, hx, y, m', rfl, hy, rfl⟩ := h
  exact ⟨x, y, by rw [← Array.toList_inj]; exact hm, hx, hy⟩
/-- Of texts, something without an address. -/
def oSI (f : ByteArray → Int → Option Int) : Ora
  | [a, .int .u8 n], s => match strB a with
    | some x => (f x n).map fun r => (.int .i64 r, s)
    | none => none
  | _, _ => none
def oSS (f : ByteArray → ByteArray → Option Int) : Ora
  | [a, b], s => match strB a, strB b with
    | some x, some y => (f x y).map fun r => (.int .i64 r, s)
    | _, _ => none
  | _, _ => none
def oSSB (f : ByteArray → ByteArray → Option Bool) : Ora
  | [a, b], s => match strB a, strB b with
    | some x, some y => (f x y).map fun r => (.bool r, s)
    | _, _ => none
  | _, _ => none
def oSSS (f : ByteArray → ByteArray → Option ByteArray) : Ora
  | [a, b], s => match strB a, strB b with
    | some x, some y => (f x y).map fun r => (ofB r, s)
    | _, _ => none
  | _, _ => none
theorem orc_pure {n : FuncId} {cargs : Array Value} {v : AV} {cv : Value} (hW : WR E base w0 s.H w) (hv : VR E v cv) (h : Calls P n cargs w fun e w' => e = .returned cv ∧ Below w.heap.size w w') :
    Calls P n cargs w fun e w' => ∃ E' cv, e = .returned cv ∧ E.le E' ∧ VR E' v cv ∧ WR E' base w0 s.H w' := by
  refine h.mono ?_
  rintro e w' ⟨rfl, hb⟩
  exact ⟨E, cv, rfl, Env.le_refl E, hv, hW.step hb⟩
theorem oSI_ok {n : FuncId} {f : ByteArray → Int → Option Int} (hc : ∀ a m r w, Below base w0 w → f a m = some r → Calls P n #[.string a, .int .u8 m] w fun e w' => e = .returned (.int .i64 r) ∧ Below w.heap.size w w') : OneOK P base w0 n (oSI f) := by
  intro args s v s' h E w cargs hW hargs
  unfold oSI at h
  split at h
  · split at h
    · rename_i x hx
      obtain ⟨r, hr, he⟩ := Option.map_eq_some_iff.1 h
      cases he
      obtain ⟨cx, cy, rfl, hvx, hvy⟩ := args2 hargs
      rw [strB_ok hx hvx]
      simp only [VR] at hvy
      subst hvy
      exact orc_pure hW (by simp only [VR]) (hc _ _ _ w hW.below hr)
    · cases h
  · cases h
theorem oSS_ok {n : FuncId} {f : ByteArray → ByteArray → Option Int} (hc : ∀ a b r w, Below base w0 w → f a b = some r → Calls P n #[.string a, .string b] w fun e w' => e = .returned (.int .i64 r) ∧ Below w.heap.size w w') : OneOK P base w0 n (oSS f) := by
  intro args s v s' h E w cargs hW hargs
  unfold oSS at h
  split at h
  · split at h
    · rename_i x y hx hy
      obtain ⟨r, hr, he⟩ := Option.map_eq_some_iff.1 h
      cases he
      obtain ⟨cx, cy, rfl, hvx, hvy⟩ := args2 hargs
      rw [strB_ok hx hvx, strB_ok hy hvy]
      exact orc_pure hW (by simp only [VR]) (hc _ _ _ w hW.below hr)
    · cases h
  · cases h
theorem oSSB_ok {n : FuncId} {f : ByteArray → ByteArray → Option Bool} (hc : ∀ a b r w, Below base w0 w → f a b = some r → Calls P n #[.string a, .string b] w fun e w' => e = .returned (.bool r) ∧ Below w.heap.size w w') : OneOK P base w0 n (oSSB f) := by
  intro args s v s' h E w cargs hW hargs
  unfold oSSB at h
  split at h
  · split at h
    · rename_i x y hx hy
      obtain ⟨r, hr, he⟩ := Option.map_eq_some_iff.1 h
      cases he
      obtain ⟨cx, cy, rfl, hvx, hvy⟩ := args2 hargs
      rw [strB_ok hx hvx, strB_ok hy hvy]
      exact orc_pure hW (by simp only [VR]) (hc _ _ _ w hW.below hr)
    · cases h
  · cases h
theorem oSSS_ok {n : FuncId} {f : ByteArray → ByteArray → Option ByteArray} (hc : ∀ a b r w, Below base w0 w → f a b = some r → Calls P n #[.string a, .string b] w fun e w' => e = .returned (.string r) ∧ Below w.heap.size w w') : OneOK P base w0 n (oSSS f) := by
  intro args s v s' h E w cargs hW hargs
  unfold oSSS at h
  split at h
  · split at h
    · rename_i x y hx hy
      obtain ⟨r, hr, he⟩ := Option.map_eq_some_iff.1 h
      cases he
      obtain ⟨cx, cy, rfl, hvx, hvy⟩ := args2 hargs
      rw [strB_ok hx hvx, strB_ok hy hvy]
      exact orc_pure hW (VR_ofB r) (hc _ _ _ w hW.below hr)
    · cases h
  · cases h
/-! slices of texts -/
def strsB : List AV → Option (List ByteArray)
  | [] => some []
  | .str l :: r => (strsB r).map (BS l :: ·)
  | _ => none
def sliceStrs (v : AV) (s : St) : Option (List ByteArray) :=
  match v with
  | .nilsl | .esl => some []
  | .sl n off len sz => match sliceCells (.sl n off len sz) s with
    | some cs => match strsB cs with
      | some l => if l.length = len ∧ len ≤ 1000000 then some l else none
      | none => none
    | none => none
  | _ => none
theorem strsB_ok : ∀ (cs : List AV) (l : List ByteArray) (m : List Value), strsB cs = some l → VRs E cs m → m = l.map Value.string
  | [], l, m, h, hv => by cases h; simp only [VRs] at hv; subst hv; rfl
  | c :: r, l, m, h, hv => by
    unfold strsB at h
    split at h
    · rename_i he; cases he
    · rename_i x r' he
      cases he
      obtain ⟨l', hl, rfl⟩ := Option.map_eq_some_iff.1 h
      simp only [VRs] at hv
      obtain ⟨y, m', rfl, hy, hm⟩ := hv
      simp only [VR] at hy
      rw [hy.1, strsB_ok r _ m' hl hm]
      rfl
    · cases h
theorem strs_C (hW : WR E base w0 s.H w) {v : AV} {cv : Value} (hv : VR E v cv) {l : List ByteArray} (h : sliceStrs v s = some l) : ∃ A c, cv = .slice A l.length c ∧ l.length ≤ c ∧ Kd.C Kd.string w A l.length l := by
  unfold sliceStrs at h
  split at h
  · cases h
    simp only [VR] at hv
    exact ⟨none, 0, hv, Nat.le_refl _, rfl, by simp, fun h => by simp at h⟩
  · cases h
    simp only [VR] at hv
    obtain ⟨ad, c, rfl⟩ := hv
    exact ⟨some ad, c, rfl, Nat.zero_le _, rfl, by simp, fun h => by simp at h⟩
  · rename_i n off len sz
    split at h
    · rename_i cs hcs
      split at h
      · rename_i l' hl
        split at h
        · rename_i hle
          cases h
          obtain ⟨hlen, hbig⟩ := hle
          simp only [VR] at hv
          obtain ⟨b, N, c, hG, rfl, hlc, _⟩ := hv
          subst hlen
          simp only [sliceCells] at hcs
          split at hcs
          · rename_i vs hvs
            split at hcs
            · rename_i hfit
              cases hcs
              obtain ⟨arr, ty, h1, h2, h3, h4⟩ := cells_of hW hvs hG
              have hV : VRs E ((vs.drop off).take (l.length * sz)) ((arr.toList.drop off).take (l.length * sz)) := by
                have h5 := VRs_take (l.length * sz) (VRs_drop off h4)
                have e : ((arr.toList.take vs.length).drop off).take (l.length * sz) = (arr.toList.drop off).take (l.length * sz) := by
                  rw [List.drop_take, List.take_take, Nat.min_eq_left (by omega)]
                rwa [e] at h5
              have hm := strsB_ok _ _ _ hl hV
              refine ⟨_, c, rfl, hlc, rfl, by omega, fun _ => ⟨_, rfl, fun j p hj => ⟨[.string p], rfl, rfl, fun i u hi => ?_⟩⟩⟩
              have hi0 : i = 0 := by
                have := (List.getElem?_eq_some_iff.1 hi).1
                simp at this; exact this
              subst hi0
              have hu : u = .string p := by simpa using hi.symm
              subst hu
              have hjl : j < l.length := (List.getElem?_eq_some_iff.1 hj).1
              have h6 : ((arr.toList.drop off).take (l.length * sz))[j]? = some (.string p) := by rw [hm]; simp [hj]
              have hjs : j < l.length * sz := by
                have := (List.getElem?_eq_some_iff.1 h6).1
                simp at this; omega
              rw [List.getElem?_take, if_pos hjs, List.getElem?_drop] at h6
              show w.cell? ((⟨b, off, none⟩ : Addr).add (j * 1 + 0)) = _
              rw [Nat.mul_one, Nat.add_zero, addr_add, cell_at h1]
              simpa using h6
            · cases hcs
          · cases hcs
        · cases h
      · cases h
    · cases h
  · cases h
def oJoin (f : List ByteArray → ByteArray → Option ByteArray) : Ora
  | [a, b], s => match sliceStrs a s, strB b with
    | some l, some y => (f l y).map fun r => (ofB r, s)
    | _, _ => none
  | _, _ => none
theorem oJoin_ok {n : FuncId} {f : List ByteArray → ByteArray → Option ByteArray} (hc : ∀ A c l b r w, Below base w0 w → Kd.C Kd.string w A l.length l → l.length ≤ c → f l b = some r → Calls P n #[.slice A l.length c, .string b] w fun e w' => e = .returned (.string r) ∧ Below w.heap.size w w') : OneOK P base w0 n (oJoin f) := by
  intro args s v s' h E w cargs hW hargs
  unfold oJoin at h
  split at h
  · split at h
    · rename_i l y hl hy
      obtain ⟨r, hr, he⟩ := Option.map_eq_some_iff.1 h
      cases he
      obtain ⟨cx, cy, rfl, hvx, hvy⟩ := args2 hargs
      obtain ⟨A, c, rfl, hlc, hC⟩ := strs_C hW hvx hl
      rw [strB_ok hy hvy]
      exact orc_pure hW (VR_ofB r) (hc A c l y r w hW.below hC hlc hr)
    · cases h
  · cases h
/-- A new row of texts. -/
def newStrs (t : TypeId) (r : List ByteArray) (s : St) : Option (AV × St) :=
  match r with
  | [] => some (.nilsl, s)
  | x :: m => match s.alloc (.row ((x :: m).map ofB) t s.nx) with
    | some (nm, s') => some (.sl nm 0 (m.length + 1) 1, s')
    | none => none
theorem VRs_ofB : ∀ (l : List ByteArray), VRs E (l.map ofB) (l.map Value.string)
  | [] => VRs_nil
  | x :: r => VRs_cons (VR_ofB x) (VRs_ofB r)
theorem newStrs_ok {n : FuncId} {cargs : Array Value} {t : TypeId} {r : List ByteArray} (hW : WR E base w0 s.H w) {v : AV} (hn : newStrs t r s = some (v, s'))
    (hne : ∀ (v0 : Value), r = [] → ∀ w' : World, Kd.R Kd.string t w' w.heap.size (fun _ => True) v0 r → v0 = .slice none 0 0)
    (h : Calls P n cargs w fun e w' => ∃ v0 : Value, e = .returned v0 ∧ Kd.R Kd.string t w' w.heap.size (fun _ => True) v0 r ∧ Below w.heap.size w w') :
    Calls P n cargs w fun e w' => ∃ E' cv, e = .returned cv ∧ E.le E' ∧ VR E' v cv ∧ WR E' base w0 s'.H w' := by
  refine h.mono ?_
  rintro e w' ⟨v0, rfl, hR, hb⟩
  have hW1 := hW.step hb
  unfold newStrs at hn
  split at hn
  · cases hn
    exact ⟨E, v0, rfl, Env.le_refl E, by simp only [VR]; exact hne v0 rfl w' hR, hW1⟩
  · rename_i x m
    split at hn
    · rename_i nm s2 hal
      cases hn
      obtain ⟨hq, hH, _⟩ := St.alloc_ok hal
      obtain ⟨_, inner, ⟨hil, hown⟩, hel⟩ := hR
      rcases hown with ⟨_, h0⟩ | ⟨g, cap, cur, rfl, hg, hcur, hcap, _, hsz, htake⟩
      · simp at h0
      · have hinner : inner = (x :: m).map Value.string := by
          apply List.ext_getElem?
          intro j
          by_cases hj : j < (x :: m).length
          · have h1 := hel.2 j (x :: m)[j] (List.getElem?_eq_getElem hj)
            have h2 : List.take 1 (List.drop (j * 1) inner) = [Value.string (x :: m)[j]] := h1
            rw [Nat.mul_one] at h2
            have hji : j < inner.length := by rw [hil]; simpa [Kd.string, Kd.scalar] using hj
            rw [List.drop_eq_getElem_cons hji] at h2
            simp only [List.take_succ_cons, List.take_zero, List.cons.injEq, and_true] at h2
            rw [List.getElem?_eq_getElem hji, h2, List.getElem?_map, List.getElem?_eq_getElem hj]
            rfl
          · rw [List.getElem?_eq_none (by rw [hil]; simpa [Kd.string, Kd.scalar] using hj), List.getElem?_eq_none (by simpa using hj)]
        have hlt : g < w'.heap.size := (Array.getElem?_eq_some_iff.1 hcur).1
        have hle : E.le (E.set nm g cur.size) := Env.le_set (hW.dom _ hq)
        have hsz1 : cur.size = cap * 1 := hsz
        refine ⟨E.set nm g cur.size, _, rfl, hle, ?_, ?_⟩
        · simp only [VR]
          refine ⟨g, cur.size, cap, Env.get_set _ _ _ _, rfl, hcap, by omega⟩
        · rw [hH]
          refine hW1.alias hq (Nat.le_trans hW.big hg) hlt _ ?_ ?_
          · refine ⟨cur, hcur, rfl, ?_, ?_⟩
            · simp at hcap ⊢; omega
            · rw [hinner] at htake
              have e1 : ((x :: m).map ofB).length = (x :: m).length * Kd.string.sz := by simp [Kd.string, Kd.scalar]
              rw [e1, htake]
              exact VRs_ofB _
          · intro k p M hk hGk
            have := (hW.live k p g M hk hGk).2.1
            omega
    · cases hn
end Go.Proofs.YtmpheeanjjfddaaDoor.AM
