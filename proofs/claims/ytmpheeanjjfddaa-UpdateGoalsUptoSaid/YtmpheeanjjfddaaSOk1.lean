/- Operations that look at no world answer so. -/
import Derived.Test.YtmpheeanjjfddaaSAc
import Derived.Laws.StructEq
import Derived.Laws.Entries
import Derived.Laws.Slices
namespace Go.Proofs.Ytmpheeanjjfddaa.SM
open Go Go.RowKit
set_option linter.unusedVariables false
set_option linter.unusedSimpArgs false
variable {P : Program} {E : Env} {tm : Tm} {a : Act} {o : Oper} {v : V}

theorem B_of (s : ByteArray) : B s.data.toList = s := by cases s; simp [B]
theorem B_data (l : List UInt8) : (B l).data.toList = l := by simp [B]
theorem B_toList (l : List UInt8) : (B l).toList = l := by rw [ByteArray.toList_eq, B_data]
theorem B_size (l : List UInt8) : (B l).size = l.length := by simp [B, ByteArray.size]
theorem B_inj {a b : List UInt8} (h : B a = B b) : a = b := by rw [← B_data a, h, B_data]
theorem data_eq {a b : ByteArray} (h : a.data.toList = b.data.toList) : a = b := by rw [← B_of a, ← B_of b, h]
theorem B_append (a b : List UInt8) : B a ++ B b = B (a ++ b) := data_eq (by rw [B_data, ByteArray.data_append, Array.toList_append, B_data, B_data])
theorem B_extract (l : List UInt8) (i j : Nat) : (B l).extract i j = B ((l.take j).drop i) := by
  apply data_eq
  rw [B_data]
  simp only [B, ByteArray.data_extract, Array.toList_extract, List.extract_eq_take_drop, List.drop_take]
theorem B_beq (a b : List UInt8) : (B a == B b) = decide (a = b) := by
  rw [Bool.eq_iff_iff]
  constructor
  · intro h
    have h' : ((B a).data == (B b).data) = true := h
    have h2 : (B a).data = (B b).data := eq_of_beq h'
    have := congrArg Array.toList h2
    simpa [B] using this
  · intro h
    have := of_decide_eq_true h
    subst this
    show ((B a).data == (B a).data) = true
    simp
theorem less_eq : ∀ (a b : List UInt8), Op.bytesLess a b = decide (a < b)
  | [], [] => by simp [Op.bytesLess]
  | [], b :: s => by simp [Op.bytesLess]
  | a :: r, [] => by simp [Op.bytesLess]
  | a :: r, b :: s => by
    simp only [Op.bytesLess, less_eq r s, List.cons_lt_cons_iff]
    by_cases h : a < b <;> by_cases e : a = b <;> simp [h, e]
theorem lt_of_not {a b : List UInt8} (h : ¬ a < b) (hne : a ≠ b) : b < a :=
  Classical.byContradiction fun h2 => hne (List.le_antisymm (List.not_lt.1 h2) (List.not_lt.1 h))

theorem ofS_ok (v : Value) : VR E (ofS v) v := by
  unfold ofS
  split <;> simp only [VR]
  rw [B_of]
theorem ofSs_ok : ∀ (l : List Value), VRs E (l.map ofS) l
  | [] => VRs_nil
  | x :: r => VRs_cons (ofS_ok x) (ofSs_ok r)
theorem ofV_ok (v : Value) : VR E (ofV v) v := by
  unfold ofV
  split
  · simp only [VR]; exact ⟨_, rfl, ofSs_ok _⟩
  · simp only [VR]; exact ⟨_, rfl, ofSs_ok _⟩
  · exact ofS_ok _
def TR (E : Env) (tm : Tm) (a : Act) : Prop := VRs E tm a.tmps.toList
theorem ev_ok (h : TR E tm a) (x : Operand) : VR E (ev tm x) (a.eval x) := by
  cases x with
  | tmp t =>
    have := VRs_getD h t
    simpa [Act.eval, ev, Array.getD_eq_getD_getElem?, List.getD] using this
  | const v => exact ofV_ok v
  | global g => simp only [ev, VR]
  | func f => simp only [ev, VR, Act.eval]; exact ⟨#[], #[], rfl, VRs_nil, VRs_nil⟩
theorem evs_ok (h : TR E tm a) : ∀ (l : List Operand), VRs E (l.map (ev tm)) (l.map a.eval)
  | [] => VRs_nil
  | x :: r => VRs_cons (ev_ok h x) (evs_ok h r)
theorem TR_put (h : TR E tm a) {d : Option Tmp} {v : V} {cv : Value} (hv : VR E v cv) : TR E (put tm d v) (a.put d cv) := by
  cases d with
  | none => exact h
  | some d =>
    unfold TR put Act.put
    simp only [Array.toList_setIfInBounds]
    exact VRs_set d h hv
theorem run_sizeOf {t : TypeId} {n : Nat} (h : sizeA P t = some n) (w : World) : (sizeOf t).run P w = .ok n w := by
  unfold sizeA at h
  simp only [Option.map_eq_some_iff] at h
  obtain ⟨i, hi, rfl⟩ := h
  simp [sizeOf, typeInfo, hi]
theorem run_isAgg {t : TypeId} {b : Bool} (h : isAggA P t = some b) (w : World) : (isAgg t).run P w = .ok b w := by
  unfold isAggA at h
  simp only [Option.map_eq_some_iff] at h
  obtain ⟨d, hd, he⟩ := h
  simp only [isAgg, Sem.run_bind, run_underlying hd, Result.andThen_ok]
  cases d <;> simp_all
theorem run_zero {t : TypeId} {z : V} (h : zeroA P t = some z) : ∃ cz, VR E z cz ∧ z = ofV cz ∧ ∀ w, (zeroValue t).run P w = .ok cz w := by
  unfold zeroA at h
  obtain ⟨cz, hcz, hz⟩ := Option.map_eq_some_iff.1 h
  obtain ⟨i, hi, hiz⟩ := Option.bind_eq_some_iff.1 hcz
  exact ⟨cz, hz ▸ ofV_ok cz, hz.symm, fun w => by simp [zeroValue, typeInfo, hi, hiz]⟩
theorem addr_add (b o n : Nat) : (⟨b, o, none⟩ : Addr).add n = ⟨b, o + n, none⟩ := by unfold Addr.add; split <;> simp_all

/-! cells -/
theorem cells1 {v : V} {cv : Value} (h : oneV v = true) (hv : VR E v cv) : cv.cells = #[cv] ∧ cv.oneCell' = true := by
  cases v <;> simp only [VR] at hv
  case any => cases h
  case agg => cases h
  case tuple => cases h
  case ptr => obtain ⟨_, _, _, rfl⟩ := hv; exact ⟨rfl, rfl⟩
  case vptr => obtain ⟨_, _, _, rfl, _⟩ := hv; exact ⟨rfl, rfl⟩
  case zsl => obtain ⟨_, rfl⟩ := hv; exact ⟨rfl, rfl⟩
  case vsl => obtain ⟨_, _, _, rfl, _⟩ := hv; exact ⟨rfl, rfl⟩
  case osl => obtain ⟨_, _, _, _, rfl, _⟩ := hv; exact ⟨rfl, rfl⟩
  case sl => obtain ⟨_, _, _, _, rfl, _⟩ := hv; exact ⟨rfl, rfl⟩
  case map => obtain ⟨_, _, _, rfl⟩ := hv; exact ⟨rfl, rfl⟩
  case func => obtain ⟨_, _, rfl, _⟩ := hv; exact ⟨rfl, rfl⟩
  case iface => obtain ⟨_, rfl, _⟩ := hv; exact ⟨rfl, rfl⟩
  case stamp => obtain ⟨_, _, _, _, _, rfl⟩ := hv; exact ⟨rfl, rfl⟩
  all_goals (subst hv; exact ⟨rfl, rfl⟩)
theorem oneE_ok {v : V} {A : Prop} (h : oneE v A) : oneV v = true ∧ A := by
  cases v <;> first | exact h.elim | exact ⟨rfl, h⟩
theorem onesE_ok : ∀ {l : List V} {A : Prop}, onesE l A → l.all oneV = true ∧ A
  | [], A, h => ⟨rfl, h⟩
  | v :: r, A, h => by
    obtain ⟨h1, h2⟩ := oneE_ok h
    obtain ⟨h3, h4⟩ := onesE_ok h2
    exact ⟨by simp [h1, h3], h4⟩
theorem cellsE_ok {agg : Bool} {n : Nat} {v : V} {K : List V → Prop} {cv : Value} (h : cellsE agg n v K) (hv : VR E v cv) : ∃ cs, K cs ∧ VRs E cs cv.cells.toList ∧ cs.length = n := by
  unfold cellsE at h
  cases agg with
  | true =>
    cases v <;> simp only [aggE] at h
    rename_i l
    simp only [VR] at hv
    obtain ⟨cs, rfl, hc⟩ := hv
    split at h
    · rename_i hn
      exact ⟨l, h, hc, Nat.eq_of_beq_eq_true hn⟩
    · exact h.elim
  | false =>
    simp only at h
    split at h
    rotate_left
    · exact h.elim
    rename_i hn
    obtain rfl := Nat.eq_of_beq_eq_true hn
    obtain ⟨h1, hK⟩ := oneE_ok h
    refine ⟨_, hK, ?_, rfl⟩
    rw [(cells1 h1 hv).1]
    exact VRs_cons hv VRs_nil
theorem cellsT_ok {t : TypeId} {v : V} {K : List V → Prop} {cv : Value} (h : cellsT P t v K) (hv : VR E v cv) : ∃ n cs, sizeA P t = some n ∧ K cs ∧ VRs E cs cv.cells.toList ∧ cs.length = n ∧ cv.cells.size = n := by
  unfold cellsT at h
  simp only [optP_iff] at h
  obtain ⟨a, ha, n, hn, h⟩ := h
  obtain ⟨cs, h1, h2, h3⟩ := cellsE_ok h hv
  have := VRs_length _ _ h2
  exact ⟨n, cs, hn, h1, h2, h3, by simp at this; omega⟩
theorem cellsA_ok {v : V} {cv : Value} (hv : VR E v cv) (hc : v ≠ .any) (ht : ∀ l, v ≠ .tuple l) : VRs E (cellsA v) cv.cells.toList := by
  by_cases h1 : oneV v = true
  · rw [(cells1 h1 hv).1]
    have : cellsA v = [v] := by cases v <;> first | rfl | cases h1
    rw [this]; exact VRs_cons hv VRs_nil
  · cases v <;> first | exact absurd rfl h1 | exact absurd rfl hc | exact absurd rfl (ht _) | skip
    simp only [VR] at hv
    obtain ⟨cs, rfl, h⟩ := hv
    simpa [cellsA, Value.cells] using h
theorem cellsA_z {cz : Value} : VRs E (cellsA (ofV cz)) cz.cells.toList := by
  have one : ∀ x : Value, VRs E (cellsA (ofS x)) [x] := by
    intro x
    have : cellsA (ofS x) = [ofS x] := by unfold ofS; split <;> rfl
    rw [this]; exact VRs_cons (ofS_ok _) VRs_nil
  cases cz
  case agg cs => simp only [ofV, cellsA, Value.cells]; exact ofSs_ok _
  case tuple cs => simp only [ofV, cellsA, Value.cells]; exact VRs_cons (by simp only [VR]; exact ⟨_, rfl, ofSs_ok _⟩) VRs_nil
  all_goals (simp only [ofV, Value.cells]; exact one _)
theorem run_part1 {t : TypeId} {cs : Array Value} {off : Nat} {x : Value} (ha : isAggA P t = some false) (h : cs[off]? = some x) (w : World) : (part t cs off).run P w = .ok x w := by
  simp only [part, Sem.run_bind, run_isAgg ha, Result.andThen_ok, Bool.false_eq_true, if_false, h, Sem.run_pure]
theorem partT_ok {t : TypeId} {off : Nat} {l : List V} {cs : Array Value} {K : V → Prop} (hl : VRs E l cs.toList) (h : partT P t l off K) : ∃ v, K v ∧ ∃ cv, VR E v cv ∧ ∀ w, (part t cs off).run P w = .ok cv w := by
  unfold partT at h
  simp only [optP_iff] at h
  obtain ⟨b, hb, k, hk, h⟩ := h
  cases b with
  | true =>
    simp only [partE] at h
    split at h
    · rename_i hle
      refine ⟨_, h, .agg (cs.extract off (off + k)), ?_, fun w => ?_⟩
      · simp only [VR]
        refine ⟨_, rfl, ?_⟩
        rw [Array.toList_extract, List.extract_eq_take_drop, show off + k - off = k by omega]
        exact VRs_take _ (VRs_drop _ hl)
      · simp only [part, Sem.run_bind, run_isAgg hb, Result.andThen_ok, if_true, run_sizeOf hk, Sem.run_pure]
    · exact h.elim
  | false =>
    simp only [partE, optP_iff] at h
    obtain ⟨v, hv, h⟩ := h
    obtain ⟨cv, hcv, hvv⟩ := VRs_get _ _ hl _ _ hv
    exact ⟨v, h, cv, hvv, fun w => run_part1 hb (by simpa using hcv) w⟩

/-! build -/
theorem foldl_put (off : Nat) : ∀ (vs : List Value) (k : Nat) (cs : Array Value), off + k + vs.length ≤ cs.size →
    ((vs.zipIdx k).foldl (fun cs (x : Value × Nat) => cs.setIfInBounds (off + x.2) x.1) cs).toList = cs.toList.take (off + k) ++ vs ++ cs.toList.drop (off + k + vs.length)
  | [], k, cs, h => by simp
  | x :: r, k, cs, h => by
    simp only [List.zipIdx_cons, List.foldl_cons]
    have hl : off + (k + 1) + r.length ≤ (cs.setIfInBounds (off + k) x).size := by simp at h ⊢; omega
    rw [foldl_put off r (k + 1) _ hl]
    simp only [Array.toList_setIfInBounds]
    have h' : off + k < cs.toList.length := by simp at h ⊢; omega
    have e1 : (cs.toList.set (off + k) x).take (off + (k + 1)) = cs.toList.take (off + k) ++ [x] := by
      rw [← Nat.add_assoc, List.take_succ_eq_append_getElem (by simpa using h')]
      simp [List.take_set_of_le]
    rw [e1]
    simp only [List.append_assoc, List.singleton_append, List.length_cons, List.cons_append, List.nil_append]
    congr 3
    rw [show off + (k + 1) + r.length = off + k + (r.length + 1) by omega, List.drop_set_of_lt (by omega)]
def Parts (E : Env) : List (Nat × V) → List (Nat × Value) → Prop
  | [], m => m = []
  | (i, v) :: r, m => ∃ cv m', m = (i, cv) :: m' ∧ VR E v cv ∧ Parts E r m'
theorem parts_ok (htm : TR E tm a) : ∀ (l : List (Nat × Operand)), Parts E (l.map fun p => (p.1, ev tm p.2)) (l.map fun p => (p.1, a.eval p.2))
  | [] => by simp [Parts]
  | (i, x) :: r => ⟨_, _, rfl, ev_ok htm x, parts_ok htm r⟩
theorem put_len (vs c : List V) (off : Nat) (h : off + c.length ≤ vs.length) : (putRange vs off c).length = vs.length := by simp [putRange]; omega
theorem fillE_ok (place : Nat → Option (Nat × TypeId)) (pl : Nat → Option (Nat × Nat)) (hpl : ∀ i p n, place i = some p → sizeA P p.2 = some n → pl i = some (p.1, n)) {K : List V → Prop} : ∀ (parts : List (Nat × V)) (cparts : List (Nat × Value)) (cells : List V) (cs : Array Value),
    Parts E parts cparts → VRs E cells cs.toList → fillE P place parts cells K → ∃ out, K out ∧ out.length = cells.length ∧ ∃ out' : Array Value, Instr.fill pl cs cparts = some out' ∧ VRs E out out'.toList
  | [], cparts, cells, cs, hp, hc, h => by
    simp only [Parts] at hp; subst hp
    exact ⟨cells, h, rfl, cs, rfl, hc⟩
  | (i, v) :: r, cparts, cells, cs, hp, hc, h => by
    simp only [Parts] at hp
    obtain ⟨cv, m', rfl, hv, hp⟩ := hp
    simp only [fillE, optP_iff] at h
    obtain ⟨p, hp1, h⟩ := h
    obtain ⟨n, c1, hn, h, hcv, hcn, hsz⟩ := cellsT_ok h hv
    have hlen := VRs_length _ _ hcv
    have hcl := VRs_length _ _ hc
    split at h
    · rename_i hle
      have hle := Nat.le_of_ble_eq_true hle
      have h2 : ¬ (cv.cells.size ≠ n ∨ p.1 + cv.cells.size > cs.size) := by
        have h3 : cs.size = cs.toList.length := by simp
        rw [h3, hcl, hsz]
        omega
      have hput : VRs E (putRange cells p.1 c1) ((cv.cells.zipIdx.foldl (fun cs (x : Value × Nat) => cs.setIfInBounds (p.1 + x.2) x.1) cs)).toList := by
        rw [← Array.foldl_toList, Array.toList_zipIdx]
        have hle2 : p.1 + 0 + cv.cells.toList.length ≤ cs.size := by
          have h3 : cs.size = cs.toList.length := by simp
          rw [h3, hlen, hcl]; omega
        rw [foldl_put p.1 _ 0 cs hle2]
        simp only [Nat.add_zero, putRange]
        refine VRs_append (VRs_append (VRs_take _ hc) hcv) ?_
        rw [hlen]
        exact VRs_drop _ hc
      obtain ⟨out, ho, hol, out', ho', hr⟩ := fillE_ok place pl hpl r m' _ _ hp hput h
      refine ⟨out, ho, by rw [hol, put_len _ _ _ hle], out', ?_, hr⟩
      simp only [Instr.fill, hpl i p n hp1 hn]
      rw [if_neg (by simpa using h2)]
      exact ho'
    · exact h.elim
theorem sizes_ok : ∀ (l : List Field), (l.all fun f => (sizeA P f.type).isSome) = true → ∃ m : List (Nat × Nat), (∀ w, (l.mapM fun f => (do pure (f.offset, ← sizeOf f.type) : Sem (Nat × Nat))).run P w = .ok m w) ∧ ∀ (i : Nat) (f : Field) (n : Nat), l[i]? = some f → sizeA P f.type = some n → m[i]? = some (f.offset, n)
  | [], h => ⟨[], fun w => by simp, fun i f n hi => by simp at hi⟩
  | g :: l, h => by
    simp only [List.all_cons, Bool.and_eq_true] at h
    obtain ⟨k, hk⟩ := Option.isSome_iff_exists.1 h.1
    obtain ⟨m, hm, hm2⟩ := sizes_ok l h.2
    refine ⟨(g.offset, k) :: m, fun w => ?_, fun i f n hi hn => ?_⟩
    · simp only [List.mapM_cons, Sem.run_bind, run_sizeOf hk, Result.andThen_ok, Sem.run_pure]
      rw [hm]
      rfl
    · cases i with
      | zero => simp at hi; subst hi; rw [hk] at hn; cases hn; rfl
      | succ i => simpa using hm2 i f n (by simpa using hi) hn
theorem buildE_ok {t : TypeId} {parts : List (Nat × V)} {cparts : Array (Nat × Value)} {K : V → Prop} (hp : Parts E parts cparts.toList) (h : buildE P t parts K) :
    ∃ v, K v ∧ ∃ cv, VR E v cv ∧ ∀ w, (Instr.build t cparts).run P w = .ok cv w := by
  unfold buildE at h
  simp only [optP_iff] at h
  obtain ⟨z, hz, h⟩ := h
  obtain ⟨cz, hvz, rfl, hrz⟩ := run_zero (E := E) hz
  split at h
  · rename_i fields hu
    split at h
    · rename_i hall
      obtain ⟨m, hm, hm2⟩ := sizes_ok _ hall
      obtain ⟨out, hK, _, out', ho', hr⟩ := fillE_ok _ (fun i => m[i]?) (by
        intro i p n hp hn
        obtain ⟨f, hf, rfl⟩ := Option.map_eq_some_iff.1 hp
        exact hm2 i f n hf hn) parts _ _ _ hp cellsA_z h
      refine ⟨_, hK, .agg out', by simp only [VR]; exact ⟨out', rfl, hr⟩, fun w => ?_⟩
      simp only [Instr.build, Sem.run_bind, hrz, Result.andThen_ok, run_underlying hu, Array.mapM_eq_mapM_toList, Sem.run_map, hm]
      have e : (fun i : Nat => (m.toArray)[i]?) = fun i => m[i]? := by funext i; simp
      simp only [e, ho', Sem.run_pure]
    · exact h.elim
  · rename_i n e hu
    obtain ⟨k, hk, h⟩ := h
    obtain ⟨out, hK, _, out', ho', hr⟩ := fillE_ok _ (fun i => some (i * k, k)) (by
      intro i p n hp hn
      cases hp
      rw [hk] at hn; cases hn; rfl) parts _ _ _ hp cellsA_z h
    refine ⟨_, hK, .agg out', by simp only [VR]; exact ⟨out', rfl, hr⟩, fun w => ?_⟩
    simp only [Instr.build, Sem.run_bind, hrz, Result.andThen_ok, run_underlying hu, run_sizeOf hk, ho', Sem.run_pure]
  · exact h.elim

/-! shapes -/
theorem openL_ok {k : LK} {v : V} {K : V → Prop} (h : openL k v K) : K v := by
  cases k <;> simp only [openL] at h
  · cases v <;> first | exact h | exact h.elim
  · cases v <;> first | exact h | exact h.elim
  · cases v <;> simp only [intK] at h
    split at h
    · rename_i hd
      have := of_decide_eq_true hd
      subst this; exact h
    · exact h.elim
  · exact h
theorem openKs_ok : ∀ {ks : List LK} {l : List V} {K : List V → Prop}, openKs ks l K → K l
  | [], l, K, h => by cases l <;> first | exact h | exact h.elim
  | k :: ks, l, K, h => by
    cases l with
    | nil => exact h.elim
    | cons c r =>
      have h : openL k c fun v => openKs ks r fun vs => K (v :: vs) := h
      exact openKs_ok (K := fun vs => K (c :: vs)) (openL_ok h)
theorem openT_ok {k : TK} {v : V} {K : V → Prop} (h : openT k v K) : K v := by
  cases k with
  | leaf k => exact openL_ok h
  | agg ks =>
    cases v <;> simp only [openT, aggE] at h
    exact openKs_ok (K := fun vs => K (.agg vs)) h
theorem openTs_ok : ∀ {ks : List TK} {l : List V} {K : List V → Prop}, openTs ks l K → K l
  | [], l, K, h => by cases l <;> first | exact h | exact h.elim
  | k :: ks, l, K, h => by
    cases l with
    | nil => exact h.elim
    | cons c r =>
      have h : openT k c fun v => openTs ks r fun vs => K (v :: vs) := h
      exact openTs_ok (K := fun vs => K (c :: vs)) (openT_ok h)
theorem openE_ok {t : TypeId} {v : V} {K : V → Prop} (h : openE P t v K) : K v := by
  unfold openE at h
  split at h
  · cases v <;> simp only [tupE] at h
    exact openTs_ok (K := fun vs => K (.tuple vs)) h
  · exact openT_ok h
theorem openX_ok {t : TypeId} {v : V} {K : V → Prop} (h : openX P t v K) : K v := by
  unfold openX at h
  split at h
  · split at h
    · exact h
    · exact openE_ok h
  · exact openE_ok h

/-! comparisons -/
theorem leafK_of {t : TypeId} : match leafK P t with
    | .str => P.underlying t = some .string
    | .bool => P.underlying t = some .bool
    | .int k => P.underlying t = some (.int k)
    | .other => True := by
  unfold leafK
  cases hu : P.underlying t with
  | none => trivial
  | some d => cases d <;> trivial
theorem eqK_ok {t : TypeId} {x y : V} {r : Bool} {cx cy : Value} (h : eqK (leafK P t) x y = some r) (hx : VR E x cx) (hy : VR E y cy) (d : Nat) (w : World) :
    (Op.equalIn (d + 1) t cx cy).run P w = .ok r w := by
  have hl := leafK_of (P := P) (t := t)
  cases hk : leafK P t <;> rw [hk] at h hl <;> simp only at hl
  all_goals cases x <;> cases y <;> simp [eqK] at h
  all_goals simp only [VR] at hx hy
  all_goals subst hx hy
  · simp [Op.equalIn, run_underlying hl, B_beq, h]
  · simp [Op.equalIn, run_underlying hl, h]
  · obtain ⟨rfl, rfl⟩ := h
    simp [Op.equalIn, run_underlying hl]
    rw [Bool.eq_iff_iff]; simp
theorem eqKs_ok (d : Nat) {xs ys : List V} {cxs cys : Array Value} (hx : VRs E xs cxs.toList) (hy : VRs E ys cys.toList) (w : World) :
    ∀ (fs : List Field) (o : Nat) (ks : List LK) (r : Bool), aggK P fs o = some ks → eqKs ks (xs.drop o) (ys.drop o) = some r → (fs.all fun f => f.name != "_") = true → (Op.eqFields (d + 1) cxs cys fs).run P w = .ok r w
  | [], o, ks, r, hk, h, hn => by
    simp only [aggK, Option.some.injEq] at hk; subst hk
    have : r = true := by
      cases h1 : xs.drop o <;> cases h2 : ys.drop o <;> rw [h1, h2] at h <;> simp [eqKs] at h
      exact h
    subst this; simp [Op.eqFields]
  | f :: fs, o, ks, r, hk, h, hn => by
    simp only [aggK] at hk
    split at hk
    · rename_i hc
      obtain ⟨hag, ho, hs⟩ := hc
      obtain ⟨ks', hks, rfl⟩ := Option.map_eq_some_iff.1 hk
      simp only [List.all_cons, Bool.and_eq_true] at hn
      cases h1 : xs.drop o with
      | nil => rw [h1] at h; simp [eqKs] at h
      | cons x xr =>
        cases h2 : ys.drop o with
        | nil => rw [h1, h2] at h; simp [eqKs] at h
        | cons y yr =>
          rw [h1, h2] at h
          simp only [eqKs] at h
          split at h
          · rename_i p q hp hq
            cases h
            have gx : xs[o]? = some x := by
              have := congrArg (·[0]?) h1
              simpa using this
            have gy : ys[o]? = some y := by
              have := congrArg (·[0]?) h2
              simpa using this
            obtain ⟨cx, hcx, hvx⟩ := VRs_get _ _ hx _ _ gx
            obtain ⟨cy, hcy, hvy⟩ := VRs_get _ _ hy _ _ gy
            have ex : xs.drop (o + 1) = xr := by rw [← List.drop_drop, h1]; rfl
            have ey : ys.drop (o + 1) = yr := by rw [← List.drop_drop, h2]; rfl
            have ih := eqKs_ok d hx hy w fs (o + 1) ks' q hks (by rw [ex, ey]; exact hq) hn.2
            have hne : f.name ≠ "_" := by simpa using hn.1
            subst ho
            simp only [Op.eqFields, ne_eq, hne, not_false_eq_true, if_true, Sem.run_bind, run_part1 hag (by simpa using hcx), run_part1 hag (by simpa using hcy), Result.andThen_ok, eqK_ok hp hvx hvy]
            cases p
            · simp
            · simpa using ih
          · cases h
    · cases hk
theorem equal_depth (t : TypeId) (x y : Value) : Op.equal t x y = Op.equalIn (9999 + 1) t x y := rfl
def Plain : Value → Prop
  | .pointer _ | .slice .. | .map _ | .func .. | .nilFunc | .iface .. | .nilIface | .agg _ => True
  | _ => False
theorem bin_eql {t : TypeId} {x y : Value} {r : Bool} (h : Plain x) {w : World} (he : (Op.equal t x y).run P w = .ok r w) : (binOp .eql t x y).run P w = .ok (.bool r) w ∧ (binOp .neq t x y).run P w = .ok (.bool !r) w := by
  have e1 : binOp .eql t x y = (do pure (.bool (← Op.equal t x y))) := by cases x <;> first | exact h.elim | (cases y <;> rfl)
  have e2 : binOp .neq t x y = (do pure (.bool (!(← Op.equal t x y)))) := by cases x <;> first | exact h.elim | (cases y <;> rfl)
  rw [e1, e2]
  simp [he]
/-- What both comparisons come to. -/
def Same2 (P : Program) (t : TypeId) (x y : Operand) (cx cy : Value) (r : Bool) : Prop :=
  ∀ w, (∀ op, (eqGuard op t x y cx cy).run P w = .ok () w) ∧ (binOp .eql t cx cy).run P w = .ok (.bool r) w ∧ (binOp .neq t cx cy).run P w = .ok (.bool !r) w
theorem nilT_ok {t : TypeId} {k : Nat} (h : nilT P t = k) : (k = 0 ∧ ∃ e, P.underlying t = some (.pointer e)) ∨ (k = 1 ∧ ∃ e, P.underlying t = some (.slice e)) ∨ (k = 2 ∧ ∃ i e, P.underlying t = some (.map i e)) ∨ (k = 3 ∧ ∃ i e b, P.underlying t = some (.func i e b)) ∨ (k = 4 ∧ ∃ e, P.underlying t = some (.interface e)) ∨ k = 5 := by
  subst h
  unfold nilT
  split
  · rename_i e hu; exact .inl ⟨rfl, e, hu⟩
  · rename_i e hu; exact .inr (.inl ⟨rfl, e, hu⟩)
  · rename_i e hu; exact .inr (.inr (.inl ⟨rfl, _, _, hu⟩))
  · rename_i e hu; exact .inr (.inr (.inr (.inl ⟨rfl, _, _, _, hu⟩)))
  · rename_i e hu; exact .inr (.inr (.inr (.inr (.inl ⟨rfl, _, hu⟩))))
  · exact .inr (.inr (.inr (.inr (.inr rfl))))
/-- What a value that is nil, or none, is. -/
def nilW : Nat → Bool → Value → Prop
  | 0, true, v => v = .pointer none
  | 0, false, v => ∃ p, v = .pointer (some p)
  | 1, true, v => v = .slice none 0 0
  | 1, false, v => ∃ p l c, v = .slice (some p) l c
  | 2, true, v => v = .map none
  | 2, false, v => ∃ p, v = .map (some p)
  | 3, true, v => v = .nilFunc
  | 3, false, v => ∃ f a c, v = .func f a c
  | 4, true, v => v = .nilIface
  | 4, false, v => ∃ t x, v = .iface t x
  | _, _, _ => False
theorem nilE_ok {k : Nat} {v : V} {K : Bool → Prop} {cv : Value} (h : nilE k v K) (hv : VR E v cv) : ∃ r, K r ∧ nilW k r cv := by
  unfold nilE at h
  split at h
  · rename_i hk
    refine ⟨true, h, ?_⟩
    unfold nilV at hk
    split at hk <;> (try cases hk) <;> simp only [VR] at hv <;> exact hv
  · rename_i hk
    refine ⟨false, h, ?_⟩
    unfold nilV at hk
    split at hk <;> (try cases hk) <;> simp only [VR] at hv
    · obtain ⟨_, _, _, rfl⟩ := hv; exact ⟨_, rfl⟩
    · obtain ⟨_, _, _, rfl, _⟩ := hv; exact ⟨_, rfl⟩
    · obtain ⟨_, rfl⟩ := hv; exact ⟨_, _, _, rfl⟩
    · obtain ⟨_, _, _, _, rfl, _⟩ := hv; exact ⟨_, _, _, rfl⟩
    · obtain ⟨_, _, _, _, rfl, _⟩ := hv; exact ⟨_, _, _, rfl⟩
    · obtain ⟨ad, c, vals, rfl, h1, h2, h3, h4⟩ := hv
      have hne : vals ≠ [] := by
        have := VRs_length _ _ h4
        intro h0; subst h0; simp at this
      obtain ⟨b, o, rfl, _⟩ := h3.2 hne
      exact ⟨_, _, _, rfl⟩
    · obtain ⟨_, _, _, rfl⟩ := hv; exact ⟨_, rfl⟩
    · obtain ⟨_, _, rfl, _⟩ := hv; exact ⟨_, _, _, rfl⟩
    · obtain ⟨_, rfl, _⟩ := hv; exact ⟨_, _, rfl⟩
  · exact h.elim
theorem nilC_ok {k : Nat} {x : Operand} (h : isNilC k x = true) : ∃ v, x = .const v ∧ nilW k true v := by
  unfold isNilC at h
  split at h <;> (try cases h) <;> exact ⟨_, rfl, rfl⟩
theorem nil_eqd (d : Nat) {t : TypeId} {k : Nat} (hk : nilT P t = k) (h5 : k ≠ 5) {r : Bool} {cx cy : Value} (hx : nilW k r cx) (hy : nilW k true cy) (w : World) :
    Plain cx ∧ Plain cy ∧ (Op.equalIn (d + 1) t cx cy).run P w = .ok r w ∧ (Op.equalIn (d + 1) t cy cx).run P w = .ok r w := by
  rcases nilT_ok hk with ⟨rfl, e, hu⟩ | ⟨rfl, e, hu⟩ | ⟨rfl, i, e, hu⟩ | ⟨rfl, i, e, b, hu⟩ | ⟨rfl, e, hu⟩ | rfl
  · cases r <;> simp only [nilW] at hx hy
    · obtain ⟨p, rfl⟩ := hx; subst hy; exact ⟨trivial, trivial, by simp [Op.equalIn, run_underlying hu], by simp [Op.equalIn, run_underlying hu]⟩
    · subst hx hy; exact ⟨trivial, trivial, by simp [Op.equalIn, run_underlying hu], by simp [Op.equalIn, run_underlying hu]⟩
  · cases r <;> simp only [nilW] at hx hy
    · obtain ⟨p, l, c, rfl⟩ := hx; subst hy; exact ⟨trivial, trivial, by simp [Op.equalIn, run_underlying hu], by simp [Op.equalIn, run_underlying hu]⟩
    · subst hx hy; exact ⟨trivial, trivial, by simp [Op.equalIn, run_underlying hu], by simp [Op.equalIn, run_underlying hu]⟩
  · cases r <;> simp only [nilW] at hx hy
    · obtain ⟨p, rfl⟩ := hx; subst hy; exact ⟨trivial, trivial, by simp [Op.equalIn, run_underlying hu], by simp [Op.equalIn, run_underlying hu]⟩
    · subst hx hy; exact ⟨trivial, trivial, by simp [Op.equalIn, run_underlying hu], by simp [Op.equalIn, run_underlying hu]⟩
  · cases r <;> simp only [nilW] at hx hy
    · obtain ⟨p, l, c, rfl⟩ := hx; subst hy; exact ⟨trivial, trivial, by simp [Op.equalIn, run_underlying hu], by simp [Op.equalIn, run_underlying hu]⟩
    · subst hx hy; exact ⟨trivial, trivial, by simp [Op.equalIn, run_underlying hu], by simp [Op.equalIn, run_underlying hu]⟩
  · cases r <;> simp only [nilW] at hx hy
    · obtain ⟨p, l, rfl⟩ := hx; subst hy; exact ⟨trivial, trivial, by simp [Op.equalIn, run_underlying hu], by simp [Op.equalIn, run_underlying hu]⟩
    · subst hx hy; exact ⟨trivial, trivial, by simp [Op.equalIn, run_underlying hu], by simp [Op.equalIn, run_underlying hu]⟩
  · exact absurd rfl h5
theorem nil_eq {t : TypeId} {k : Nat} (hk : nilT P t = k) (h5 : k ≠ 5) {r : Bool} {cx cy : Value} (hx : nilW k r cx) (hy : nilW k true cy) (w : World) :
    Plain cx ∧ Plain cy ∧ (Op.equal t cx cy).run P w = .ok r w ∧ (Op.equal t cy cx).run P w = .ok r w := nil_eqd 9999 hk h5 hx hy w
theorem guard_const {t : TypeId} {x y : Operand} {cx cy : Value} (h : (∃ v, x = .const v) ∨ (∃ v, y = .const v)) (hn : ∀ cs, cx ≠ .agg cs) (op : BinOp) (w : World) : (eqGuard op t x y cx cy).run P w = .ok () w := by
  unfold eqGuard
  rcases h with ⟨v, rfl⟩ | ⟨v, rfl⟩ <;> cases op <;> simp <;> (cases cx <;> cases cy <;> simp <;> exact absurd rfl (hn _))
theorem nilW_agg {k : Nat} {r : Bool} {v : Value} (h : nilW k r v) : ∀ cs, v ≠ .agg cs := by
  rintro cs rfl
  unfold nilW at h
  split at h <;> first | exact h | (cases h; done) | (obtain ⟨_, h⟩ := h; cases h; done) | (obtain ⟨_, _, h⟩ := h; cases h; done) | (obtain ⟨_, _, _, h⟩ := h; cases h; done)
theorem eqi_pp (d : Nat) {t e : TypeId} {k : Nat} (hu : P.underlying t = some (.pointer e)) (hk : sizeA P e = some (k + 1)) (b o q : Nat) (w : World) : (Op.equalIn (d + 1) t (.pointer (some ⟨b, o, none⟩)) (.pointer (some ⟨b, q, none⟩))).run P w = .ok (Nat.beq o q) w := by
  have hbe : ((⟨b, o, none⟩ : Addr) == ⟨b, q, none⟩) = Nat.beq o q := by
    rw [Bool.eq_iff_iff]
    simp
  simp only [Op.equalIn, Sem.run_bind, run_underlying hu, Result.andThen_ok, run_sizeOf hk, ne_eq, Nat.add_one_ne_zero, not_false_eq_true, if_true, sameAddr, beq_self_eq_true, Sem.run_pure, hbe]
theorem eq2_ok (d : Nat) {t e : TypeId} (hu : P.underlying t = some (.array 2 e)) (hag : isAggA P e = some false) (hs : sizeA P e = some 1) {xs ys : List V} {cxs cys : Array Value} {r : Bool} (hx : VRs E xs cxs.toList) (hy : VRs E ys cys.toList) (h : eqKs [leafK P e, leafK P e] xs ys = some r) (w : World) :
    (Op.equalIn (d + 2) t (.agg cxs) (.agg cys)).run P w = .ok r w := by
  obtain ⟨x0, x1, y0, y1, rfl, rfl⟩ : ∃ x0 x1 y0 y1, xs = [x0, x1] ∧ ys = [y0, y1] := by
    rcases xs with _ | ⟨x0, _ | ⟨x1, _ | ⟨x2, xr⟩⟩⟩ <;> rcases ys with _ | ⟨y0, _ | ⟨y1, _ | ⟨y2, yr⟩⟩⟩ <;> simp only [eqKs] at h <;> first
      | exact ⟨_, _, _, _, rfl, rfl⟩
      | (cases h; done)
      | (exfalso; revert h; repeat' split
         all_goals (first | (intro h; cases h; done) | simp_all))
  · simp only [eqKs] at h
    split at h
    · rename_i p q hp hq
      cases h
      split at hq
      · rename_i p2 q2 hp2 hq2
        cases hq
        cases hq2
        simp only [VRs] at hx hy
        obtain ⟨a0, m, e1, ha0, a1, m', rfl, ha1, rfl⟩ := hx
        obtain ⟨b0, n, e2, hb0, b1, n', rfl, hb1, rfl⟩ := hy
        have e1 : cxs = #[a0, a1] := by rw [← Array.toList_inj]; exact e1
        have e2 : cys = #[b0, b1] := by rw [← Array.toList_inj]; exact e2
        subst e1 e2
        have q0 := eqK_ok (P := P) hp ha0 hb0 d w
        have q1 := eqK_ok (P := P) hp2 ha1 hb1 d w
        have p0 : ∀ (a b : Value) w, (part e #[a, b] 0).run P w = .ok a w := fun a b w => run_part1 hag rfl w
        have p1 : ∀ (a b : Value) w, (part e #[a, b] 1).run P w = .ok b w := fun a b w => run_part1 hag rfl w
        rw [show d + 2 = (d + 1) + 1 from rfl]
        unfold Op.equalIn
        simp only [Sem.run_bind, run_underlying hu, Result.andThen_ok, run_sizeOf hs]
        simp [Std.Legacy.Range.forIn_eq_forIn_range', Std.Legacy.Range.size, List.range', Nat.zero_mul, Nat.one_mul, p0, p1, q0, q1]
        cases p <;> cases p2 <;> simp
      · cases hq
    · cases h
theorem sameE_ok {t : TypeId} {x y : Operand} {b c : V} {K : Bool → Prop} (htm : TR E tm a) (h : sameE P t x y (ev tm x) (ev tm y) K) : ∃ r, K r ∧ Same2 P t x y (a.eval x) (a.eval y) r := by
  have hx := ev_ok htm x
  have hy := ev_ok htm y
  unfold sameE at h
  split at h
  · rename_i h5
    simp only [optP_iff] at h
    obtain ⟨ks, hks, h⟩ := h
    cases hX : ev tm x <;> rw [hX] at h <;> simp only [aggE] at h
    cases hY : ev tm y <;> rw [hY] at h <;> simp only [aggE] at h
    rename_i xs ys
    rw [hX] at hx; rw [hY] at hy
    obtain ⟨r, hr, h⟩ := h
    refine ⟨r, h, fun w => ?_⟩
    simp only [VR] at hx hy
    obtain ⟨cxs, ex, hx⟩ := hx
    obtain ⟨cys, ey, hy⟩ := hy
    rw [ex, ey]
    unfold flatT at hks
    split at hks
    rotate_left
    · rename_i el hu
      split at hks
      · rename_i hc
        obtain ⟨hg, hag, hsz⟩ := hc
        simp only [Bool.not_eq_true'] at hg
        cases hks
        have he : (Op.equal t (.agg cxs) (.agg cys)).run P w = .ok r w := eq2_ok 9998 hu hag hsz hx hy hr w
        refine ⟨fun op => ?_, (bin_eql (x := .agg cxs) trivial he).1, (bin_eql (x := .agg cxs) trivial he).2⟩
        unfold eqGuard
        cases op <;> simp [hg]
      · cases hks
    · cases hks
    · rename_i fields hu
      split at hks
      · rename_i hc
        simp only [Bool.and_eq_true, Bool.not_eq_true'] at hc
        obtain ⟨⟨hst, hg⟩, hn⟩ := hc
        have hf : P.fieldsOf t = fields := by simp [Program.fieldsOf, hu]
        have he : (Op.equal t (.agg cxs) (.agg cys)).run P w = .ok r w := by
          rw [equal_depth, run_equalIn_struct w 9999 t cxs cys (by rw [hf]; exact hu) (by simpa using hst), hf]
          exact eqKs_ok 9998 hx hy w _ 0 ks r hks (by simpa using hr) hn
        refine ⟨fun op => ?_, (bin_eql (x := .agg cxs) trivial he).1, (bin_eql (x := .agg cxs) trivial he).2⟩
        unfold eqGuard
        cases op <;> simp [hg]
      · cases hks
  · rename_i k hk
    have h5 : nilT P t ≠ 5 := hk
    have main : ∀ r, ((nilW (nilT P t) r (a.eval x) ∧ nilW (nilT P t) true (a.eval y)) ∨ (nilW (nilT P t) true (a.eval x) ∧ nilW (nilT P t) r (a.eval y))) → ((∃ v, x = .const v) ∨ (∃ v, y = .const v)) → Same2 P t x y (a.eval x) (a.eval y) r := by
      intro r hr hc w
      rcases hr with ⟨h1, h2⟩ | ⟨h1, h2⟩
      · obtain ⟨p1, p2, e1, e2⟩ := nil_eq rfl h5 h1 h2 w
        exact ⟨fun op => guard_const hc (nilW_agg h1) op w, (bin_eql p1 e1).1, (bin_eql p1 e1).2⟩
      · obtain ⟨p1, p2, e1, e2⟩ := nil_eq rfl h5 h2 h1 w
        exact ⟨fun op => guard_const hc (nilW_agg h1) op w, (bin_eql p2 e2).1, (bin_eql p2 e2).2⟩
    split at h
    · rename_i hcy
      obtain ⟨v, rfl, hv⟩ := nilC_ok hcy
      obtain ⟨r, hK, hr⟩ := nilE_ok h hx
      exact ⟨r, hK, main r (.inl ⟨hr, hv⟩) (.inr ⟨v, rfl⟩)⟩
    · rename_i hcx hcy
      obtain ⟨v, rfl, hv⟩ := nilC_ok hcx
      obtain ⟨r, hK, hr⟩ := nilE_ok h hy
      exact ⟨r, hK, main r (.inr ⟨hv, hr⟩) (.inl ⟨v, rfl⟩)⟩
    · split at h
      · rename_i e hu
        split at h
        · rename_i n hs
          cases hX : ev tm x <;> rw [hX] at h <;> simp only [samePtrE] at h
          cases hY : ev tm y <;> rw [hY] at h <;> simp only at h
          rw [hX] at hx; rw [hY] at hy
          obtain ⟨rfl, h⟩ := h
          simp only [VR] at hx hy
          obtain ⟨b1, N1, hG1, e1⟩ := hx
          obtain ⟨b2, N2, hG2, e2⟩ := hy
          rw [hG1] at hG2
          cases hG2
          refine ⟨_, h, fun w => ?_⟩
          rw [e1, e2]
          have he : ∀ o q, (Op.equal t (.pointer (some ⟨b1, o, none⟩)) (.pointer (some ⟨b1, q, none⟩))).run P w = .ok (Nat.beq o q) w := fun o q => eqi_pp 9999 hu hs b1 o q w
          refine ⟨fun op => ?_, (bin_eql (x := .pointer _) trivial (he _ _)).1, (bin_eql (x := .pointer _) trivial (he _ _)).2⟩
          unfold eqGuard
          cases op <;> simp
        · exact h.elim
      · exact h.elim
end Go.Proofs.Ytmpheeanjjfddaa.SM
