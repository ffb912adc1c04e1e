/- The small machine's operations that look at no world answer as the model's do. -/
import Derived.Test.YtmpheeanjjfddaaDoorAMRel
import Derived.Laws.StructEq
import Derived.Laws.Entries
import Derived.Laws.Slices
namespace Go.Proofs.YtmpheeanjjfddaaDoor.AM
open Go
set_option linter.unusedVariables false
set_option linter.unusedSimpArgs false
variable {P : Program} {E : Env} {tm : Tm} {a : Act} {o : Oper} {v : AV}

/-- An operation yields a value, whatever the world. -/
def Yl (P : Program) (E : Env) (a : Act) (o : Oper) (v : AV) : Prop := ∃ cv, VR E v cv ∧ ∀ w, (execOp a.eval o).run P w = .ok (.value cv) w

theorem rest_ok (htm : TR E tm a) (hs : ∀ cs b, o.op ≠ .select cs b)
    (h : restA P tm o = some v) : Yl P E a o v := by
  unfold restA at h
  split at h
  · rename_i hg
    split at h
    · rename_i cv hp
      have hc : execOp a.eval o = execOp (ground tm) o := execOp_congr o hs (fun x hx => ground_ok htm _ hg x (by simpa using hx))
      exact ⟨cv, ofV_ok h, fun w => by rw [hc]; exact pr_ok _ _ hp w⟩
    · cases h
  · cases h
theorem run_sizeOf {t : TypeId} {n : Nat} (h : sizeA P t = some n) (w : World) : (sizeOf t).run P w = .ok n w := by
  unfold sizeA at h
  simp only [Option.map_eq_some_iff] at h
  obtain ⟨i, hi, rfl⟩ := h
  simp [sizeOf, typeInfo, hi]
theorem run_isAgg {t : TypeId} {b : Bool} (h : isAggA P t = some b) (w : World) : (isAgg t).run P w = .ok b w := by
  unfold isAggA at h
  simp only [Option.map_eq_some_iff] at h
  obtain ⟨d, hd, he⟩ := h
  simp only [isAgg, Sem.run_bind, run_underlying hd, Result.andThen_ok]
  cases d <;> simp_all
theorem run_zero {t : TypeId} {z : AV} (h : zeroA P t = some z) : ∃ cz, VR E z cz ∧ ∀ w, (zeroValue t).run P w = .ok cz w := by
  unfold zeroA at h
  obtain ⟨cz, hcz, hz⟩ := Option.bind_eq_some_iff.1 h
  obtain ⟨i, hi, hiz⟩ := Option.bind_eq_some_iff.1 hcz
  exact ⟨cz, ofV_ok hz, fun w => by simp [zeroValue, typeInfo, hi, hiz]⟩
theorem cells_ok {v : AV} {cv : Value} (h : VR E v cv) : VRs E (cellsA v) cv.cells.toList := by
  cases v <;> simp only [VR] at h
  case agg l => obtain ⟨cs, rfl, h⟩ := h; simpa [cellsA, Value.cells] using h
  case bool => subst h; simp [cellsA, Value.cells, VRs, VR]
  case int => subst h; simp [cellsA, Value.cells, VRs, VR]
  case str => obtain ⟨rfl, h⟩ := h; simp only [cellsA, Value.cells]; exact VRs_cons (by simp only [VR]; exact ⟨trivial, h⟩) VRs_nil
  case sint => subst h; simp [cellsA, Value.cells, VRs, VR]
  case sym => subst h; simp [cellsA, Value.cells, VRs, VR]
  case nilp => subst h; simp [cellsA, Value.cells, VRs, VR]
  case glob => subst h; simp [cellsA, Value.cells, VRs, VR]
  case nilsl => subst h; simp [cellsA, Value.cells, VRs, VR]
  case nilmap => subst h; simp [cellsA, Value.cells, VRs, VR]
  case nilfunc => subst h; simp [cellsA, Value.cells, VRs, VR]
  case niliface => subst h; simp [cellsA, Value.cells, VRs, VR]
  case ptr n o => obtain ⟨b, N, hb, rfl⟩ := h; simp only [cellsA, Value.cells]; exact VRs_cons (by simp only [VR]; exact ⟨b, N, hb, rfl⟩) VRs_nil
  case esl => obtain ⟨b, N, rfl⟩ := h; simp only [cellsA, Value.cells]; exact VRs_cons (by simp only [VR]; exact ⟨b, N, rfl⟩) VRs_nil
  case sl => obtain ⟨b, N, c, hb, rfl, h⟩ := h; simp only [cellsA, Value.cells]; exact VRs_cons (by simp only [VR]; exact ⟨b, N, c, hb, rfl, h⟩) VRs_nil
  case map => obtain ⟨b, N, hb, rfl⟩ := h; simp only [cellsA, Value.cells]; exact VRs_cons (by simp only [VR]; exact ⟨b, N, hb, rfl⟩) VRs_nil
  case func => obtain ⟨b, N, rfl, h⟩ := h; simp only [cellsA, Value.cells]; exact VRs_cons (by simp only [VR]; exact ⟨b, N, rfl, h⟩) VRs_nil
  case iface => obtain ⟨b, rfl, h⟩ := h; simp only [cellsA, Value.cells]; exact VRs_cons (by simp only [VR]; exact ⟨b, rfl, h⟩) VRs_nil
  case tuple => obtain ⟨b, rfl, h⟩ := h; simp only [cellsA, Value.cells]; exact VRs_cons (by simp only [VR]; exact ⟨b, rfl, h⟩) VRs_nil

/-! build -/
theorem foldl_put (off : Nat) : ∀ (vs : List Value) (k : Nat) (cs : Array Value), off + k + vs.length ≤ cs.size →
    ((vs.zipIdx k).foldl (fun cs (x : Value × Nat) => cs.setIfInBounds (off + x.2) x.1) cs).toList = cs.toList.take (off + k) ++ vs ++ cs.toList.drop (off + k + vs.length)
  | [], k, cs, h => by simp
  | x :: r, k, cs, h => by
    simp only [List.zipIdx_cons, List.foldl_cons]
    have hl : off + (k + 1) + r.length ≤ (cs.setIfInBounds (off + k) x).size := by simp at h ⊢; omega
    rw [foldl_put off r (k + 1) _ hl]
    simp only [Array.toList_setIfInBounds]
    have h' : off + k < cs.toList.length := by simp at h ⊢; omega
    have e1 : (cs.toList.set (off + k) x).take (off + (k + 1)) = cs.toList.take (off + k) ++ [x] := by
      rw [← Nat.add_assoc, List.take_succ_eq_append_getElem (by simpa using h')]
      simp [List.take_set_of_le]
    rw [e1]
    simp only [List.append_assoc, List.singleton_append, List.length_cons, List.cons_append, List.nil_append]
    congr 3
    rw [show off + (k + 1) + r.length = off + k + (r.length + 1) by omega, List.drop_set_of_lt (by omega)]
def Parts (E : Env) : List (Nat × AV) → List (Nat × Value) → Prop
  | [], m => m = []
  | (i, v) :: r, m => ∃ cv m', m = (i, cv) :: m' ∧ VR E v cv ∧ Parts E r m'
theorem evParts_ok (htm : TR E tm a) : ∀ (l : List (Nat × Operand)) (m : List (Nat × AV)), evParts tm l = some m → Parts E m (l.map fun p => (p.1, a.eval p.2))
  | [], m, h => by cases h; simp [Parts]
  | (i, x) :: r, m, h => by
    unfold evParts at h
    split at h
    · rename_i b c hb hc
      cases h
      exact ⟨_, _, rfl, ev_ok htm hb, evParts_ok htm r c hc⟩
    · cases h
theorem fill_ok (place : Nat → Option (Nat × Nat)) : ∀ (parts : List (Nat × AV)) (cparts : List (Nat × Value)) (cells : List AV) (cs : Array Value) (out : List AV),
    Parts E parts cparts → VRs E cells cs.toList → fillA place cells parts = some out → ∃ out' : Array Value, Instr.fill place cs cparts = some out' ∧ VRs E out out'.toList
  | [], cparts, cells, cs, out, hp, hc, h => by
    simp only [Parts] at hp; subst hp
    simp only [fillA, Option.some.injEq] at h; subst h
    exact ⟨cs, rfl, hc⟩
  | (i, v) :: r, cparts, cells, cs, out, hp, hc, h => by
    simp only [Parts] at hp
    obtain ⟨cv, m', rfl, hv, hp⟩ := hp
    have hcv := cells_ok hv
    have hlen := VRs_length _ _ hcv
    have hcl := VRs_length _ _ hc
    simp only [fillA] at h
    cases hpl : place i with
    | none => rw [hpl] at h; cases h
    | some x =>
      obtain ⟨off, size⟩ := x
      rw [hpl] at h
      simp only at h
      split at h
      · cases h
      · rename_i hcond
        simp only [Bool.or_eq_true, Bool.not_eq_true', Nat.blt_eq, not_or, Bool.not_eq_false, Nat.beq_eq] at hcond
        have h2 : ¬ (cv.cells.size ≠ size ∨ off + cv.cells.size > cs.size) := by
          have : cv.cells.size = cv.cells.toList.length := by simp
          have h3 : cs.size = cs.toList.length := by simp
          rw [this, h3, hlen, hcl]
          omega
        have hput : VRs E (putRange cells off (cellsA v)) ((cv.cells.zipIdx.foldl (fun cs (x : Value × Nat) => cs.setIfInBounds (off + x.2) x.1) cs)).toList := by
          rw [← Array.foldl_toList, Array.toList_zipIdx]
          have hle : off + 0 + cv.cells.toList.length ≤ cs.size := by
            have h3 : cs.size = cs.toList.length := by simp
            rw [h3, hlen, hcl]; omega
          rw [foldl_put off _ 0 cs hle]
          simp only [Nat.add_zero, putRange]
          refine VRs_append (VRs_append (VRs_take _ hc) hcv) ?_
          rw [hlen]
          exact VRs_drop _ hc
        obtain ⟨out', ho, hr⟩ := fill_ok place r m' _ _ out hp hput h
        refine ⟨out', ?_, hr⟩
        simp only [Instr.fill, hpl]
        rw [if_neg (by simpa using h2)]
        exact ho
theorem sizes_ok : ∀ (l : List Field) (m : List (Nat × Nat)), sizesA P l = some m → ∀ w, (l.mapM fun f => (do pure (f.offset, ← sizeOf f.type) : Sem (Nat × Nat))).run P w = .ok m w
  | [], m, h, w => by cases h; simp
  | f :: r, m, h, w => by
    unfold sizesA at h
    split at h
    · rename_i n l hn hl
      cases h
      have ih := sizes_ok r l hl w
      simp only [List.mapM_cons, Sem.run_bind, run_sizeOf hn, Result.andThen_ok, Sem.run_pure]
      rw [ih]
      rfl
    · cases h
theorem buildA_ok {t : TypeId} {parts : List (Nat × AV)} {cparts : Array (Nat × Value)} (hp : Parts E parts cparts.toList) (h : buildA P t parts = some v) :
    ∃ cv, VR E v cv ∧ ∀ w, (Instr.build t cparts).run P w = .ok cv w := by
  unfold buildA at h
  split at h
  · cases h
  · rename_i z hz
    obtain ⟨cz, hvz, hrz⟩ := run_zero (E := E) hz
    split at h
    · rename_i fields hu
      split at h
      · rename_i l hl
        simp only [Option.map_eq_some_iff] at h
        obtain ⟨out, ho, rfl⟩ := h
        obtain ⟨out', ho', hr⟩ := fill_ok _ _ _ _ _ _ hp (cells_ok hvz) ho
        refine ⟨.agg out', by simp only [VR]; exact ⟨out', rfl, hr⟩, fun w => ?_⟩
        simp only [Instr.build, Sem.run_bind, hrz, Result.andThen_ok, run_underlying hu, Array.mapM_eq_mapM_toList, Sem.run_map, sizes_ok _ _ hl]
        have e : (fun i : Nat => (l.toArray)[i]?) = fun i => l[i]? := by funext i; simp
        simp only [e, ho', Sem.run_pure]
      · cases h
    · rename_i n e hu
      split at h
      · rename_i k hk
        simp only [Option.map_eq_some_iff] at h
        obtain ⟨out, ho, rfl⟩ := h
        obtain ⟨out', ho', hr⟩ := fill_ok _ _ _ _ _ _ hp (cells_ok hvz) ho
        refine ⟨.agg out', by simp only [VR]; exact ⟨out', rfl, hr⟩, fun w => ?_⟩
        simp only [Instr.build, Sem.run_bind, hrz, Result.andThen_ok, run_underlying hu, run_sizeOf hk, ho', Sem.run_pure]
      · cases h
    · cases h
end Go.Proofs.YtmpheeanjjfddaaDoor.AM
