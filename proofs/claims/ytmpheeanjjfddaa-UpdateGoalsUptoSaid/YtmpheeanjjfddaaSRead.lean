/- What came in, in the machine's terms: a world's blocks stand for ever; what a row reads stands for values; its bulk. -/
import Derived.Deep.Slices
import Derived.Deep.Strs
import Derived.ChangeSame
import Derived.ChangeArms
import Derived.Test.YtmpheeanjjfddaaSGs
import Derived.Test.YtmpheeanjjfddaaRows
namespace Go.Proofs.Ytmpheeanjjfddaa.S
open Go Go.RowKit Go.ChangeShapes Go.WideShapes Go.Deep Go.Proofs.Ytmpheeanjjfddaa.SM
set_option linter.unusedVariables false
set_option linter.unusedSimpArgs false
set_option maxRecDepth 100000
/-- All blocks of cells stand for ever. -/
def froz (W : World) : SM.Env := ⟨fun _ => none, fun b => match W.heap[b]? with
  | some (.cells arr _ _) => some arr.toList
  | _ => none, fun _ _ => none⟩
def noH : SM.Hp := fun _ => none
theorem froz_wr (W : World) : WR (froz W) W.heap.size W noH W := by
  refine ⟨Below.refl _ _, Nat.le_refl _, (fun n o b N h => by cases h), fun n _ => rfl, (fun n m o p b N M h => by cases h), fun b fs h => ?_, fun _ _ _ => rfl, ⟨0, fun _ _ => rfl⟩⟩
  unfold froz at h
  simp only at h
  split at h
  · rename_i arr t fr hb
    cases h
    refine ⟨(Array.getElem?_eq_some_iff.1 hb).1, fun j v hj => ?_⟩
    unfold World.cell?
    simp only [hb]
    simpa using hj
  · cases h
theorem froz_at {W : World} {b o : Nat} {vs : List Value} (hne : vs ≠ []) (h : ∀ i v, vs[i]? = some v → W.cell? ⟨b, o + i, none⟩ = some v) : SM.At (froz W) b o vs := by
  have h0 := h 0 (vs.head hne) (by cases vs; exact absurd rfl hne; rfl)
  unfold World.cell? at h h0
  simp only at h h0
  cases hb : W.heap[b]? with
  | none => rw [hb] at h0; simp at h0
  | some ob =>
    cases ob with
    | cells arr t fr =>
      rw [hb] at h h0
      simp only [Option.isSome_none, Bool.false_eq_true, if_false] at h h0
      have ho : o < arr.size := by
        have := (Array.getElem?_eq_some_iff.1 h0).1
        omega
      refine ⟨arr.toList, arr.toList.drop (o + vs.length), by unfold froz; simp only [hb], by simpa using Nat.le_of_lt ho, ?_⟩
      apply List.ext_getElem?
      intro i
      rw [List.getElem?_drop]
      by_cases hi : i < vs.length
      · rw [List.getElem?_append_left hi, List.getElem?_eq_getElem hi]
        have := h i vs[i] (List.getElem?_eq_getElem hi)
        simpa using this
      · rw [List.getElem?_append_right (by omega), List.getElem?_drop]
        congr 1; omega
    | _ => rw [hb] at h0; simp at h0
section
variable {H : Type} {enc : TypeId × Value → H} {W : World} {base : Nat} {spare : Nat → Bool} {held : Bool}
/-- What cells of a type stand for, and what they count. -/
def Rd (enc : TypeId × Value → H) (W : World) (base : Nat) (spare : Nat → Bool) (held : Bool) (t : TypeId) (Φ : List V → Nat → Prop) : Prop :=
  ∀ m cs x, DataW.trod enc prog W base spare held m t cs = some x → ∃ vs k, VRs (froz W) vs cs ∧ (∀ c ∈ cs, c.oneCell' = true) ∧ Φ vs k ∧ k + 1 ≤ Rows.uptoBulk x.1
def FStr (vs : List V) (k : Nat) : Prop := ∃ s : List UInt8, vs = [.str s] ∧ k = s.length
def FInt (j : IntKind) (vs : List V) (k : Nat) : Prop := ∃ n : Int, vs = [.int j n] ∧ (Lit.int j n).wf = true
def FBool (vs : List V) (k : Nat) : Prop := ∃ b : Bool, vs = [.bool b]
theorem VRs_one {E : SM.Env} {a : V} {v : Value} (h : VR E a v) : VRs E [a] [v] := VRs_cons h VRs_nil
theorem rd_str {t : TypeId} (hu : prog.underlying t = some .string) : Rd enc W base spare held t FStr := by
  intro m cs x h
  obtain ⟨s, rfl, rfl, _⟩ := DataW.trod_string hu h
  refine ⟨[.str s.data.toList], s.data.toList.length, VRs_one ?_, by simp [Value.oneCell'], ⟨_, rfl, rfl⟩, by simp [Rows.uptoBulk]⟩
  show Value.string s = .string (SM.B s.data.toList)
  rfl
theorem rd_int {t : TypeId} {j : IntKind} (hu : prog.underlying t = some (.int j)) : Rd enc W base spare held t (FInt j) := by
  intro m cs x h
  obtain ⟨n, rfl, rfl, hw⟩ := DataW.trod_int hu h
  exact ⟨[.int j n], 0, VRs_one (by simp only [VR]), by simp [Value.oneCell'], ⟨n, rfl, hw⟩, by simp [Rows.uptoBulk]⟩
theorem rd_bool {t : TypeId} (hu : prog.underlying t = some .bool) : Rd enc W base spare held t FBool := by
  intro m cs x h
  obtain ⟨n, rfl, rfl⟩ := DataW.trod_bool hu h
  exact ⟨[.bool n], 0, VRs_one (by simp only [VR]), by simp [Value.oneCell'], ⟨n, rfl⟩, by simp [Rows.uptoBulk]⟩
/-- A struct's parts. -/
def Parts : List (List V → Nat → Prop) → List V → Nat → Prop
  | [], vs, k => vs = [] ∧ k = 0
  | Φ :: r, vs, k => ∃ v1 k1 v2 k2, Φ v1 k1 ∧ Parts r v2 k2 ∧ vs = v1 ++ v2 ∧ k = k1 + 1 + k2
def Flds (enc : TypeId × Value → H) (W : World) (base : Nat) (spare : Nat → Bool) (held : Bool) : List Field → Nat → List (List V → Nat → Prop) → Prop
  | [], _, [] => True
  | f :: r, o, Φ :: s => f.offset = o ∧ Rd enc W base spare held f.type Φ ∧ Flds enc W base spare held r (o + prog.cellsOf f.type) s
  | _, _, _ => False
noncomputable def sizes : List Field → Nat
  | [] => 0
  | f :: r => prog.cellsOf f.type + sizes r
theorem rd_fields {n : Nat} {cs : List Value} : ∀ (fs : List Field) (o : Nat) (Φs : List (List V → Nat → Prop)) (xs : List (DataW H × List MemPlace)), Flds enc W base spare held fs o Φs → cs.length = o + sizes fs → xs.length = fs.length →
    (∀ (i : Nat) (f : Field), fs[i]? = some f → DataW.trod enc prog W base spare held n f.type ((cs.drop f.offset).take (prog.cellsOf f.type)) = xs[i]?) → ∃ vs k, VRs (froz W) vs (cs.drop o) ∧ (∀ c ∈ cs.drop o, c.oneCell' = true) ∧ Parts Φs vs k ∧ k ≤ Rows.uptoBulkAll (xs.map (·.1))
  | [], o, [], xs, _, hl, hx, _ => by
    have : xs = [] := by simpa using hx
    subst this
    rw [List.drop_eq_nil_of_le (by unfold sizes at hl; omega)]
    exact ⟨[], 0, VRs_nil, by simp, ⟨rfl, rfl⟩, by simp⟩
  | f :: r, o, Φ :: s, xs, hf, hl, hx, ht => by
    obtain ⟨rfl, hR, hF⟩ := hf
    cases xs with
    | nil => simp at hx
    | cons x xr =>
      have h0 := ht 0 f rfl
      simp only [List.getElem?_cons_zero] at h0
      obtain ⟨v1, k1, a1, a2, a3, a4⟩ := hR n _ _ h0
      unfold sizes at hl
      obtain ⟨v2, k2, b1, b2, b3, b4⟩ := rd_fields (n := n) (cs := cs) r (f.offset + prog.cellsOf f.type) s xr hF (by omega) (by simpa using hx) (fun i g hg => by simpa using ht (i + 1) g (by simpa using hg))
      have e : cs.drop f.offset = (cs.drop f.offset).take (prog.cellsOf f.type) ++ cs.drop (f.offset + prog.cellsOf f.type) := by
        rw [← List.drop_drop, List.take_append_drop]
      rw [e]
      refine ⟨v1 ++ v2, k1 + 1 + k2, VRs_append a1 b1, fun c hc => (List.mem_append.1 hc).elim (a2 c) (b2 c), ⟨v1, k1, v2, k2, a3, b3, rfl, rfl⟩, ?_⟩
      simp only [List.map_cons, Rows.uptoBulkAll]
      omega
  | [], _, _ :: _, _, h, _, _, _ => h.elim
  | _ :: _, _, [], _, h, _, _, _ => h.elim
theorem rd_struct {t : TypeId} {fs : Array Field} {Φs : List (List V → Nat → Prop)} (hu : prog.underlying t = some (.struct fs)) (hc : prog.cellsOf t = sizes fs.toList) (hF : Flds enc W base spare held fs.toList 0 Φs) : Rd enc W base spare held t (Parts Φs) := by
  intro m cs x h
  obtain ⟨xs, n, _, rfl, hl, hlen, hf⟩ := DataW.trod_struct hu h
  obtain ⟨vs, k, h1, h2, h3, h4⟩ := rd_fields (enc := enc) (W := W) (base := base) (spare := spare) (held := held) (n := n) (cs := cs) fs.toList 0 Φs xs hF (by rw [hl, hc]; omega) (by simpa using hlen) (fun i f hi => hf i f (by simpa using hi))
  rw [List.drop_zero] at h1 h2
  exact ⟨vs, k, h1, h2, h3, by simp only [Rows.uptoBulk]; omega⟩
def elV (ag : Bool) (l : List V) : V := match ag with
  | true => .agg l
  | false => l.headD .any
/-- A slice's elements. -/
def FSl (ag : Bool) (sz : Nat) (Φ : List V → Nat → Prop) (vs : List V) (k : Nat) : Prop := ∃ L : List (List V × Nat), vs = [.vsl sz (L.map fun p => elV ag p.1)] ∧ (∀ p ∈ L, Φ p.1 p.2) ∧ k = (L.map (·.2)).sum + L.length
theorem bulk_sum (f : Nat → Nat) (D : Nat → DataW H) : ∀ (l : List Nat), (∀ i ∈ l, f i + 1 ≤ Rows.uptoBulk (D i)) → (l.map f).sum + l.length ≤ Rows.uptoBulkAll (l.map D)
  | [], _ => by simp [Rows.uptoBulkAll]
  | i :: r, h => by
    have h1 := h i (List.mem_cons_self ..)
    have h2 := bulk_sum f D r (fun j hj => h j (List.mem_cons_of_mem _ hj))
    simp only [List.map_cons, List.sum_cons, List.length_cons, Rows.uptoBulkAll]
    omega
theorem flat_get {sz : Nat} : ∀ (l : List (List Value)) (i j : Nat) (h : i < l.length), (∀ x ∈ l, x.length = sz) → j < sz → l.flatten[i * sz + j]? = (l[i])[j]?
  | x :: r, 0, j, h, hx, hj => by
    have := hx x (by simp)
    simp only [List.flatten_cons, Nat.zero_mul, Nat.zero_add, List.getElem_cons_zero]
    rw [List.getElem?_append_left (by omega)]
  | x :: r, i + 1, j, h, hx, hj => by
    have := hx x (by simp)
    have e : (i + 1) * sz + j = x.length + (i * sz + j) := by rw [this, Nat.succ_mul]; omega
    simp only [List.flatten_cons, List.getElem_cons_succ]
    rw [e, List.getElem?_append_right (by omega), Nat.add_sub_cancel_left]
    exact flat_get r i j (by simpa using h) (fun y hy => hx y (List.mem_cons_of_mem _ hy)) hj
theorem VRs_maps {E : SM.Env} (f : Nat → V) (g : Nat → Value) : ∀ (l : List Nat), (∀ i ∈ l, VR E (f i) (g i)) → VRs E (l.map f) (l.map g)
  | [], _ => VRs_nil
  | i :: r, h => VRs_cons (h i (by simp)) (VRs_maps f g r (fun j hj => h j (List.mem_cons_of_mem _ hj)))
def elC (ag : Bool) (l : List Value) : Value := match ag with
  | true => .agg l.toArray
  | false => l.headD (.bool false)
theorem elC_cells {ag : Bool} {sz : Nat} {l : List Value} (hl : l.length = sz) (h1 : ag = false → sz = 1) (ho : ∀ c ∈ l, c.oneCell' = true) : (elC ag l).cells.toList = l := by
  cases ag with
  | true => simp [elC, Value.cells]
  | false =>
    match l, hl.trans (h1 rfl) with
    | [c], _ =>
      have := ho c (by simp)
      cases c <;> first | rfl | simp [Value.oneCell'] at this
theorem elC_vr {E : SM.Env} {ag : Bool} {sz : Nat} {l : List Value} {vs : List V} (hl : l.length = sz) (h1 : ag = false → sz = 1) (h : VRs E vs l) : VR E (elV ag vs) (elC ag l) := by
  cases ag with
  | true => simp only [elV, elC, VR]; exact ⟨l.toArray, rfl, by simpa using h⟩
  | false =>
    match l, hl.trans (h1 rfl) with
    | [c], _ =>
      cases vs with
      | nil => simp only [VRs] at h; cases h
      | cons v r => exact (VRs_inv h).1
theorem choose_nat {α : Type} [Inhabited α] {n : Nat} {p : Nat → α → Prop} (h : ∀ i, i < n → ∃ z, p i z) : ∃ Z : Nat → α, ∀ i, i < n → p i (Z i) := by
  refine ⟨fun i => if hi : i < n then Classical.choose (h i hi) else default, fun i hi => ?_⟩
  simp only [hi, dif_pos]
  exact Classical.choose_spec (h i hi)
theorem rd_slice {t e : TypeId} {Φ : List V → Nat → Prop} (ag : Bool) {sz : Nat} (hu : prog.underlying t = some (.slice e)) (hsz : prog.cellsOf e = sz) (h0 : 0 < sz) (h1 : ag = false → sz = 1) (hR : Rd enc W base spare held e Φ) : Rd enc W base spare held t (FSl ag sz Φ) := by
  intro fuel cs x h
  rcases open_slice hu h with ⟨rfl, rfl⟩ | ⟨a, len, cap, m, n, D, Pl, rfl, hb, hl, hm, hmm, rfl, hx⟩
  · exact ⟨[.vsl sz []], 0, VRs_one (vr_nil (by simp only [VR])), by simp [Value.oneCell'], ⟨[], rfl, by simp, rfl⟩, by simp [Rows.uptoBulk]⟩
  · have hml : len ≤ m := by rw [hmm]; split <;> omega
    obtain ⟨C, hC⟩ := choose_nat (α := List Value × List V × Nat) (n := len) (p := fun i z => W.cells? base (a.add (i * prog.cellsOf e)) (prog.cellsOf e) = some z.1 ∧ VRs (froz W) z.2.1 z.1 ∧ (∀ c ∈ z.1, c.oneCell' = true) ∧ Φ z.2.1 z.2.2 ∧ z.2.2 + 1 ≤ Rows.uptoBulk (D i)) (fun i hi => by
      obtain ⟨cs', g1, g2⟩ := hx i (by omega)
      obtain ⟨vs, k, q1, q2, q3, q4⟩ := hR _ _ _ g2
      exact ⟨(cs', vs, k), g1, q1, q2, q3, q4⟩)
    have hlen : ∀ i, i < len → (C i).1.length = sz := fun i hi => by have := (World.cells?_some (hC i hi).1).2.1; rw [this, hsz]
    have hcells : ∀ i, i < len → (elC ag (C i).1).cells.toList = (C i).1 := fun i hi => elC_cells (hlen i hi) h1 (hC i hi).2.2.1
    refine ⟨[.vsl sz ((List.range len).map fun i => elV ag (C i).2.1)], ((List.range len).map fun i => (C i).2.2).sum + len, VRs_one ?_, by simp [Value.oneCell'], ⟨(List.range len).map fun i => (C i).2, by simp [Function.comp_def], ?_, by simp [Function.comp_def]⟩, ?_⟩
    · simp only [VR]
      refine ⟨some a, cap, (List.range len).map fun i => elC ag (C i).1, by simp, by simpa using hl, (fun h => by cases h), ⟨?_, ?_⟩, VRs_maps _ _ _ (fun i hi => elC_vr (hlen i (List.mem_range.1 hi)) h1 (hC i (List.mem_range.1 hi)).2.1)⟩
      · intro v hv
        obtain ⟨i, hi, rfl⟩ := List.mem_map.1 hv
        have hi := List.mem_range.1 hi
        have hc := hcells i hi
        refine ⟨?_, fun c hc' => (hC i hi).2.2.1 c (by rw [← hc]; exact hc')⟩
        have := congrArg List.length hc
        rw [hlen i hi] at this
        simpa using this
      · intro hne
        have hpos : 0 < len := by
          cases len with
          | zero => simp at hne
          | succ k => omega
        have e1 : SM.flat ((List.range len).map fun i => elC ag (C i).1) = ((List.range len).map fun i => (C i).1).flatten := by
          unfold SM.flat
          rw [List.flatMap_map, List.flatMap_def]
          congr 1
          refine List.map_congr_left (fun i hi => hcells i (List.mem_range.1 hi))
        have hall : ∀ x ∈ ((List.range len).map fun i => (C i).1), x.length = sz := fun x hx => by
          obtain ⟨i, hi, rfl⟩ := List.mem_map.1 hx
          exact hlen i (List.mem_range.1 hi)
        have hread : ∀ i j, i < len → j < sz → W.cell? (a.add (i * sz + j)) = (C i).1[j]? := fun i j hi hj => by
          have := (World.cells?_some (hC i hi).1).2.2 j (by rw [hsz]; exact hj)
          rw [Go.Deep.add_add, hsz] at this
          exact this
        have hspot : a.spot = none := by
          have := hread 0 0 hpos h0
          rw [List.getElem?_eq_getElem (by rw [hlen 0 hpos]; exact h0)] at this
          unfold World.cell? at this
          cases hs : a.spot with
          | none => rfl
          | some y =>
            have hs2 : (a.add (0 * sz + 0)).spot.isSome = true := by unfold Addr.add; simp [hs]
            simp only [hs2, if_true] at this
            split at this <;> cases this
        refine ⟨a.block, a.off, by cases a; simp_all, ?_⟩
        rw [e1]
        refine froz_at ?_ (fun i v hv => ?_)
        · intro h
          have := congrArg List.length h
          simp only [List.length_nil, List.length_flatten] at this
          have h3 := flat_get ((List.range len).map fun i => (C i).1) 0 0 (by simpa using hpos) hall h0
          rw [h] at h3
          simp only [List.getElem?_nil, List.getElem_map, List.getElem_range] at h3
          rw [List.getElem?_eq_getElem (by rw [hlen 0 hpos]; exact h0)] at h3
          cases h3
        · have hsum : ((List.range len).map fun i => (C i).1).flatten.length = len * sz := by
            have : ∀ (l : List (List Value)), (∀ x ∈ l, x.length = sz) → l.flatten.length = l.length * sz := by
              intro l
              induction l with
              | nil => intro _; simp
              | cons x r ih => intro h; simp only [List.flatten_cons, List.length_append, List.length_cons, ih (fun y hy => h y (List.mem_cons_of_mem _ hy)), h x (by simp), Nat.succ_mul]; omega
            rw [this _ hall]; simp
          have hi : i < len * sz := by rw [← hsum]; exact (List.getElem?_eq_some_iff.1 hv).1
          have hq : i / sz < len := Nat.div_lt_of_lt_mul (by rw [Nat.mul_comm]; exact hi)
          have hr : i % sz < sz := Nat.mod_lt _ h0
          have hdm : i / sz * sz + i % sz = i := Nat.div_add_mod' i sz
          have h2 := flat_get ((List.range len).map fun i => (C i).1) (i / sz) (i % sz) (by simpa using hq) hall hr
          rw [hdm, hv] at h2
          have h3 := hread (i / sz) (i % sz) hq hr
          rw [hdm] at h3
          simp only [List.getElem_map, List.getElem_range] at h2
          rw [← h2] at h3
          have e2 : (⟨a.block, a.off + i, none⟩ : Addr) = a.add i := by
            rcases a with ⟨ab, ao, asp⟩
            have : asp = none := hspot
            subst this
            simp [Addr.add]
          rw [e2]; exact h3
    · intro p hp
      obtain ⟨i, hi, rfl⟩ := List.mem_map.1 hp
      exact (hC i (List.mem_range.1 hi)).2.2.2.1
    · have := bulk_sum (fun i => (C i).2.2) D (List.range len) (fun i hi => (hC i (List.mem_range.1 hi)).2.2.2.2)
      simp only [List.length_range] at this
      simp only [Rows.uptoBulk]
      omega
end
/-- A call in the machine's terms, from a world as it is. -/
theorem enter_row {f : FuncId} {args : List V} {W : World} {cargs : Array Value} {Q : Rs → SM.Hp → Prop} {R : Value → Prop} (h : Ac (cx W.heap.size W) f args noH Q) (hv : VRs (froz W) args cargs.toList) (hQ : ∀ r J, Q r J → ∃ v, r = .ret v ∧ ∀ E cv, VR E v cv → R cv) :
    Calls prog f cargs W fun e w' => (∃ cv, e = .returned cv ∧ R cv) ∧ Below W.heap.size W w' := by
  refine (h (froz W) W cargs (froz_wr W) hv).mono ?_
  rintro e w' ⟨r, J, D, hq, _, hW, hr⟩
  obtain ⟨v, rfl, hR⟩ := hQ r J hq
  obtain ⟨cv, he, hcv⟩ := hr
  exact ⟨⟨cv, he, hR D cv hcv⟩, hW.below⟩
end Go.Proofs.Ytmpheeanjjfddaa.S
