/- A small machine with slices as values: what stands for values, objects and worlds of the model; proofs about calls need no world. -/
import Derived.Calls
import Derived.Orders
import Derived.Below
import Derived.Laws.CopyRow
import Derived.Laws.Rows
import Derived.WalkKit
namespace Go.Proofs.Ytmpheeanjjfddaa.SM
open Go Go.RowKit
set_option linter.unusedVariables false
set_option linter.unusedSimpArgs false

inductive V where
  | any
  | bool (b : Bool)
  | int (k : IntKind) (n : Int)
  | str (s : List UInt8)
  | nilp
  | ptr (n off : Nat)
  | vptr (cs : List V)
  | nilsl
  | zsl
  | vsl (sz : Nat) (l : List V)
  | osl (n sz : Nat) (l : List V)
  | sl (n off len sz : Nat)
  | nilmap
  | map (n : Nat)
  | func (f : FuncId) (first captured : List V)
  | nilfunc
  | iface (t : Nat) (v : V)
  | niliface
  | agg (l : List V)
  | tuple (l : List V)
  | stamp (n : Nat) (k : List UInt8)
  deriving Inhabited

/-- Where named objects lie (block, cells); what of which blocks is written no more; when entries of maps were born. -/
structure Env where
  G : Nat → Option (Nat × Nat)
  F : Nat → Option (List Value)
  S : Nat → List UInt8 → Option Nat := fun _ _ => none
def Env.le (E D : Env) : Prop := (∀ n x, E.G n = some x → D.G n = some x) ∧ (∀ b fs, E.F b = some fs → ∃ more, D.F b = some (fs ++ more)) ∧ (∀ b k s, E.S b k = some s → D.S b k = some s)
theorem Env.le_refl (E : Env) : E.le E := ⟨fun _ _ h => h, fun _ fs h => ⟨[], by simpa using h⟩, fun _ _ _ h => h⟩
theorem Env.le_trans {E D C : Env} (h : E.le D) (k : D.le C) : E.le C :=
  ⟨fun n x hx => k.1 n x (h.1 n x hx), fun b fs hb => by obtain ⟨m, hm⟩ := h.2.1 b fs hb; obtain ⟨m', hm'⟩ := k.2.1 b _ hm; exact ⟨m ++ m', by rw [← List.append_assoc]; exact hm'⟩, fun b q s hs => k.2.2 b q s (h.2.2 b q s hs)⟩
def Env.set (E : Env) (n b N : Nat) : Env := ⟨fun m => if m = n then some (b, N) else E.G m, E.F, E.S⟩
def Env.ice (E : Env) (b : Nat) (fs : List Value) : Env := ⟨E.G, fun c => if c = b then some fs else E.F c, E.S⟩
def Env.stamp (E : Env) (b : Nat) (k : List UInt8) (s : Nat) : Env := ⟨E.G, E.F, fun c q => if c = b ∧ q = k then some s else E.S c q⟩
theorem Env.le_set {E : Env} {n b N : Nat} (h : E.G n = none) : E.le (E.set n b N) := by
  refine ⟨fun m x hx => ?_, fun b fs hb => ⟨[], by simp [Env.set, hb]⟩, fun _ _ _ h => h⟩
  by_cases hm : m = n
  · subst hm; rw [h] at hx; cases hx
  · simp [Env.set, hm, hx]
theorem Env.le_ice {E : Env} {b : Nat} {fs : List Value} (h : ∀ gs, E.F b = some gs → ∃ more, fs = gs ++ more) : E.le (E.ice b fs) := by
  refine ⟨fun m x hx => hx, fun c gs hc => ?_, fun _ _ _ h => h⟩
  by_cases hm : c = b
  · subst hm; obtain ⟨more, rfl⟩ := h gs hc; exact ⟨more, by simp [Env.ice]⟩
  · exact ⟨[], by simp [Env.ice, hm, hc]⟩
theorem Env.le_stamp {E : Env} {b : Nat} {k : List UInt8} {s : Nat} (h : ∀ t, E.S b k = some t → t = s) : E.le (E.stamp b k s) := by
  refine ⟨fun _ _ h => h, fun _ fs h => ⟨[], by rw [List.append_nil]; exact h⟩, fun c q t ht => ?_⟩
  simp only [Env.stamp]
  split
  · rename_i hc
    obtain ⟨rfl, rfl⟩ := hc
    rw [h t ht]
  · exact ht
theorem Env.get_set (E : Env) (n b N : Nat) : (E.set n b N).G n = some (b, N) := by simp [Env.set]

def B (l : List UInt8) : ByteArray := ⟨l.toArray⟩
/-- The cells of a slice's elements. -/
def flat (l : List Value) : List Value := l.flatMap fun v => v.cells.toList
/-- At a place of a block some cells stand, for ever. -/
def At (E : Env) (b o : Nat) (vs : List Value) : Prop := ∃ fs rest, E.F b = some fs ∧ o ≤ fs.length ∧ fs.drop o = vs ++ rest
/-- An element: so many cells. -/
def El (sz : Nat) (v : Value) : Prop := v.cells.size = sz ∧ ∀ c ∈ v.cells.toList, c.oneCell' = true
/-- Frozen elements. -/
def Row (E : Env) (sz : Nat) (a : Option Addr) (vals : List Value) : Prop :=
  (∀ v ∈ vals, El sz v) ∧ (vals ≠ [] → ∃ b o, a = some ⟨b, o, none⟩ ∧ At E b o (flat vals))
mutual
def VR (E : Env) : V → Value → Prop
  | .any, _ => True
  | .bool b, v => v = .bool b
  | .int k n, v => v = .int k n
  | .str s, v => v = .string (B s)
  | .nilp, v => v = .pointer none
  | .ptr n o, v => ∃ b N, E.G n = some (b, N) ∧ v = .pointer (some ⟨b, o, none⟩)
  | .vptr cs, v => ∃ b o vs, v = .pointer (some ⟨b, o, none⟩) ∧ At E b o vs ∧ VRs E cs vs
  | .nilsl, v => v = .slice none 0 0
  | .zsl, v => ∃ a, v = .slice (some a) 0 0
  | .vsl sz l, v => ∃ a c vals, v = .slice a vals.length c ∧ vals.length ≤ c ∧ (a = none → c = 0) ∧ Row E sz a vals ∧ VRs E l vals
  | .osl n sz l, v => ∃ b N c vals, v = .slice (some ⟨b, 0, none⟩) vals.length c ∧ vals.length ≤ c ∧ Row E sz (some ⟨b, 0, none⟩) vals ∧ VRs E l vals ∧ E.G n = some (b, N) ∧ c * sz ≤ N
  | .sl n o l sz, v => ∃ b N c, E.G n = some (b, N) ∧ v = .slice (some ⟨b, o, none⟩) l c ∧ l ≤ c ∧ o + c * sz ≤ N
  | .nilmap, v => v = .map none
  | .map n, v => ∃ b N, E.G n = some (b, N) ∧ v = .map (some b)
  | .func f a c, v => ∃ a' c', v = .func (.func f) a' c' ∧ VRs E a a'.toList ∧ VRs E c c'.toList
  | .nilfunc, v => v = .nilFunc
  | .iface t x, v => ∃ x', v = .iface t x' ∧ VR E x x'
  | .niliface, v => v = .nilIface
  | .agg l, v => ∃ cs, v = .agg cs ∧ VRs E l cs.toList
  | .tuple l, v => ∃ cs, v = .tuple cs ∧ VRs E l cs.toList
  | .stamp n k, v => ∃ b N s, E.G n = some (b, N) ∧ E.S b k = some s ∧ v = .int .i64 (s : Int)
def VRs (E : Env) : List V → List Value → Prop
  | [], l => l = []
  | a :: r, l => ∃ x m, l = x :: m ∧ VR E a x ∧ VRs E r m
end
theorem At_mono {E D : Env} (h : E.le D) {b o : Nat} {vs : List Value} (ha : At E b o vs) : At D b o vs := by
  obtain ⟨fs, rest, hb, ho, hd⟩ := ha
  obtain ⟨more, hm⟩ := h.2.1 b fs hb
  exact ⟨fs ++ more, rest ++ more, hm, by simp; omega, by rw [List.drop_append_of_le_length ho, hd, List.append_assoc]⟩
theorem Row_mono {E D : Env} (h : E.le D) {sz : Nat} {a : Option Addr} {vals : List Value} (hr : Row E sz a vals) : Row D sz a vals :=
  ⟨hr.1, fun hne => by obtain ⟨b, o, ha, hat⟩ := hr.2 hne; exact ⟨b, o, ha, At_mono h hat⟩⟩
mutual
theorem VR_mono {E D : Env} (h : E.le D) : ∀ (a : V) (v : Value), VR E a v → VR D a v
  | .any, _, hv | .bool _, _, hv | .int _ _, _, hv | .str _, _, hv | .nilp, _, hv | .nilsl, _, hv | .zsl, _, hv | .nilmap, _, hv | .nilfunc, _, hv | .niliface, _, hv => by simp only [VR] at hv ⊢; try exact hv
  | .ptr n o, _, hv => by simp only [VR] at hv ⊢; obtain ⟨b, N, hb, rfl⟩ := hv; exact ⟨b, N, h.1 _ _ hb, rfl⟩
  | .vptr cs, _, hv => by simp only [VR] at hv ⊢; obtain ⟨b, o, vs, rfl, hb, hr⟩ := hv; exact ⟨b, o, vs, rfl, At_mono h hb, VRs_mono h cs _ hr⟩
  | .map n, _, hv => by simp only [VR] at hv ⊢; obtain ⟨b, N, hb, rfl⟩ := hv; exact ⟨b, N, h.1 _ _ hb, rfl⟩
  | .vsl sz l, _, hv => by simp only [VR] at hv ⊢; obtain ⟨a, c, vals, rfl, h1, h2, h3, h4⟩ := hv; exact ⟨a, c, vals, rfl, h1, h2, Row_mono h h3, VRs_mono h l _ h4⟩
  | .osl n sz l, _, hv => by simp only [VR] at hv ⊢; obtain ⟨b, N, c, vals, rfl, h1, h3, h4, h5, h6⟩ := hv; exact ⟨b, N, c, vals, rfl, h1, Row_mono h h3, VRs_mono h l _ h4, h.1 _ _ h5, h6⟩
  | .sl n o l sz, _, hv => by simp only [VR] at hv ⊢; obtain ⟨b, N, c, hb, hr⟩ := hv; exact ⟨b, N, c, h.1 _ _ hb, hr⟩
  | .func fn a c, _, hv => by simp only [VR] at hv ⊢; obtain ⟨a', c', rfl, h1, h2⟩ := hv; exact ⟨a', c', rfl, VRs_mono h a _ h1, VRs_mono h c _ h2⟩
  | .iface t x, _, hv => by simp only [VR] at hv ⊢; obtain ⟨x', rfl, h1⟩ := hv; exact ⟨x', rfl, VR_mono h x _ h1⟩
  | .agg l, _, hv => by simp only [VR] at hv ⊢; obtain ⟨cs, rfl, h1⟩ := hv; exact ⟨cs, rfl, VRs_mono h l _ h1⟩
  | .tuple l, _, hv => by simp only [VR] at hv ⊢; obtain ⟨cs, rfl, h1⟩ := hv; exact ⟨cs, rfl, VRs_mono h l _ h1⟩
  | .stamp n k, _, hv => by simp only [VR] at hv ⊢; obtain ⟨b, N, s, hb, hs, rfl⟩ := hv; exact ⟨b, N, s, h.1 _ _ hb, h.2.2 _ _ _ hs, rfl⟩
theorem VRs_mono {E D : Env} (h : E.le D) : ∀ (l : List V) (m : List Value), VRs E l m → VRs D l m
  | [], _, hv => by simpa only [VRs] using hv
  | a :: r, _, hv => by simp only [VRs] at hv ⊢; obtain ⟨x, m, rfl, h1, h2⟩ := hv; exact ⟨x, m, rfl, VR_mono h a x h1, VRs_mono h r m h2⟩
end
theorem VRs_nil {E : Env} : VRs E [] [] := by simp only [VRs]
theorem VRs_cons {E : Env} {a : V} {v : Value} {l : List V} {m : List Value} (h : VR E a v) (k : VRs E l m) : VRs E (a :: l) (v :: m) := by
  simp only [VRs]; exact ⟨v, m, rfl, h, k⟩
theorem VRs_inv {E : Env} {a : V} {v : Value} {l : List V} {m : List Value} (h : VRs E (a :: l) (v :: m)) : VR E a v ∧ VRs E l m := by
  simp only [VRs] at h; obtain ⟨x, y, e, h1, h2⟩ := h; cases e; exact ⟨h1, h2⟩
theorem VRs_length {E : Env} : ∀ (l : List V) (m : List Value), VRs E l m → m.length = l.length
  | [], m, h => by simp only [VRs] at h; simp [h]
  | a :: r, m, h => by simp only [VRs] at h; obtain ⟨x, m', rfl, _, h2⟩ := h; simp [VRs_length r m' h2]
theorem VRs_get {E : Env} : ∀ (l : List V) (m : List Value), VRs E l m → ∀ (i : Nat) (a : V), l[i]? = some a → ∃ v, m[i]? = some v ∧ VR E a v
  | [], m, h, i, a, hi => by simp at hi
  | b :: r, m, h, i, a, hi => by
    simp only [VRs] at h; obtain ⟨x, m', rfl, h1, h2⟩ := h
    cases i with
    | zero => simp at hi; subst hi; exact ⟨x, rfl, h1⟩
    | succ i => simpa using VRs_get r m' h2 i a (by simpa using hi)
theorem VRs_getD {E : Env} {l : List V} {m : List Value} (h : VRs E l m) (i : Nat) : VR E (l.getD i .any) (m.getD i undef) := by
  by_cases hi : i < l.length
  · obtain ⟨v, hv, hr⟩ := VRs_get l m h i l[i] (List.getElem?_eq_getElem hi)
    simpa [List.getD, hi, hv] using hr
  · simp only [List.getD, List.getElem?_eq_none (Nat.le_of_not_lt hi), Option.getD_none]
    simp only [VR]
theorem VRs_append {E : Env} : ∀ {l : List V} {m : List Value} {l' : List V} {m' : List Value}, VRs E l m → VRs E l' m' → VRs E (l ++ l') (m ++ m')
  | [], m, l', m', h, k => by simp only [VRs] at h; subst h; exact k
  | a :: r, m, l', m', h, k => by
    simp only [VRs] at h; obtain ⟨x, m1, rfl, h1, h2⟩ := h
    exact VRs_cons h1 (VRs_append h2 k)
theorem VRs_split {E : Env} : ∀ {l l' : List V} {m : List Value}, VRs E (l ++ l') m → ∃ m1 m2, m = m1 ++ m2 ∧ VRs E l m1 ∧ VRs E l' m2
  | [], l', m, h => ⟨[], m, rfl, VRs_nil, h⟩
  | a :: r, l', m, h => by
    simp only [List.cons_append, VRs] at h; obtain ⟨x, m0, rfl, h1, h2⟩ := h
    obtain ⟨m1, m2, rfl, h3, h4⟩ := VRs_split h2
    exact ⟨x :: m1, m2, rfl, VRs_cons h1 h3, h4⟩
theorem VRs_take {E : Env} : ∀ {l : List V} {m : List Value} (n : Nat), VRs E l m → VRs E (l.take n) (m.take n)
  | _, _, 0, h => by simp [VRs]
  | [], m, n + 1, h => by simp only [VRs] at h; subst h; simp [VRs]
  | a :: r, m, n + 1, h => by
    simp only [VRs] at h; obtain ⟨x, m1, rfl, h1, h2⟩ := h
    exact VRs_cons h1 (VRs_take n h2)
theorem VRs_drop {E : Env} : ∀ {l : List V} {m : List Value} (n : Nat), VRs E l m → VRs E (l.drop n) (m.drop n)
  | _, _, 0, h => by simpa using h
  | [], m, n + 1, h => by simp only [VRs] at h; subst h; simp [VRs]
  | a :: r, m, n + 1, h => by
    simp only [VRs] at h; obtain ⟨x, m1, rfl, h1, h2⟩ := h
    simpa using VRs_drop n h2
theorem VRs_set {E : Env} : ∀ {l : List V} {m : List Value} (i : Nat) {a : V} {v : Value}, VRs E l m → VR E a v → VRs E (l.set i a) (m.set i v)
  | [], m, i, a, v, h, k => by simp only [VRs] at h; subst h; simp [VRs]
  | b :: r, m, 0, a, v, h, k => by
    simp only [VRs] at h; obtain ⟨x, m1, rfl, h1, h2⟩ := h
    exact VRs_cons k h2
  | b :: r, m, i + 1, a, v, h, k => by
    simp only [VRs] at h; obtain ⟨x, m1, rfl, h1, h2⟩ := h
    exact VRs_cons h1 (VRs_set i h2 k)
theorem VRs_anys {E : Env} : ∀ (m : List Value), VRs E (List.replicate m.length .any) m
  | [] => VRs_nil
  | x :: m => by simp only [List.length_cons, List.replicate_succ]; exact VRs_cons (by simp only [VR]) (VRs_anys m)

/-- Objects. A tip: behind so many frozen cells a row may grow. A row may be written. Keys rise. -/
inductive O where
  | box (vs : List V) (t : Nat)
  | row (vs : List V) (t : Nat)
  | tip (e t : Nat)
  | map (st : Bool) (es : List (List UInt8 × V))
  | siter (s : List UInt8) (pos : Nat)
  | dead
  deriving Inhabited
abbrev Hp := Nat → Option O
def Hp.set (H : Hp) (n : Nat) (o : O) : Hp := fun m => if m = n then some o else H m
theorem Hp.set_same (H : Hp) (n : Nat) (o : O) : H.set n o n = some o := by simp [Hp.set]
theorem Hp.set_ne (H : Hp) {n m : Nat} (o : O) (h : m ≠ n) : H.set n o m = H m := by simp [Hp.set, h]
theorem Hp.fin_set {H : Hp} (h : ∃ k, ∀ n, k ≤ n → H n = none) (n : Nat) (o : O) : ∃ k, ∀ m, k ≤ m → H.set n o m = none := by
  obtain ⟨k, hk⟩ := h
  exact ⟨k + n + 1, fun m hm => by rw [Hp.set_ne _ _ (by omega)]; exact hk m (by omega)⟩
/-- All that was there is there, as it was. -/
def Ext (H J : Hp) : Prop := ∀ n o, H n = some o → J n = some o
theorem Ext.refl (H : Hp) : Ext H H := fun _ _ h => h
theorem Ext.trans {H J K : Hp} (h : Ext H J) (k : Ext J K) : Ext H K := fun n o hn => k n o (h n o hn)
theorem Ext.set {H J : Hp} (h : Ext H J) {n : Nat} {o : O} (hn : H n = none) : Ext H (J.set n o) := fun m p hm => by
  have hmn : m ≠ n := by rintro rfl; rw [hn] at hm; cases hm
  rw [Hp.set_ne _ _ hmn]; exact h m p hm

/-- Entries of a map, in some order. -/
def ERs (E : Env) : List (List UInt8 × V) → List MapEntry → Prop
  | [], l => l = []
  | (k, v) :: r, l => ∃ x m, l = x :: m ∧ x.key = .string (B k) ∧ VR E v x.val ∧ ERs E r m
theorem ERs_mono {E D : Env} (h : E.le D) : ∀ (l : List (List UInt8 × V)) (m : List MapEntry), ERs E l m → ERs D l m
  | [], m, hm => hm
  | (k, v) :: r, m, hm => by
    obtain ⟨x, m', rfl, h1, h2, h4⟩ := hm
    exact ⟨x, m', rfl, h1, VR_mono h _ _ h2, ERs_mono h r m' h4⟩
def Rise (es : List (List UInt8 × V)) : Prop := es.Pairwise fun a b => a.1 < b.1
/-- What a block of the model holds. -/
def OR (E : Env) (o : O) (b N : Nat) (w : World) : Prop :=
  match o with
  | .box vs t => E.F b = none ∧ ∃ arr : Array Value, w.heap[b]? = some (.cells arr t (0, 0)) ∧ VRs E vs arr.toList ∧ arr.size = N
  | .row vs t => E.F b = none ∧ ∃ arr : Array Value, w.heap[b]? = some (.cells arr t (0, 0)) ∧ arr.size = N ∧ vs.length ≤ N ∧ VRs E vs (arr.toList.take vs.length)
  | .tip e t => (∃ fs, E.F b = some fs ∧ fs.length = e) ∧ ∃ arr : Array Value, w.heap[b]? = some (.cells arr t (0, 0)) ∧ arr.size = N
  | .map st es => E.F b = none ∧ ∃ (ces : Array MapEntry) (c : Nat), w.heap[b]? = some (.map ces c) ∧ Rise es ∧ (∃ m, m.Perm ces.toList ∧ ERs E es m) ∧ (ces.toList.map (·.born)).Nodup ∧ (∀ x ∈ ces.toList, x.born < c) ∧ ∀ k s, E.S b k = some s → st = true ∧ ∃ x ∈ ces.toList, x.key = .string (B k) ∧ x.born = s
  | .siter s pos => E.F b = none ∧ w.heap[b]? = some (.stringIter (B s) pos)
  | .dead => True
/-- What is frozen stands in a world. -/
def Iced (E : Env) (w : World) : Prop := ∀ b fs, E.F b = some fs → b < w.heap.size ∧ ∀ j v, fs[j]? = some v → w.cell? ⟨b, j, none⟩ = some v
structure WR (E : Env) (base : Nat) (w0 : World) (H : Hp) (w : World) : Prop where
  below : Below base w0 w
  big : base ≤ w.heap.size
  live : ∀ n o b N, H n = some o → E.G n = some (b, N) → o ≠ .dead → base ≤ b ∧ b < w.heap.size ∧ OR E o b N w
  dom : ∀ n, H n = none → E.G n = none
  apart : ∀ n m o p b N M, H n = some o → H m = some p → o ≠ .dead → p ≠ .dead → E.G n = some (b, N) → E.G m = some (b, M) → n = m
  iced : Iced E w
  old : ∀ b k, w.heap.size ≤ b → E.S b k = none
  fin : ∃ k, ∀ n, k ≤ n → H n = none
end Go.Proofs.Ytmpheeanjjfddaa.SM
