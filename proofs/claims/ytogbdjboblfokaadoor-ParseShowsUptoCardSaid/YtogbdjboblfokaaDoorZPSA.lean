/- Texts of this claim, one behind the other (merged by the session's own program merge.py: a claim bears sixty files): HBase, HBld, HStr, HLex, XE05x0, XE05x1, XE05x, HWord, PLexA, PLexB, PLexC, PParseA, XT06x0, HAny, XW05x0, XW05x1, XW05x2. -/
import Derived.Test.YtogbdjboblfokaaDoorWMore
import Derived.Shelf.Strings.BuilderK
import Derived.Lib.UnsafeStr
import Derived.Lib.OthersKept
import Derived.Test.YtogbdjboblfokaaDoorShelf
import Derived.Test.YtogbdjboblfokaaDoorWNEv
import Derived.Laws.AppendOwn
import Derived.Shelf.Vars
import Derived.WalkKit
import Derived.Lib.Hide
import Derived.Deep.LoopGhost
import Derived.Test.YtogbdjboblfokaaDoorProg
import Derived.Below
import Derived.Deep.Draws
import Derived.Deep.AppendLies
import Derived.Maps.AppendAt
import Derived.OwnWalk
import Derived.Laws.BytesArg
import Derived.Laws.MakeOwn
import Derived.Laws.OwnMore
import Derived.Deep.OwnRows
import Derived.Tactics
import Derived.Lib.ConvBytes
import Derived.Laws.Slices
import Derived.KernelRfl
import Derived.RowKit3
import Derived.Deep.QuietTactic
import Derived.BigQuiet
import Derived.WideLaws
import Derived.Deep.DeepCutAuto
import Derived.Deep.CutBlock
import Derived.Deep.RegionHeld3
import Derived.Laws.Rows
import Derived.Lib.AppendStr
import Derived.ArgAppend
import Derived.Laws.IdiomCopy
import Derived.OrdersHeld
import Derived.Laws.BitsLemmas
import Derived.RowKit
import Derived.WalkLawsBesides
import Derived.Test.YtogbdjboblfokaaDoorWWords
import Derived.Test.YtogbdjboblfokaaDoorWLast
import Derived.Test.YtogbdjboblfokaaDoorWTab
import Derived.Test.YtogbdjboblfokaaDoorWFour
import Derived.Test.YtogbdjboblfokaaDoorWQPut
import Derived.Test.YtogbdjboblfokaaDoorWApart
import Derived.Test.YtogbdjboblfokaaDoorWArr
import Derived.Test.YtogbdjboblfokaaDoorWZeros
import Derived.Test.YtogbdjboblfokaaDoorWFoot
import Derived.Test.YtogbdjboblfokaaDoorWKept
import Derived.Test.YtogbdjboblfokaaDoorWShare
import Derived.Test.YtogbdjboblfokaaDoorWN
import Derived.Test.YtogbdjboblfokaaDoorWFootNe
import Derived.Test.YtogbdjboblfokaaDoorWAt
import Derived.Test.YtogbdjboblfokaaDoorWEqStruct
import Derived.Test.YtogbdjboblfokaaDoorWRepsOne
import Derived.Test.YtogbdjboblfokaaDoorWInv
import Derived.Test.YtogbdjboblfokaaDoorWInvWords
import Derived.Test.YtogbdjboblfokaaDoorWGuard
import Derived.Laws.Runes
import Derived.Laws.RangeAny
/- What an answer with rounds comes to (Ev), and strings as lists of bytes (B). Plain Lean; no program. -/
namespace Go.Proofs.YtogbdjboblfokaaDoor.X
open Go.RowKit Go.Proofs.YtogbdjboblfokaaDoorW.PrintWords Go.Proofs.YtogbdjboblfokaaDoorW.PrintLast Go.Proofs.YtogbdjboblfokaaDoorW.PrintMore

/-- With enough rounds the answer is r. -/
def Ev {α : Type} (g : Nat → Option α) (r : α) : Prop := ∃ K, ∀ k, K ≤ k → g k = some r
theorem Ev.ret {α : Type} (r : α) : Ev (fun _ => some r) r := ⟨0, fun _ _ => rfl⟩
theorem Ev.of {α : Type} {x : Option α} {r : α} (h : x = some r) : Ev (fun _ => x) r := ⟨0, fun _ _ => h⟩
theorem Ev.step {α : Type} {g g' : Nat → Option α} {r : α} (h : ∀ k, g (k + 1) = g' k) (e : Ev g' r) : Ev g r := by
  obtain ⟨K, hK⟩ := e
  refine ⟨K + 1, fun k hk => ?_⟩
  obtain ⟨m, rfl⟩ : ∃ m, k = m + 1 := ⟨k - 1, by omega⟩
  rw [h]
  exact hK m (by omega)
theorem Ev.bind {α β : Type} {g : Nat → Option α} {f : Nat → α → Option β} {a : α} {b : β} (h : Ev g a) (h' : Ev (fun k => f k a) b) : Ev (fun k => (g k).bind (f k)) b := by
  obtain ⟨K, hK⟩ := h
  obtain ⟨L, hL⟩ := h'
  refine ⟨max K L, fun k hk => ?_⟩
  show (g k).bind (f k) = some b
  rw [hK k (by omega)]
  exact hL k (by omega)
theorem Ev.bind' {α β : Type} {x : Option α} {f : Nat → α → Option β} {a : α} {b : β} (h : x = some a) (h' : Ev (fun k => f k a) b) : Ev (fun k => x.bind (f k)) b := by
  rw [h]; exact h'
theorem Ev.congr {α : Type} {g g' : Nat → Option α} {r : α} (h : ∀ k, g k = g' k) (e : Ev g' r) : Ev g r := by
  obtain ⟨K, hK⟩ := e
  exact ⟨K, fun k hk => (h k).trans (hK k hk)⟩
theorem Ev.ite {α : Type} {c : Prop} [Decidable c] {g g' : Nat → Option α} {r : α} (h : c → Ev g r) (h' : ¬ c → Ev g' r) : Ev (fun k => if c then g k else g' k) r := by
  by_cases hc : c
  · simp only [if_pos hc]; exact h hc
  · simp only [if_neg hc]; exact h' hc
theorem Ev.iff {α : Type} {c d : Prop} [Decidable c] {g g' : Nat → Option α} {r : α} (e : c = d) (h : d → Ev g r) (h' : ¬ d → Ev g' r) : Ev (fun k => if c then g k else g' k) r :=
  Ev.ite (fun hc => h (e ▸ hc)) (fun hc => h' (e ▸ hc))
theorem Ev.pos {α : Type} {c : Prop} [Decidable c] {g g' : Nat → Option α} {r : α} (hc : c) (h : Ev g r) : Ev (fun k => if c then g k else g' k) r := by
  simp only [if_pos hc]; exact h
theorem Ev.neg {α : Type} {c : Prop} [Decidable c] {g g' : Nat → Option α} {r : α} (hc : ¬ c) (h : Ev g' r) : Ev (fun k => if c then g k else g' k) r := by
  simp only [if_neg hc]; exact h
theorem Ev.get {α : Type} {g : Nat → Option α} {r : α} (e : Ev g r) : ∃ k, g k = some r := by
  obtain ⟨K, hK⟩ := e
  exact ⟨K, hK K (Nat.le_refl _)⟩
theorem Ev.eq {α : Type} {g : Nat → Option α} {r r' : α} (e : Ev g r) (h : r = r') : Ev g r' := h ▸ e

/-- A list of bytes as a string. -/
def B (l : List UInt8) : ByteArray := ⟨l.toArray⟩
theorem B_data (l : List UInt8) : (B l).data.toList = l := by simp [B]
theorem B_toList (l : List UInt8) : (B l).toList = l := by rw [ByteArray.toList_eq, B_data]
theorem B_of (s : ByteArray) : B s.data.toList = s := by cases s; simp [B]
theorem B_size (l : List UInt8) : (B l).size = l.length := by simp [B, ByteArray.size]
theorem B_inj {a b : List UInt8} (h : B a = B b) : a = b := by rw [← B_data a, h, B_data]
theorem B_eq (a b : List UInt8) : (B a = B b) = (a = b) := propext ⟨B_inj, fun h => h ▸ rfl⟩
theorem data_eq {a b : ByteArray} (h : a.data.toList = b.data.toList) : a = b := by rw [← B_of a, ← B_of b, h]
theorem B_append (a b : List UInt8) : B a ++ B b = B (a ++ b) := data_eq (by rw [B_data, ByteArray.data_append, Array.toList_append, B_data, B_data])
theorem B_extract (l : List UInt8) (i j : Nat) : (B l).extract i j = B ((l.take j).drop i) := by
  apply data_eq
  rw [B_data]
  simp only [B, ByteArray.data_extract, Array.toList_extract, List.extract_eq_take_drop, List.drop_take]
theorem B_nil : (⟨#[]⟩ : ByteArray) = B [] := rfl
theorem B_lit (l : List UInt8) : (⟨l.toArray⟩ : ByteArray) = B l := rfl
theorem ex_B (s : ByteArray) : ∃ l, s = B l ∧ l.length = s.size := ⟨s.data.toList, (B_of s).symm, Array.length_toList⟩

theorem bt_B (l : List UInt8) (i : Nat) (h : i < l.length) : bt (B l) (i : Int) = (l[i].toNat : Int) := by
  have h' : ((i : Int)).toNat < (B l).size := by rw [B_size]; simpa using h
  rw [← bt_at (B l) i h']
  simp [B, ByteArray.getElem_eq_getElem_data]
theorem u8_toNat_eq (a b : UInt8) : ((a.toNat : Int) = (b.toNat : Int)) = (a = b) := by
  apply propext
  constructor
  · intro h; exact UInt8.toNat_inj.1 (by omega)
  · rintro rfl; rfl
theorem u8_num (a : UInt8) (n : Nat) (hn : n < 256) : ((a.toNat : Int) = (n : Int)) = (a = UInt8.ofNat n) := by
  apply propext
  constructor
  · intro h
    apply UInt8.toNat_inj.1
    rw [UInt8.toNat_ofNat']
    omega
  · rintro rfl
    rw [UInt8.toNat_ofNat']
    omega
theorem u8_back (c : UInt8) : ((c.toNat : Int)).toNat.toUInt8 = c := by
  apply UInt8.toNat_inj.1
  simp
theorem wrap_succ (n : Nat) (h : n < 4611686018427387904) : wrap64 ((n : Int) + 1) = ((n + 1 : Nat) : Int) := by unfold wrap64; omega
theorem wrap_pred (n : Nat) (h0 : 0 < n) (h : n < 4611686018427387904) : wrap64 ((n : Int) - 1) = ((n - 1 : Nat) : Int) := by unfold wrap64; omega
theorem wrap_add (n m : Nat) (h : n + m < 4611686018427387904) : wrap64 ((n : Int) + (m : Int)) = ((n + m : Nat) : Int) := by unfold wrap64; omega
theorem wrap_sub (n m : Nat) (h0 : m ≤ n) (h : n < 4611686018427387904) : wrap64 ((n : Int) - (m : Int)) = ((n - m : Nat) : Int) := by unfold wrap64; omega
theorem drop_get {α : Type} (l : List α) (i : Nat) (h : i < l.length) : l.drop i = l[i] :: l.drop (i + 1) := List.drop_eq_getElem_cons h
theorem mem_drop_iff {α : Type} (l : List α) (i : Nat) (h : i < l.length) (c : α) : c ∈ l.drop i ↔ c = l[i] ∨ c ∈ l.drop (i + 1) := by
  conv => lhs; rw [drop_get l i h, List.mem_cons]
theorem drop_eq_iff {α : Type} (l m : List α) (i : Nat) (h : i < l.length) (h' : i < m.length) : l.drop i = m.drop i ↔ l[i] = m[i] ∧ l.drop (i + 1) = m.drop (i + 1) := by
  conv => lhs; rw [drop_get l i h, drop_get m i h', List.cons.injEq]
instance baLaw : LawfulBEq ByteArray where
  eq_of_beq := by
    intro a b h
    have h' : (a.data == b.data) = true := h
    have := eq_of_beq h'
    cases a; cases b; simp_all
  rfl := by intro a; show (a.data == a.data) = true; simp
theorem one_at {α : Type} (l : List α) (i : Nat) (h : i < l.length) : (l.take (i + 1)).drop i = [l[i]] := by
  have e : l.take (i + 1) = l.take i ++ [l[i]] := by rw [List.take_succ_eq_append_getElem h]
  rw [e, List.drop_append_of_le_length (by simp; omega)]
  simp
/-- Rounds over the places of a list: from its end backwards. -/
theorem upto_ind {n : Nat} {P : Nat → Prop} (hend : P n) (hstep : ∀ i, i < n → P (i + 1) → P i) : ∀ i, i ≤ n → P i := by
  intro i hi
  obtain ⟨d, hd⟩ : ∃ d, d = n - i := ⟨_, rfl⟩
  induction d generalizing i with
  | zero => have : i = n := by omega
            exact this ▸ hend
  | succ d ih => exact hstep i (by omega) (ih (i + 1) (by omega) (by omega))
/-- Two cells of a block, stored twice. -/
theorem set2_again (w : World) (b : Nat) (x y z t : Value) :
    (((w.setCell ⟨b, 0, none⟩ x).setCell ⟨b, 1, none⟩ y).setCell ⟨b, 0, none⟩ z).setCell ⟨b, 1, none⟩ t = (w.setCell ⟨b, 0, none⟩ z).setCell ⟨b, 1, none⟩ t := by
  simp only [World.setCell, Option.isSome_none, Bool.false_eq_true, if_false]
  congr 1
  apply Array.ext_getElem?
  intro i
  simp only [Array.getElem?_modify]
  by_cases h : b = i
  · simp only [if_pos h]
    cases w.heap[i]? with
    | none => rfl
    | some o =>
      cases o <;> simp
      apply Array.ext_getElem?
      intro j
      simp only [Array.getElem?_setIfInBounds, Array.size_setIfInBounds]
      by_cases h0 : 0 = j
      · subst h0; simp
      · by_cases h1 : 1 = j
        · subst h1; simp
        · simp [h0, h1]
  · simp only [if_neg h]

theorem cell4_1 (w : World) (b : Nat) (x y z t : Value) (h : (w.cell? ⟨b, 1, none⟩).isSome = true) :
    ((((w.setCell ⟨b, 0, none⟩ x).setCell ⟨b, 1, none⟩ y).setCell ⟨b, 0, none⟩ z).setCell ⟨b, 1, none⟩ t).cell? ⟨b, 1, none⟩ = some t := by
  obtain ⟨v, hv⟩ := Option.isSome_iff_exists.1 h
  obtain ⟨v1, h1⟩ := cell?_setCell_some (p := ⟨b, 0, none⟩) (x := x) hv
  obtain ⟨v2, h2⟩ := cell?_setCell_some (p := ⟨b, 1, none⟩) (x := y) h1
  obtain ⟨v3, h3⟩ := cell?_setCell_some (p := ⟨b, 0, none⟩) (x := z) h2
  exact World.cell?_setCell_same _ _ _ h3

theorem cell4_1d (w : World) (b n : Nat) (x y z t : Value) (h : (w.cell? ⟨b, 1, none⟩).isSome = true) :
    (((((w.setCell ⟨b, 0, none⟩ x).setCell ⟨b, 1, none⟩ y).drewN n).setCell ⟨b, 0, none⟩ z).setCell ⟨b, 1, none⟩ t).cell? ⟨b, 1, none⟩ = some t := by
  obtain ⟨v, hv⟩ := Option.isSome_iff_exists.1 h
  obtain ⟨v1, h1⟩ := cell?_setCell_some (p := ⟨b, 0, none⟩) (x := x) hv
  obtain ⟨v2, h2⟩ := cell?_setCell_some (p := ⟨b, 1, none⟩) (x := y) h1
  have h2' : (((w.setCell ⟨b, 0, none⟩ x).setCell ⟨b, 1, none⟩ y).drewN n).cell? ⟨b, 1, none⟩ = some v2 := h2
  obtain ⟨v3, h3⟩ := cell?_setCell_some (p := ⟨b, 0, none⟩) (x := z) h2'
  exact World.cell?_setCell_same _ _ _ h3

theorem rdOf_get {α : Type} (d : α) (l : List α) (i : Nat) (h : i < l.length) : rdOf d l (i : Int) = l[i] := by simp [rdOf, h]
theorem rd_get (l : List Int) (i : Nat) (h : i < l.length) : rd l (i : Int) = l[i] := by simp [rd, h]
end Go.Proofs.YtogbdjboblfokaaDoor.X
/- strings.Builder's WriteByte, WriteString and String at this translation, as contracts on lists of bytes; condition: a text of at most 2^47 bytes. -/
namespace Go.Proofs.YtogbdjboblfokaaDoor.X
open Go.RowKit Go.Shelf Go.Proofs.YtogbdjboblfokaaDoorW.PrintWords

def bldR : Go.Shelf.Ren := ⟨fun | 166 => 66 | 167 => 67 | 169 => 68 | 240 => 83 | 276 => 98 | n => n,
  fun | 0 => 0 | 3 => 3 | 4 => 4 | 5 => 5 | 9 => 9 | 20 => 20 | 37 => 130 | 70 => 129 | 72 => 132 | 75 => 136 | 80 => 140 | 164 => 164 | n => n, fun | n => n⟩
theorem bldWB : Go.Proofs.Lays.n167 Tryd.prog bldR where
  mixed := by kernel_rfl
  f167 := Tryd.func67.trans (congrArg some (by kernel_rfl))
  f240 := Tryd.func83.trans (congrArg some (by kernel_rfl))
  f276 := Tryd.func98.trans (congrArg some (by kernel_rfl))
  t0 := by kernel_rfl
  a0 := fun w => by kernel_rfl
  z0 := fun w => by kernel_rfl
  v0 := fun w => by kernel_rfl
  t4 := by kernel_rfl
  a4 := fun w => by kernel_rfl
  z4 := fun w => by kernel_rfl
  v4 := fun w => by kernel_rfl
  t5 := by kernel_rfl
  a5 := fun w => by kernel_rfl
  z5 := fun w => by kernel_rfl
  v5 := fun w => by kernel_rfl
  t9 := by kernel_rfl
  a9 := fun w => by kernel_rfl
  z9 := fun w => by kernel_rfl
  v9 := fun w => by kernel_rfl
  t20 := by kernel_rfl
  a20 := fun w => by kernel_rfl
  z20 := fun w => by kernel_rfl
  v20 := fun w => by kernel_rfl
  t37 := by kernel_rfl
  a37 := fun w => by kernel_rfl
  z37 := fun w => by kernel_rfl
  v37 := fun w => by kernel_rfl
  t70 := by kernel_rfl
  a70 := fun w => by kernel_rfl
  z70 := fun w => by kernel_rfl
  v70 := fun w => by kernel_rfl
  t72 := by kernel_rfl
  a72 := fun w => by kernel_rfl
  z72 := fun w => by kernel_rfl
  v72 := fun w => by kernel_rfl
  t75 := by kernel_rfl
  a75 := fun w => by kernel_rfl
  z75 := fun w => by kernel_rfl
  v75 := fun w => by kernel_rfl
  t164 := by kernel_rfl
  a164 := fun w => by kernel_rfl
  z164 := fun w => by kernel_rfl
  v164 := fun w => by kernel_rfl
theorem bldWS : Go.Proofs.Lays.n166 Tryd.prog bldR where
  mixed := by kernel_rfl
  f166 := Tryd.func66.trans (congrArg some (by kernel_rfl))
  f240 := Tryd.func83.trans (congrArg some (by kernel_rfl))
  f276 := Tryd.func98.trans (congrArg some (by kernel_rfl))
  t0 := by kernel_rfl
  a0 := fun w => by kernel_rfl
  z0 := fun w => by kernel_rfl
  v0 := fun w => by kernel_rfl
  t3 := by kernel_rfl
  a3 := fun w => by kernel_rfl
  z3 := fun w => by kernel_rfl
  v3 := fun w => by kernel_rfl
  t4 := by kernel_rfl
  a4 := fun w => by kernel_rfl
  z4 := fun w => by kernel_rfl
  v4 := fun w => by kernel_rfl
  t9 := by kernel_rfl
  a9 := fun w => by kernel_rfl
  z9 := fun w => by kernel_rfl
  v9 := fun w => by kernel_rfl
  t20 := by kernel_rfl
  a20 := fun w => by kernel_rfl
  z20 := fun w => by kernel_rfl
  v20 := fun w => by kernel_rfl
  t37 := by kernel_rfl
  a37 := fun w => by kernel_rfl
  z37 := fun w => by kernel_rfl
  v37 := fun w => by kernel_rfl
  t70 := by kernel_rfl
  a70 := fun w => by kernel_rfl
  z70 := fun w => by kernel_rfl
  v70 := fun w => by kernel_rfl
  t72 := by kernel_rfl
  a72 := fun w => by kernel_rfl
  z72 := fun w => by kernel_rfl
  v72 := fun w => by kernel_rfl
  t75 := by kernel_rfl
  a75 := fun w => by kernel_rfl
  z75 := fun w => by kernel_rfl
  v75 := fun w => by kernel_rfl
  t164 := by kernel_rfl
  a164 := fun w => by kernel_rfl
  z164 := fun w => by kernel_rfl
  v164 := fun w => by kernel_rfl
theorem bldX : Go.Proofs.Builder.Extra Tryd.prog bldR where
  sizeBuilder := by kernel_rfl
  liesBuilder := by kernel_rfl
  t5 := by kernel_rfl
  a5 := fun w => by kernel_rfl
  z5 := fun w => by kernel_rfl
  v5 := fun w => by kernel_rfl
  infoByte := by kernel_rfl
  cellsByte := by kernel_rfl
  sizeByte := by kernel_rfl
  neB5 := by decide

/-- A builder of the call's own, in block b, that holds the bytes l. -/
def Bld (b : Nat) (l : List UInt8) (w : World) : Prop := Lib.IsBuilderF 132 5 b b (Lib.byteCells l) w
theorem Bld.lt {b : Nat} {l : List UInt8} {w : World} (h : Bld b l w) : b < w.heap.size := by
  rcases h with ⟨_, v, hb, _⟩ | ⟨_, v, hb, _⟩
  · exact (Array.getElem?_eq_some_iff.1 hb).1
  · exact (Array.getElem?_eq_some_iff.1 hb).1
theorem Bld.fresh (w : World) : Bld w.heap.size [] (w.alloc (.cells #[.pointer none, .slice none 0 0] 132)) :=
  Lib.IsBuilderF.of (Lib.fresh_isBuilder 132 5 w)
theorem writeByte (b : Nat) (l : List UInt8) (c : UInt8) (w : World) (h : Bld b l w) (hl : l.length + 1 ≤ 140737488355328) :
    Calls Tryd.prog 67 #[.pointer (some ⟨b, 0, none⟩), .int .u8 (c.toNat : Int)] w fun e w' => e = .returned .nilIface ∧ Bld b (l ++ [c]) w' ∧ Below b w w' ∧ Lib.OthersKept 5 (some b) w w' := by
  refine (Any.Builder_WriteByte_k bldWB bldX b b (Lib.byteCells l) (c.toNat : Int) w h (by rw [Lib.byteCells_length]; exact hl) (Nat.le_of_lt (Bld.lt h))).mono fun e w' hh => ⟨hh.1, .inr ?_, hh.2.2⟩
  rw [Lib.byteCells_append]
  exact hh.2.1
theorem writeString (b : Nat) (l m : List UInt8) (w : World) (h : Bld b l w) (hl : l.length + m.length ≤ 140737488355328) :
    Calls Tryd.prog 66 #[.pointer (some ⟨b, 0, none⟩), .string (B m)] w fun e w' => e = .returned (.tuple #[.int .i64 (m.length : Int), .nilIface]) ∧ Bld b (l ++ m) w' ∧ Below b w w' ∧ Lib.OthersKept 5 (some b) w w' := by
  refine (Any.Builder_WriteString_k bldWS bldX b b (Lib.byteCells l) (B m) w h (by rw [Lib.byteCells_length, B_size]; exact hl) (Nat.le_of_lt (Bld.lt h))).mono fun e w' hh => ⟨by rw [← B_size m]; exact hh.1, .inr ?_, hh.2.2⟩
  rw [Lib.byteCells_append]
  exact hh.2.1
theorem bldString (b : Nat) (l : List UInt8) (w : World) (h : Bld b l w) :
    Calls Tryd.prog 68 #[.pointer (some ⟨b, 0, none⟩)] w fun e w' => e = .returned (.string (B l)) ∧ Bld b l w' ∧ Below b w w' ∧ Lib.OthersKept 5 (some b) w w' :=
  Tryd.Builder_String_any_k b b l w h (Nat.le_of_lt (Bld.lt h))
end Go.Proofs.YtogbdjboblfokaaDoor.X
/- Library functions, as plain Lean functions with contracts in one form: strings.IndexByte, strings.Join, slices.Clone at []string. Conditions: a joined text of at most 2^47 bytes, a cloned slice of at most 2^43 strings. -/
namespace Go.Proofs.YtogbdjboblfokaaDoor.X
open Go.RowKit Go.Proofs.YtogbdjboblfokaaDoorW.PrintWords Go.Proofs.YtogbdjboblfokaaDoorW.PrintLast Go.Proofs.YtogbdjboblfokaaDoorW.PrintMore

theorem reads_cells {w : World} {A : Option Addr} {n : Nat} {xs : List ByteArray} (h : Kd.string.C w A n xs) (hn : 0 < n) :
    ∃ b o, A = some ⟨b, o, none⟩ ∧ b < w.heap.size ∧ ∀ (j : Nat) x, xs[j]? = some x → w.cell? ⟨b, o + j, none⟩ = some (.string x) := by
  obtain ⟨h1, h2, h3⟩ := h
  obtain ⟨⟨b, o, s⟩, rfl, hc⟩ := h3 hn
  have hcell : ∀ (j : Nat) x, xs[j]? = some x → w.cell? ((⟨b, o, s⟩ : Addr).add j) = some (.string x) := by
    intro j x hj
    obtain ⟨c, _, hK, hcc⟩ := hc j x hj
    have hK' : c = [Value.string x] := hK
    subst hK'
    have := hcc 0 (.string x) rfl
    simpa [Kd.string, Kd.scalar] using this
  have h0 : ∃ x, xs[0]? = some x := ⟨xs[0]'(by omega), List.getElem?_eq_getElem (by omega)⟩
  obtain ⟨x0, hx0⟩ := h0
  have hc0 := hcell 0 x0 hx0
  have hs : s = none := by
    cases s with
    | none => rfl
    | some s => simp [Addr.add, World.cell?] at hc0; split at hc0 <;> simp at hc0
  subst hs
  refine ⟨b, o, rfl, ?_, ?_⟩
  · exact World.block_lt_of_cell? w _ hc0
  · intro j x hj
    have := hcell j x hj
    rw [show (⟨b, o, none⟩ : Addr).add j = ⟨b, o + j, none⟩ from by unfold Addr.add; split <;> simp_all] at this
    exact this

/-- A slice's own block hangs on its address alone. -/
theorem ownBlock_slice (A : Option Addr) (n c : Nat) : (Value.slice A n c).ownBlock = A.map (·.block) := by cases A <;> rfl
theorem drawn_same (w : World) : Drawn0 w w := Drawn0.refl w

/-- strings.IndexByte -/
def strings_IndexByte.f (a0 : ByteArray) (a1 : Int) : Option Int := some (Lib.indexByte a0.data.toList a1.toNat.toUInt8)
theorem strings_IndexByte.calls (a0 : ByteArray) (a1 : Int) (r : Int) (w : World) (h : strings_IndexByte.f a0 a1 = some r) :
    Calls Tryd.prog 40 #[.string a0, .int .u8 a1] w fun e w' => e = .returned (.int .i64 r) ∧ Drawn0 w w' := by
  obtain rfl := Option.some.inj h
  exact (Tryd.strings_IndexByte a0 a1 w).mono fun e w' hh => ⟨hh.1, hh.2 ▸ Drawn0.refl _⟩


def joined (l : List ByteArray) (sep : ByteArray) : ByteArray := ⟨(Lib.join (l.map (·.data.toList)) sep.data.toList).toArray⟩

/-- strings.Join -/
def strings_Join.f (l0 : List ByteArray) (a1 : ByteArray) : Option ByteArray :=
  if l0.length ≤ 140737488355328 ∧ (Lib.join (l0.map (·.data.toList)) a1.data.toList).length ≤ 140737488355328 then some (joined l0 a1) else none
theorem strings_Join.calls (A0 : Option Addr) (c0 : Nat) (l0 : List ByteArray) (a1 : ByteArray) (r : ByteArray) (w : World) (hr0 : Kd.C Kd.string w A0 l0.length l0) (hc0 : l0.length ≤ c0) (h : strings_Join.f l0 a1 = some r) :
    Calls Tryd.prog 50 #[.slice A0 l0.length c0, .string a1] w fun e w' => e = .returned (.string r) ∧ Below w.heap.size w w' := by
  unfold strings_Join.f at h
  split at h
  · rename_i hb
    obtain rfl := Option.some.inj h
    by_cases hz : l0.length = 0
    · obtain rfl : l0 = [] := List.eq_nil_of_length_eq_zero hz
      exact (Tryd.strings_Join_none A0 c0 a1 w).mono fun e w' hh => ⟨hh.1, hh.2 ▸ Below.refl _ _⟩
    · obtain ⟨b, o, rfl, hlt, hc⟩ := reads_cells hr0 (by omega)
      exact Tryd.strings_Join b o c0 l0 a1 w hc hlt hb.1 hc0 hb.2
  · exact absurd h (by simp)

theorem ownsRow_R {w : World} {base e : Nat} {v : Value} {xs : List ByteArray} (h : w.ownsRow base e 1 v xs.length (xs.map Value.string)) : Kd.R Kd.string e w base (fun _ => True) v xs := by
  refine ⟨fun _ _ => trivial, xs.map Value.string, h, ?_⟩
  refine ⟨by simp [Kd.string, Kd.scalar], fun j p hj => ?_⟩
  have hlt : j < xs.length := (List.getElem?_eq_some_iff.1 hj).1
  show List.take 1 (List.drop (j * 1) (xs.map Value.string)) = [Value.string p]
  rw [Nat.mul_one, List.drop_eq_getElem_cons (by simpa using hlt)]
  have : xs[j] = p := (List.getElem?_eq_some_iff.1 hj).2
  simp [this]

/-- The cell of the library's own variable internal/bytealg.MaxLen holds some number. -/
def Shp (w : World) : Prop := ∃ m, w.cell? ⟨0, 0, none⟩ = some (.int .i64 m)
theorem Shp.of_shaped {w : World} (h : w.ShapedOpen Tryd.prog) : Shp w :=
  Go.Proofs.cell_of_shapedOpen_int (zero := #[.int .i64 0]) (t := 3) h (of_decide_eq_true (by kernel_rfl)) (by kernel_rfl) rfl (by kernel_rfl) (by kernel_rfl) Tryd.underlying3
theorem Shp.drewN {w : World} (h : Shp w) (n : Nat) : Shp (w.drewN n) := by
  obtain ⟨m, hm⟩ := h
  exact ⟨m, ((Drawn0.step (Drawn0.refl w) n).below.cell (World.block_lt_of_cell? w _ hm)).trans hm⟩
theorem Shp.drew {w : World} (h : Shp w) : Shp w.drew := Shp.drewN h 1
theorem Shp.below {w w1 : World} (h : Shp w) (hb : Below w.heap.size w w1) : Shp w1 := by
  obtain ⟨m, hm⟩ := h
  exact ⟨m, pw_cell_below hb hm⟩
/-- internal/stringslite.Index (what strings.Index, Contains and Cut call): of texts of fewer than 4294967281 bytes. -/
def stringslite_Index.f (a0 a1 : ByteArray) : Option Int := if a0.size < 4294967281 then some (Lib.index a0.data.toList a1.data.toList) else none
theorem stringslite_Index.calls (a0 : ByteArray) (a1 : ByteArray) (r : Int) (w : World) (hSH : Shp w) (h : stringslite_Index.f a0 a1 = some r) :
    Calls Tryd.prog 111 #[.string a0, .string a1] w fun e w' => e = .returned (.int .i64 r) ∧ Drawn0 w w' := by
  unfold stringslite_Index.f at h
  split at h
  · rename_i hb
    obtain rfl := Option.some.inj h
    obtain ⟨m, hm⟩ := hSH
    exact (Tryd.stringslite_Index a0 a1 m w hb hm).mono fun e w' hh => ⟨hh.1, hh.2 ▸ Drawn0.refl _⟩
  · exact absurd h (by simp)
def strings_HasPrefix.f (a0 a1 : ByteArray) : Option Bool := some (Lib.hasPrefix a0.data.toList a1.data.toList)
theorem strings_HasPrefix.calls (a0 : ByteArray) (a1 : ByteArray) (r : Bool) (w : World) (h : strings_HasPrefix.f a0 a1 = some r) :
    Calls Tryd.prog 56 #[.string a0, .string a1] w fun e w' => e = .returned (.bool r) ∧ Drawn0 w w' := by
  obtain rfl := Option.some.inj h
  exact (Tryd.strings_HasPrefix a0 a1 w).mono fun e w' hh => ⟨hh.1, hh.2 ▸ Drawn0.refl _⟩
def strings_HasSuffix.f (a0 a1 : ByteArray) : Option Bool := if a0.size ≤ 9223372036854775807 then some (Lib.hasSuffix a0.data.toList a1.data.toList) else none
theorem strings_HasSuffix.calls (a0 : ByteArray) (a1 : ByteArray) (r : Bool) (w : World) (h : strings_HasSuffix.f a0 a1 = some r) :
    Calls Tryd.prog 78 #[.string a0, .string a1] w fun e w' => e = .returned (.bool r) ∧ Drawn0 w w' := by
  unfold strings_HasSuffix.f at h
  split at h
  · rename_i hb
    obtain rfl := Option.some.inj h
    exact (Tryd.strings_HasSuffix a0 a1 w hb).mono fun e w' hh => ⟨hh.1, hh.2 ▸ Drawn0.refl _⟩
  · exact absurd h (by simp)
/-- strings.Replace: of a text of fewer than 4294967281 bytes, of one byte or more, to a text of at most 2^47 bytes. -/
def strings_Replace.f (a0 a1 a2 : ByteArray) (a3 : Int) : Option ByteArray :=
  if a0.size < 4294967281 ∧ 1 ≤ a1.size ∧ a0.size + Lib.countB a0 a1 * a2.size ≤ 140737488355328 then some ⟨(Lib.replace a0.data.toList a1.data.toList a2.data.toList a3).toArray⟩ else none
theorem strings_Replace.calls (a0 : ByteArray) (a1 : ByteArray) (a2 : ByteArray) (a3 : Int) (r : ByteArray) (w : World) (hSH : Shp w) (h : strings_Replace.f a0 a1 a2 a3 = some r) :
    Calls Tryd.prog 84 #[.string a0, .string a1, .string a2, .int .i64 a3] w fun e w' => e = .returned (.string r) ∧ Below w.heap.size w w' := by
  unfold strings_Replace.f at h
  split at h
  · rename_i hb
    obtain rfl := Option.some.inj h
    obtain ⟨m, hm⟩ := hSH
    exact Tryd.strings_Replace a0 a1 a2 a3 m w hb.1 hm hb.2.1 hb.2.2
  · exact absurd h (by simp)
/-- strings.Trim at a set of ASCII bytes. -/
def strings_Trim.f (a0 a1 : ByteArray) : Option ByteArray :=
  if a0.size ≤ 9223372036854775807 ∧ a1.size < 4294967281 ∧ a1.data.toList.all (fun b => decide (b.toNat < 128)) = true then some ⟨(Lib.trimS a0.data.toList a1.data.toList).toArray⟩ else none
theorem strings_Trim.calls (a0 : ByteArray) (a1 : ByteArray) (r : ByteArray) (w : World) (h : strings_Trim.f a0 a1 = some r) :
    Calls Tryd.prog 76 #[.string a0, .string a1] w fun e w' => e = .returned (.string r) ∧ Below w.heap.size w w' := by
  unfold strings_Trim.f at h
  split at h
  · rename_i hb
    obtain rfl := Option.some.inj h
    refine Tryd.strings_Trim_laid a0 a1 w hb.1 hb.2.1 (fun j b hj => ?_)
    have := List.all_eq_true.1 hb.2.2 b (List.mem_of_getElem? hj)
    simpa using this
  · exact absurd h (by simp)
/-- strings.Split: of a text of fewer than 4294967281 bytes, at a separator of one byte or more. -/
def strings_Split.f (a0 a1 : ByteArray) : Option (List ByteArray) :=
  if a0.size < 4294967281 ∧ 1 ≤ a1.size ∧ (Lib.splitB a1 0 (Lib.countB a0 a1) a0).length = Lib.countB a0 a1 + 1 ∧ Lib.countB a0 a1 < 4294967281 then some (Lib.splitB a1 0 (Lib.countB a0 a1) a0) else none
theorem strings_Split.calls (a0 : ByteArray) (a1 : ByteArray) (r : List ByteArray) (w : World) (hSH : Shp w) (h : strings_Split.f a0 a1 = some r) :
    Calls Tryd.prog 72 #[.string a0, .string a1] w fun e w' => ∃ v0_ : Value, e = .returned (v0_) ∧ Kd.R Kd.string 9 w' w.heap.size (fun _ => True) v0_ r ∧ Below w.heap.size w w' := by
  unfold strings_Split.f at h
  split at h
  · rename_i hb
    obtain rfl := Option.some.inj h
    obtain ⟨m, hm⟩ := hSH
    refine (Tryd.strings_Split a0 a1 m w hb.1 hm hb.2.1).mono fun e w' hh => ?_
    obtain ⟨he, rfl⟩ := hh
    refine ⟨_, he, ?_, (Below.refl _ w).alloc (Nat.le_refl _) _⟩
    have hl := hb.2.2.1
    have h0 := World.ownsRow_lit (base := w.heap.size) (e := 9) (size := 1) w ((Lib.splitB a1 0 (Lib.countB a0 a1) a0).map Value.string).toArray (Lib.countB a0 a1 + 1) (Nat.le_refl _) (by unfold maxLen; omega) (by simpa using hl)
    rw [← hl] at h0 ⊢
    exact ownsRow_R (by simpa using h0)
  · exact absurd h (by simp)
end Go.Proofs.YtogbdjboblfokaaDoor.X
/- lex.quoted and lex.word as plain functions on lists of bytes, with contracts; condition: a text of fewer than 4294967281 bytes. -/
namespace Go.Proofs.YtogbdjboblfokaaDoor.X
open Go.RowKit Go.Proofs.YtogbdjboblfokaaDoorW.PrintWords Go.Proofs.YtogbdjboblfokaaDoorW.PrintLast Go.Proofs.YtogbdjboblfokaaDoorW.PrintMore

theorem beqN (b : UInt8) (n : Nat) (hn : n < 256) : (((b.toNat : Int)) == (n : Int)) = decide (b = UInt8.ofNat n) := by
  have e := u8_num b n hn
  rw [Bool.eq_iff_iff, beq_iff_eq, decide_eq_true_eq, e]
theorem beqNN (a b : UInt8) : (((a.toNat : Int)) == (b.toNat : Int)) = decide (a = b) := by
  rw [Bool.eq_iff_iff, beq_iff_eq, decide_eq_true_eq, u8_toNat_eq]
theorem getB' (l : List UInt8) (j : Nat) (_ : j < l.length) (h' : j < (B l).size) : (B l)[j]'h' = l[j] := by simp [B, ByteArray.getElem_eq_getElem_data]; try rfl

/-- What stands up to a quote's end, from the place i on, and where that is. -/
def qA (l : List UInt8) (e : UInt8) (i : Nat) (acc : List UInt8) : Option (List UInt8 × Nat) :=
  if h : i < l.length then
    (if l[i] = e then some (acc, i + 1)
     else if h2 : e = 34 ∧ l[i] = 92 ∧ i + 1 < l.length then (if l[i + 1]'h2.2.2 = 34 ∨ l[i + 1]'h2.2.2 = 92 then qA l e (i + 2) (acc ++ [l[i + 1]'h2.2.2]) else qA l e (i + 1) (acc ++ [l[i]]))
     else qA l e (i + 1) (acc ++ [l[i]]))
  else none
  termination_by l.length - i
theorem qA_end (l : List UInt8) (e : UInt8) (i : Nat) (acc : List UInt8) (h : l.length ≤ i) : qA l e i acc = none := by rw [qA, dif_neg (by omega)]
theorem qA_hit (l : List UInt8) (e : UInt8) (i : Nat) (acc : List UInt8) (h : i < l.length) (h1 : l[i] = e) : qA l e i acc = some (acc, i + 1) := by rw [qA, dif_pos h, if_pos h1]
theorem qA_esc (l : List UInt8) (e : UInt8) (i : Nat) (acc : List UInt8) (h : i < l.length) (h1 : ¬ l[i] = e) (h2 : e = 34) (h3 : l[i] = 92) (h4 : i + 1 < l.length) (h5 : l[i + 1] = 34 ∨ l[i + 1] = 92) :
    qA l e i acc = qA l e (i + 2) (acc ++ [l[i + 1]]) := by
  conv => lhs; rw [qA, dif_pos h, if_neg h1, dif_pos ⟨h2, h3, h4⟩, if_pos h5]
theorem qA_one (l : List UInt8) (e : UInt8) (i : Nat) (acc : List UInt8) (h : i < l.length) (h1 : ¬ l[i] = e) (h2 : ¬ (e = 34 ∧ l[i] = 92 ∧ ∃ h4 : i + 1 < l.length, (l[i + 1] = 34 ∨ l[i + 1] = 92))) :
    qA l e i acc = qA l e (i + 1) (acc ++ [l[i]]) := by
  conv => lhs; rw [qA, dif_pos h, if_neg h1]
  split
  · rename_i h3
    rw [if_neg (fun h5 => h2 ⟨h3.1, h3.2.1, h3.2.2, h5⟩)]
  · rfl
def resQ (o : Option (List UInt8 × Nat)) : ByteArray × Int := match o with | some (t, n) => (B t, (n : Int)) | none => (B [], -1)

set_option maxRecDepth 100000 in
set_option maxHeartbeats 4000000 in
theorem quoted_calls (l : List UInt8) (e : UInt8) (hl : l.length < 4294967281) (w : World) :
    Calls Tryd.prog 65 #[.string (B l), .int .u8 (e.toNat : Int)] w fun en w' => en = .returned (.tuple #[.string (resQ (qA l e 0 [])).1, .int .i64 (resQ (qA l e 0 [])).2]) ∧ Below w.heap.size w w' := by
  obtain ⟨R, hR⟩ : ∃ R, qA l e 0 [] = R := ⟨_, rfl⟩
  rw [hR]
  have HR0 := Aside0.mk hR
  clear hR
  go_enter Tryd.func65, Tryd.ntmps65
  go_wp2
  go_loopg [7] (l.length + 1) (fun g v wr => ∃ (i : Nat) (acc : List UInt8), v = .int .i64 (i : Int) ∧ i ≤ l.length ∧ l.length - i < g ∧ Aside0 (acc.length ≤ i) ∧ Aside0 (qA l e i acc = R) ∧ Aside0 (Bld w.heap.size acc wr) ∧ Aside0 (Below w.heap.size w wr))
  case atStart => exact ⟨0, [], rfl, by omega, by omega, ⟨by simp⟩, HR0, ⟨Bld.fresh w⟩, ⟨(Below.refl _ w).alloc (Nat.le_refl _) _⟩⟩
  case round =>
    obtain ⟨i, acc, rfl, hi, hg, HL, HR, HB, HW⟩ := hrel
    have hsz : (B l).size = l.length := B_size l
    by_cases hlt : i < l.length
    · have hiB : i < (B l).size := by rw [hsz]; exact hlt
      obtain ⟨x, hx⟩ : ∃ x, (B l)[i]'hiB = x := ⟨_, rfl⟩
      have Hx := Aside0.mk ((getB' l i hlt hiB).symm.trans hx)
      by_cases he : x = e
      · have q1 : (((x.toNat : Int)) == (e.toNat : Int)) = true := by rw [beqNN, decide_eq_true he]
        have He := Aside0.mk he
        clear he
        go_wp2_with (go_at_call 68; refine (bldString _ _ _ HB.out).mono ?_; rintro e1 w1 ⟨rfl, hb1, hbl1, _⟩)
        go_ret2
        have hR : R = some (acc, i + 1) := by rw [← HR.out, qA_hit l e i acc hlt (Hx.out.trans He.out)]
        subst hR
        exact ⟨by simp [resQ], HW.out.trans hbl1⟩
      · have q1 : (((x.toNat : Int)) == (e.toNat : Int)) = false := by rw [beqNN, decide_eq_false he]
        have He := Aside0.mk he
        clear he
        by_cases e34 : e = 34
        · have q2 : (((e.toNat : Int)) == 34) = true := by rw [show (34 : Int) = ((34 : Nat) : Int) from rfl, beqN e 34 (by decide)]; exact decide_eq_true e34
          have E34 := Aside0.mk e34
          clear e34
          by_cases x92 : x = 92
          · have q3 : (((x.toNat : Int)) == 92) = true := by rw [show (92 : Int) = ((92 : Nat) : Int) from rfl, beqN x 92 (by decide)]; exact decide_eq_true x92
            have X92 := Aside0.mk x92
            clear x92
            by_cases h3 : i + 1 < l.length
            · have H3 := Aside0.mk h3
              have h3B : i + 1 < (B l).size := by rw [hsz]; exact h3
              obtain ⟨y, hy⟩ : ∃ y, (B l)[i + 1]'h3B = y := ⟨_, rfl⟩
              have Hy := Aside0.mk ((getB' l (i + 1) h3 h3B).symm.trans hy)
              have h3i : (i : Int) + 1 < (l.length : Int) := by omega
              by_cases y34 : y = 34
              · have q4 : (((y.toNat : Int)) == 34) = true := by rw [show (34 : Int) = ((34 : Nat) : Int) from rfl, beqN y 34 (by decide)]; exact decide_eq_true y34
                have Y34 := Aside0.mk y34
                clear y34
                go_wp2_with (go_at_call 67; refine (writeByte _ _ _ _ HB.out (by have := HL.out; omega)).mono ?_; rintro e1 w1 ⟨rfl, hb1, hbl1, _⟩)
                go_roundg (gk - 1)
                case measure => omega
                case rel => exact ⟨i + 2, acc ++ [y], by go_num, by omega, by omega, ⟨by have := HL.out; simp; omega⟩, ⟨by rw [← Hy.out]; exact (qA_esc l e i acc hlt (fun h => He.out (Hx.out.symm.trans h)) E34.out (Hx.out.trans X92.out) H3.out (.inl (Hy.out.trans Y34.out))).symm.trans HR.out⟩, ⟨hb1⟩, ⟨HW.out.trans hbl1⟩⟩
              · have q4 : (((y.toNat : Int)) == 34) = false := by rw [show (34 : Int) = ((34 : Nat) : Int) from rfl, beqN y 34 (by decide)]; exact decide_eq_false y34
                have Y34 := Aside0.mk y34
                clear y34
                by_cases y92 : y = 92
                · have q5 : (((y.toNat : Int)) == 92) = true := by rw [show (92 : Int) = ((92 : Nat) : Int) from rfl, beqN y 92 (by decide)]; exact decide_eq_true y92
                  have Y92 := Aside0.mk y92
                  clear y92
                  go_wp2_with (go_at_call 67; refine (writeByte _ _ _ _ HB.out (by have := HL.out; omega)).mono ?_; rintro e1 w1 ⟨rfl, hb1, hbl1, _⟩)
                  go_roundg (gk - 1)
                  case measure => omega
                  case rel => exact ⟨i + 2, acc ++ [y], by go_num, by omega, by omega, ⟨by have := HL.out; simp; omega⟩, ⟨by rw [← Hy.out]; exact (qA_esc l e i acc hlt (fun h => He.out (Hx.out.symm.trans h)) E34.out (Hx.out.trans X92.out) H3.out (.inr (Hy.out.trans Y92.out))).symm.trans HR.out⟩, ⟨hb1⟩, ⟨HW.out.trans hbl1⟩⟩
                · have q5 : (((y.toNat : Int)) == 92) = false := by rw [show (92 : Int) = ((92 : Nat) : Int) from rfl, beqN y 92 (by decide)]; exact decide_eq_false y92
                  have Y92 := Aside0.mk y92
                  clear y92
                  go_wp2_with (go_at_call 67; refine (writeByte _ _ _ _ HB.out (by have := HL.out; omega)).mono ?_; rintro e1 w1 ⟨rfl, hb1, hbl1, _⟩)
                  go_roundg (gk - 1)
                  case measure => omega
                  case rel => exact ⟨i + 1, acc ++ [x], by go_num, by omega, by omega, ⟨by have := HL.out; simp; omega⟩, ⟨by rw [← Hx.out]; exact (qA_one l e i acc hlt (fun h => He.out (Hx.out.symm.trans h)) (by rintro ⟨_, _, h4, h5⟩; exact h5.elim (fun h => Y34.out (Hy.out.symm.trans h)) (fun h => Y92.out (Hy.out.symm.trans h)))).symm.trans HR.out⟩, ⟨hb1⟩, ⟨HW.out.trans hbl1⟩⟩
            · have H3 := Aside0.mk h3
              have h3i : ¬ (i : Int) + 1 < (l.length : Int) := by omega
              clear h3
              go_wp2_with (go_at_call 67; refine (writeByte _ _ _ _ HB.out (by have := HL.out; omega)).mono ?_; rintro e1 w1 ⟨rfl, hb1, hbl1, _⟩)
              go_roundg (gk - 1)
              case measure => omega
              case rel => exact ⟨i + 1, acc ++ [x], by go_num, by omega, by omega, ⟨by have := HL.out; simp; omega⟩, ⟨by rw [← Hx.out]; exact (qA_one l e i acc hlt (fun h => He.out (Hx.out.symm.trans h)) (by rintro ⟨_, _, h4, _⟩; exact H3.out h4)).symm.trans HR.out⟩, ⟨hb1⟩, ⟨HW.out.trans hbl1⟩⟩
          · have q3 : (((x.toNat : Int)) == 92) = false := by rw [show (92 : Int) = ((92 : Nat) : Int) from rfl, beqN x 92 (by decide)]; exact decide_eq_false x92
            have X92 := Aside0.mk x92
            clear x92
            go_wp2_with (go_at_call 67; refine (writeByte _ _ _ _ HB.out (by have := HL.out; omega)).mono ?_; rintro e1 w1 ⟨rfl, hb1, hbl1, _⟩)
            go_roundg (gk - 1)
            case measure => omega
            case rel => exact ⟨i + 1, acc ++ [x], by go_num, by omega, by omega, ⟨by have := HL.out; simp; omega⟩, ⟨by rw [← Hx.out]; exact (qA_one l e i acc hlt (fun h => He.out (Hx.out.symm.trans h)) (by rintro ⟨_, h4, _⟩; exact X92.out (Hx.out.symm.trans h4))).symm.trans HR.out⟩, ⟨hb1⟩, ⟨HW.out.trans hbl1⟩⟩
        · have q2 : (((e.toNat : Int)) == 34) = false := by rw [show (34 : Int) = ((34 : Nat) : Int) from rfl, beqN e 34 (by decide)]; exact decide_eq_false e34
          have E34 := Aside0.mk e34
          clear e34
          go_wp2_with (go_at_call 67; refine (writeByte _ _ _ _ HB.out (by have := HL.out; omega)).mono ?_; rintro e1 w1 ⟨rfl, hb1, hbl1, _⟩)
          go_roundg (gk - 1)
          case measure => omega
          case rel => exact ⟨i + 1, acc ++ [x], by go_num, by omega, by omega, ⟨by have := HL.out; simp; omega⟩, ⟨by rw [← Hx.out]; exact (qA_one l e i acc hlt (fun h => He.out (Hx.out.symm.trans h)) (by rintro ⟨h4, _⟩; exact E34.out h4)).symm.trans HR.out⟩, ⟨hb1⟩, ⟨HW.out.trans hbl1⟩⟩
    · go_wp2
      go_ret2
      have hR : R = none := by rw [← HR.out, qA_end l e i acc (by omega)]
      subst hR
      exact ⟨rfl, HW.out⟩

def lex_quoted.f (a0 : ByteArray) (a1 : Int) : Option (ByteArray × Int) := if a0.size < 4294967281 ∧ 0 ≤ a1 ∧ a1 < 256 then some (resQ (qA a0.data.toList a1.toNat.toUInt8 0 [])) else none
theorem lex_quoted.calls (a0 : ByteArray) (a1 : Int) (r1 : ByteArray) (r2 : Int) (w : World) (h : lex_quoted.f a0 a1 = some (r1, r2)) :
    Calls Tryd.prog 65 #[.string a0, .int .u8 a1] w fun e w' => e = .returned (.tuple #[.string r1, .int .i64 r2]) ∧ Below w.heap.size w w' := by
  unfold lex_quoted.f at h
  split at h
  · rename_i hb
    obtain ⟨l, rfl, hl⟩ := ex_B a0
    obtain ⟨c, hc⟩ : ∃ c : UInt8, a1 = (c.toNat : Int) := ⟨a1.toNat.toUInt8, by rw [show (a1.toNat.toUInt8).toNat = a1.toNat % 256 from rfl]; omega⟩
    subst hc
    have h2 := Option.some.inj h
    rw [B_data, u8_back] at h2
    have := quoted_calls l c (by have := hb.1; rw [B_size] at this; exact this) w
    rw [h2] at this
    exact this
  · exact absurd h (by simp)
end Go.Proofs.YtogbdjboblfokaaDoor.X
/- Laid for this claim by the session's own program xprint.py, over the print of the kit: functions of the program as plain Lean functions, each with a proof that a call comes to what its function says, or the row of a law out of these; no condition of its own. -/
namespace Go.Proofs.YtogbdjboblfokaaDoor.XE05
open Go.Proofs.YtogbdjboblfokaaDoor.X Go.RowKit Go.Proofs.YtogbdjboblfokaaDoorW.PrintWords Go.Proofs.YtogbdjboblfokaaDoorW.PrintLast Go.Proofs.YtogbdjboblfokaaDoorW.PrintMore
attribute [local go_sem] max2_int min2_int max_two min_two max_three min_three max_four min_four   -- for this text's walks alone
set_option linter.unusedVariables false
set_option linter.unusedSimpArgs false



def errW : Option Int → Value
  | none => .nilIface
  | some c => .iface 0 (.int .i64 c)
theorem errW_none : errW none = .nilIface := rfl
theorem errW_some (c : Int) : errW (some c) = .iface 0 (.int .i64 c) := rfl

-- the values' own types

end Go.Proofs.YtogbdjboblfokaaDoor.XE05
/- Laid for this claim by the session's own program xprint.py, over the print of the kit: functions of the program as plain Lean functions, each with a proof that a call comes to what its function says, or the row of a law out of these; no condition of its own. -/
namespace Go.Proofs.YtogbdjboblfokaaDoor.XE05
open Go.Proofs.YtogbdjboblfokaaDoor.X Go.RowKit Go.Proofs.YtogbdjboblfokaaDoorW.PrintWords Go.Proofs.YtogbdjboblfokaaDoorW.PrintLast Go.Proofs.YtogbdjboblfokaaDoorW.PrintMore
attribute [local go_sem] max2_int min2_int max_two min_two max_three min_three max_four min_four   -- for this text's walks alone
set_option linter.unusedVariables false
set_option linter.unusedSimpArgs false

/-! ### lex_stops: function 64 -/
def lex_stops.f (a0 : Int) : Option (Bool) := (strings_IndexByte.f (⟨#[32, 9, 10, 59, 38, 124, 60, 62]⟩ : ByteArray) a0).bind fun t101 => (some (decide (t101 ≥ 0)))
set_option maxHeartbeats 8000000 in
set_option maxRecDepth 100000 in
theorem lex_stops.calls (a0 : Int) (r : Bool) (w : World) (h : lex_stops.f a0 = some r) :
    Calls Tryd.prog 64 #[.int .u8 a0] w fun e w' => e = .returned (.bool r) ∧ Drawn0 w w' := by
  have H : ((strings_IndexByte.f (⟨#[32, 9, 10, 59, 38, 124, 60, 62]⟩ : ByteArray) a0).bind fun t101 => (some (decide (t101 ≥ 0)))) = some r := h
  clear h
  replace H := Option.bind_eq_some_iff.mp H
  obtain ⟨t101, A20, H⟩ := H
  replace H : (some (decide (t101 ≥ 0))) = some r := H
  have A2 := Aside0.mk A20
  clear A20
  obtain rfl := Option.some.inj H
  go_enter Tryd.func64, Tryd.ntmps64
  go_wp2_with (first | ((with_reducible refine gate_callee (f := 40) rfl ?_); refine goesL_ (some 4) rfl rfl Tryd.func40 (by kernel_rfl) rfl #[.string (⟨#[32, 9, 10, 59, 38, 124, 60, 62]⟩ : ByteArray), .int .u8 a0] rfl (by (try simp only [List.map_toArray, List.map_cons, List.map_nil]); first | done | rfl | (simp only [List.length_drop, List.length_take]; rfl)) ?_; (with_reducible refine (strings_IndexByte.calls (⟨#[32, 9, 10, 59, 38, 124, 60, 62]⟩ : ByteArray) a0 t101 _ A2.out).mono ?_); rintro e w' ⟨rfl, ⟨nd, rfl⟩⟩; refine ⟨_, rfl, ?_⟩))
  go_ret
  exact ⟨by first | rfl | (simp; done) | (simp [*]; done), by repeat (first | exact Drawn0.refl _ | apply Drawn0.step)⟩

end Go.Proofs.YtogbdjboblfokaaDoor.XE05
/- Laid for this claim by the session's own program xprint.py, over the print of the kit: functions of the program as plain Lean functions, each with a proof that a call comes to what its function says, or the row of a law out of these; no condition of its own. -/
namespace Go.Proofs.YtogbdjboblfokaaDoor.XE05
open Go.Proofs.YtogbdjboblfokaaDoor.X Go.RowKit Go.Proofs.YtogbdjboblfokaaDoorW.PrintWords Go.Proofs.YtogbdjboblfokaaDoorW.PrintLast Go.Proofs.YtogbdjboblfokaaDoorW.PrintMore
attribute [local go_sem] max2_int min2_int max_two min_two max_three min_three max_four min_four   -- for this text's walks alone
set_option linter.unusedVariables false
set_option linter.unusedSimpArgs false

end Go.Proofs.YtogbdjboblfokaaDoor.XE05
/- lex.word as a plain function on lists of bytes, with a contract. -/
namespace Go.Proofs.YtogbdjboblfokaaDoor.X
open Go.RowKit Go.Proofs.YtogbdjboblfokaaDoorW.PrintWords Go.Proofs.YtogbdjboblfokaaDoorW.PrintLast Go.Proofs.YtogbdjboblfokaaDoorW.PrintMore

theorem idx_mem (l : List UInt8) (c : UInt8) : decide (Lib.indexByte l c ≥ 0) = l.contains c := by
  rw [Bool.eq_iff_iff, decide_eq_true_eq, List.contains_iff_mem]
  constructor
  · intro h
    obtain ⟨o, ho⟩ : ∃ o : Nat, Lib.indexByte l c = o := ⟨(Lib.indexByte l c).toNat, by omega⟩
    exact List.mem_of_getElem? (Lib.indexByte_some ho).1
  · intro h
    have hg := Lib.indexByte_ge l c
    rcases Int.lt_or_le (Lib.indexByte l c) 0 with h0 | h0
    · exfalso
      have e : Lib.indexByte l c = -1 := by omega
      obtain ⟨k, hk, hk2⟩ := List.getElem_of_mem h
      exact Lib.indexByte_none e k (by rw [List.getElem?_eq_getElem hk, hk2])
    · exact h0
def stopB (x : UInt8) : Bool := ([32, 9, 10, 59, 38, 124, 60, 62] : List UInt8).contains x
theorem stops_eq (x : UInt8) : XE05.lex_stops.f (x.toNat : Int) = some (stopB x) := by
  unfold XE05.lex_stops.f strings_IndexByte.f
  rw [Option.bind_some, idx_mem, u8_back]
  rfl
/-- What stands up to a word's end, from the place i on, and where that is. -/
def wA (l : List UInt8) (i : Nat) (acc : List UInt8) : Option (List UInt8 × Nat) :=
  if h : i < l.length then
    (if stopB l[i] = true then some (acc, i)
     else if l[i] = 39 ∨ l[i] = 34 then (match qA (l.drop (i + 1)) l[i] 0 [] with
       | none => none
       | some (t, n) => wA l (i + 1 + n) (acc ++ t))
     else if l[i] = 92 then (if h2 : i + 1 < l.length then wA l (i + 2) (acc ++ [l[i + 1]]) else none)
     else wA l (i + 1) (acc ++ [l[i]]))
  else some (acc, i)
  termination_by l.length - i
theorem wA_end (l : List UInt8) (i : Nat) (acc : List UInt8) (h : l.length ≤ i) : wA l i acc = some (acc, i) := by rw [wA, dif_neg (by omega)]
theorem wA_stop (l : List UInt8) (i : Nat) (acc : List UInt8) (h : i < l.length) (h1 : stopB l[i] = true) : wA l i acc = some (acc, i) := by rw [wA, dif_pos h, if_pos h1]
theorem wA_q (l : List UInt8) (i : Nat) (acc : List UInt8) (h : i < l.length) (h1 : ¬ stopB l[i] = true) (h2 : l[i] = 39 ∨ l[i] = 34) (t : List UInt8) (n : Nat) (h3 : qA (l.drop (i + 1)) l[i] 0 [] = some (t, n)) :
    wA l i acc = wA l (i + 1 + n) (acc ++ t) := by
  conv => lhs; rw [wA, dif_pos h, if_neg h1, if_pos h2]
  rw [h3]
theorem wA_q0 (l : List UInt8) (i : Nat) (acc : List UInt8) (h : i < l.length) (h1 : ¬ stopB l[i] = true) (h2 : l[i] = 39 ∨ l[i] = 34) (h3 : qA (l.drop (i + 1)) l[i] 0 [] = none) :
    wA l i acc = none := by
  conv => lhs; rw [wA, dif_pos h, if_neg h1, if_pos h2]
  rw [h3]
theorem wA_b (l : List UInt8) (i : Nat) (acc : List UInt8) (h : i < l.length) (h1 : ¬ stopB l[i] = true) (h2 : l[i] = 92) (h3 : i + 1 < l.length) :
    wA l i acc = wA l (i + 2) (acc ++ [l[i + 1]]) := by
  conv => lhs; rw [wA, dif_pos h, if_neg h1, if_neg (by rw [h2]; decide), if_pos h2, dif_pos h3]
theorem wA_b0 (l : List UInt8) (i : Nat) (acc : List UInt8) (h : i < l.length) (h1 : ¬ stopB l[i] = true) (h2 : l[i] = 92) (h3 : ¬ i + 1 < l.length) :
    wA l i acc = none := by
  rw [wA, dif_pos h, if_neg h1, if_neg (by rw [h2]; decide), if_pos h2, dif_neg h3]
theorem wA_one (l : List UInt8) (i : Nat) (acc : List UInt8) (h : i < l.length) (h1 : ¬ stopB l[i] = true) (h2 : ¬ l[i] = 39) (h3 : ¬ l[i] = 34) (h4 : ¬ l[i] = 92) :
    wA l i acc = wA l (i + 1) (acc ++ [l[i]]) := by
  conv => lhs; rw [wA, dif_pos h, if_neg h1, if_neg (not_or.mpr ⟨h2, h3⟩), if_neg h4]
theorem qA_len (l : List UInt8) (e : UInt8) : ∀ d i acc t n, l.length - i ≤ d → qA l e i acc = some (t, n) → i < n ∧ n ≤ l.length ∧ t.length ≤ acc.length + (n - i) := by
  intro d
  induction d with
  | zero => intro i acc t n hd h; rw [qA_end l e i acc (by omega)] at h; exact absurd h (by simp)
  | succ d ih =>
    intro i acc t n hd h
    rw [qA] at h
    split at h
    · split at h
      · injection h with h; injection h with h1 h2; subst h1 h2; exact ⟨by omega, by omega, by omega⟩
      · split at h
        · rename_i h3
          have := h3.2.2
          split at h
          · have := ih _ _ _ _ (by omega) h; simp only [List.length_append, List.length_cons, List.length_nil] at this; omega
          · have := ih _ _ _ _ (by omega) h; simp only [List.length_append, List.length_cons, List.length_nil] at this; omega
        · have := ih _ _ _ _ (by omega) h; simp only [List.length_append, List.length_cons, List.length_nil] at this; omega
    · exact absurd h (by simp)
theorem Bld.keep {b : Nat} {l : List UInt8} {w w' : World} (h : Bld b l w) (hd : Below w.heap.size w w') : Bld b l w' := by
  have hlt := Bld.lt h
  rcases h with ⟨hB, v, hv, hown, hne⟩ | ⟨hB, v, hv, hown, hne⟩
  · exact .inl ⟨hB, v, (hd.block b hlt).trans hv, hown.kept (row := none) ⟨hd.os, hd.tape, hd.output, hd.size, fun k hk _ => hd.block k hk⟩ (Classical.em _), hne⟩
  · exact .inr ⟨hB, v, (hd.block b hlt).trans hv, hown.kept (row := none) ⟨hd.os, hd.tape, hd.output, hd.size, fun k hk _ => hd.block k hk⟩ (Classical.em _), hne⟩
theorem Bld.drewN {b : Nat} {l : List UInt8} {w : World} (n : Nat) (h : Bld b l w) : Bld b l (w.drewN n) := h

set_option maxRecDepth 100000 in
set_option maxHeartbeats 4000000 in
theorem word_calls (l : List UInt8) (hl : l.length < 4294967281) (w : World) :
    Calls Tryd.prog 42 #[.string (B l)] w fun en w' => en = .returned (.tuple #[.string (resQ (wA l 0 [])).1, .int .i64 (resQ (wA l 0 [])).2]) ∧ Below w.heap.size w w' := by
  obtain ⟨R, hR⟩ : ∃ R, wA l 0 [] = R := ⟨_, rfl⟩
  rw [hR]
  have HR0 := Aside0.mk hR
  clear hR
  go_enter Tryd.func42, Tryd.ntmps42
  go_wp2
  go_loopg [5] (l.length + 1) (fun g v wr => ∃ (i : Nat) (acc : List UInt8), v = .int .i64 (i : Int) ∧ i ≤ l.length ∧ l.length - i < g ∧ Aside0 (acc.length ≤ i) ∧ Aside0 (wA l i acc = R) ∧ Aside0 (Bld w.heap.size acc wr) ∧ Aside0 (Below w.heap.size w wr))
  case atStart => exact ⟨0, [], rfl, by omega, by omega, ⟨by simp⟩, HR0, ⟨Bld.fresh w⟩, ⟨(Below.refl _ w).alloc (Nat.le_refl _) _⟩⟩
  case round =>
    obtain ⟨i, acc, rfl, hi, hg, HL, HR, HB, HW⟩ := hrel
    have hsz : (B l).size = l.length := B_size l
    by_cases hlt : i < l.length
    · have hiB : i < (B l).size := by rw [hsz]; exact hlt
      obtain ⟨x, hx⟩ : ∃ x, (B l)[i]'hiB = x := ⟨_, rfl⟩
      have Hx := Aside0.mk ((getB' l i hlt hiB).symm.trans hx)
      by_cases hst : stopB x = true
      · have Hs := Aside0.mk hst
        have qs := (stops_eq x).trans (congrArg some hst)
        go_wp2_with (first | (go_at_call 64; refine (XE05.lex_stops.calls _ _ _ qs).mono ?_; rintro e1 w1 ⟨rfl, ⟨nd, rfl⟩⟩; replace HB := Aside0.mk (Bld.drewN nd HB.out); replace HW := Aside0.mk (pw_below_drewN (n := nd) HW.out)) | (go_at_call 68; refine (bldString _ _ _ HB.out).mono ?_; rintro e2 w2 ⟨rfl, hb2, hbl2, _⟩))
        go_ret2
        have hR : R = some (acc, i) := by rw [← HR.out, wA_stop l i acc hlt (Hx.out.symm ▸ Hs.out)]
        subst hR
        exact ⟨by simp [resQ], HW.out.trans hbl2⟩
      · have qs := (stops_eq x).trans (congrArg some (show stopB x = false by simpa using hst))
        have Hs := Aside0.mk hst
        have hi1 : IntKind.i64.wrap ((i : Int) + 1) = (i : Int) + 1 := by exact Go.IntWalk.i64_in _ (by omega)
        have hsl : (B l).extract (i + 1) l.length = B (l.drop (i + 1)) := by rw [B_extract]; simp
        by_cases h39 : x = 39
        · have q39 : (((x.toNat : Int)) == 39) = true := by rw [show (39 : Int) = ((39 : Nat) : Int) from rfl, beqN x 39 (by decide)]; exact decide_eq_true h39
          have q34 : (((x.toNat : Int)) == 34) = false := by rw [show (34 : Int) = ((34 : Nat) : Int) from rfl, beqN x 34 (by decide), h39]; rfl
          have H39 := Aside0.mk h39
          clear h39
          have hor : l[i] = 39 ∨ l[i] = 34 := .inl (Hx.out.trans H39.out)
          have Hor := Aside0.mk hor
          clear hor
          have hdl : (l.drop (i + 1)).length < 4294967281 := by simp only [List.length_drop]; omega
          have hqc := quoted_calls (l.drop (i + 1)) x hdl
          obtain ⟨o, ho⟩ : ∃ o, qA (l.drop (i + 1)) x 0 [] = o := ⟨_, rfl⟩
          rw [ho] at hqc
          rcases o with _ | ⟨t, n⟩
          · have Ho := Aside0.mk ho
            clear ho
            go_wp2_with (first | (go_at_call 64; refine (XE05.lex_stops.calls _ _ _ qs).mono ?_; rintro e1 w1 ⟨rfl, ⟨nd, rfl⟩⟩; have HB0 := HB; have HW0 := HW; replace HB := Aside0.mk (Bld.drewN nd HB.out); replace HW := Aside0.mk (pw_below_drewN (n := nd) HW.out)) | (go_at_call 68; refine (bldString _ _ _ HB.out).mono ?_; rintro e2 w2 ⟨rfl, hb2, hbl2, _⟩))
            go_region_with (go_at_call 65; refine (hqc _).mono ?_; rintro e2 w2 ⟨rfl, hb2⟩; replace HW := Aside0.mk (below_step (pw_below_drewN HW0.out (nd + 1)) hb2))
            all_goals (go_wp2; go_ret2; (have hR : R = none := by rw [← HR.out, wA_q0 l i acc hlt (fun h => Hs.out (Hx.out ▸ h)) Hor.out (Hx.out.symm ▸ Ho.out)]); subst hR; exact ⟨rfl, HW.out⟩)
          · have HT := Aside0.mk (qA_len _ _ _ _ _ _ _ (Nat.le_refl _) ho)
            have Ho := Aside0.mk ho
            clear ho
            replace hqc : ∀ w, Calls Tryd.prog 65 #[.string (B (l.drop (i + 1))), .int .u8 (x.toNat : Int)] w fun en w' => en = .returned (.tuple #[.string (B t), .int .i64 (n : Int)]) ∧ Below w.heap.size w w' := hqc
            have hn : n ≤ l.length := by have := HT.out.2.1; simp only [List.length_drop] at this; omega
            have hn2 : i + 1 + n ≤ l.length := by have := HT.out.2.1; have := HT.out.1; simp only [List.length_drop] at *; omega
            have hn0 : decide ((n : Int) < 0) = false := decide_eq_false (by omega)
            go_wp2_with (first | (go_at_call 64; refine (XE05.lex_stops.calls _ _ _ qs).mono ?_; rintro e1 w1 ⟨rfl, ⟨nd, rfl⟩⟩; have HB0 := HB; have HW0 := HW; replace HB := Aside0.mk (Bld.drewN nd HB.out); replace HW := Aside0.mk (pw_below_drewN (n := nd) HW.out)) | (go_at_call 68; refine (bldString _ _ _ HB.out).mono ?_; rintro e2 w2 ⟨rfl, hb2, hbl2, _⟩))
            go_region_with (go_at_call 65; refine (hqc _).mono ?_; rintro e2 w2 ⟨rfl, hb2⟩; replace HB := Aside0.mk (Bld.keep (Bld.drewN (nd + 1) HB0.out) hb2); replace HW := Aside0.mk (below_step (pw_below_drewN HW0.out (nd + 1)) hb2))
            all_goals (go_wp2_with (go_at_call 66; refine (writeString _ _ t _ HB.out (by have h1 := HL.out; have h2 := HT.out.2.2; simp only [List.length_nil] at h2; omega)).mono ?_; rintro e3 w3 ⟨rfl, hb3, hbl3, _⟩); go_roundg (gk - 1); (case measure => omega); (case rel => exact ⟨i + 1 + n, acc ++ t, by go_num, by omega, by omega, ⟨by have h1 := HL.out; have h2 := HT.out.2.2; rw [List.length_append]; simp only [List.length_nil] at h2; omega⟩, ⟨(wA_q l i acc hlt (fun h => Hs.out (Hx.out ▸ h)) Hor.out t n (Hx.out.symm ▸ Ho.out)).symm.trans HR.out⟩, ⟨hb3⟩, ⟨HW.out.trans hbl3⟩⟩))
        · have q39 : (((x.toNat : Int)) == 39) = false := by rw [show (39 : Int) = ((39 : Nat) : Int) from rfl, beqN x 39 (by decide)]; exact decide_eq_false h39
          have H39 := Aside0.mk h39
          clear h39
          by_cases h34 : x = 34
          · have q34 : (((x.toNat : Int)) == 34) = true := by rw [show (34 : Int) = ((34 : Nat) : Int) from rfl, beqN x 34 (by decide)]; exact decide_eq_true h34
            have H34 := Aside0.mk h34
            clear h34
            have hor : l[i] = 39 ∨ l[i] = 34 := .inr (Hx.out.trans H34.out)
            have Hor := Aside0.mk hor
            clear hor
            have hdl : (l.drop (i + 1)).length < 4294967281 := by simp only [List.length_drop]; omega
            have hqc := quoted_calls (l.drop (i + 1)) x hdl
            obtain ⟨o, ho⟩ : ∃ o, qA (l.drop (i + 1)) x 0 [] = o := ⟨_, rfl⟩
            rw [ho] at hqc
            rcases o with _ | ⟨t, n⟩
            · have Ho := Aside0.mk ho
              clear ho
              go_wp2_with (first | (go_at_call 64; refine (XE05.lex_stops.calls _ _ _ qs).mono ?_; rintro e1 w1 ⟨rfl, ⟨nd, rfl⟩⟩; have HB0 := HB; have HW0 := HW; replace HB := Aside0.mk (Bld.drewN nd HB.out); replace HW := Aside0.mk (pw_below_drewN (n := nd) HW.out)) | (go_at_call 68; refine (bldString _ _ _ HB.out).mono ?_; rintro e2 w2 ⟨rfl, hb2, hbl2, _⟩))
              go_region_with (go_at_call 65; refine (hqc _).mono ?_; rintro e2 w2 ⟨rfl, hb2⟩; replace HW := Aside0.mk (below_step (pw_below_drewN HW0.out (nd + 1)) hb2))
              all_goals (go_wp2; go_ret2; (have hR : R = none := by rw [← HR.out, wA_q0 l i acc hlt (fun h => Hs.out (Hx.out ▸ h)) Hor.out (Hx.out.symm ▸ Ho.out)]); subst hR; exact ⟨rfl, HW.out⟩)
            · have HT := Aside0.mk (qA_len _ _ _ _ _ _ _ (Nat.le_refl _) ho)
              have Ho := Aside0.mk ho
              clear ho
              replace hqc : ∀ w, Calls Tryd.prog 65 #[.string (B (l.drop (i + 1))), .int .u8 (x.toNat : Int)] w fun en w' => en = .returned (.tuple #[.string (B t), .int .i64 (n : Int)]) ∧ Below w.heap.size w w' := hqc
              have hn : n ≤ l.length := by have := HT.out.2.1; simp only [List.length_drop] at this; omega
              have hn2 : i + 1 + n ≤ l.length := by have := HT.out.2.1; have := HT.out.1; simp only [List.length_drop] at *; omega
              have hn0 : decide ((n : Int) < 0) = false := decide_eq_false (by omega)
              go_wp2_with (first | (go_at_call 64; refine (XE05.lex_stops.calls _ _ _ qs).mono ?_; rintro e1 w1 ⟨rfl, ⟨nd, rfl⟩⟩; have HB0 := HB; have HW0 := HW; replace HB := Aside0.mk (Bld.drewN nd HB.out); replace HW := Aside0.mk (pw_below_drewN (n := nd) HW.out)) | (go_at_call 68; refine (bldString _ _ _ HB.out).mono ?_; rintro e2 w2 ⟨rfl, hb2, hbl2, _⟩))
              go_region_with (go_at_call 65; refine (hqc _).mono ?_; rintro e2 w2 ⟨rfl, hb2⟩; replace HB := Aside0.mk (Bld.keep (Bld.drewN (nd + 1) HB0.out) hb2); replace HW := Aside0.mk (below_step (pw_below_drewN HW0.out (nd + 1)) hb2))
              all_goals (go_wp2_with (go_at_call 66; refine (writeString _ _ t _ HB.out (by have h1 := HL.out; have h2 := HT.out.2.2; simp only [List.length_nil] at h2; omega)).mono ?_; rintro e3 w3 ⟨rfl, hb3, hbl3, _⟩); go_roundg (gk - 1); (case measure => omega); (case rel => exact ⟨i + 1 + n, acc ++ t, by go_num, by omega, by omega, ⟨by have h1 := HL.out; have h2 := HT.out.2.2; rw [List.length_append]; simp only [List.length_nil] at h2; omega⟩, ⟨(wA_q l i acc hlt (fun h => Hs.out (Hx.out ▸ h)) Hor.out t n (Hx.out.symm ▸ Ho.out)).symm.trans HR.out⟩, ⟨hb3⟩, ⟨HW.out.trans hbl3⟩⟩))
          · have q34 : (((x.toNat : Int)) == 34) = false := by rw [show (34 : Int) = ((34 : Nat) : Int) from rfl, beqN x 34 (by decide)]; exact decide_eq_false h34
            have H34 := Aside0.mk h34
            clear h34
            by_cases h92 : x = 92
            · have q92 : (((x.toNat : Int)) == 92) = true := by rw [show (92 : Int) = ((92 : Nat) : Int) from rfl, beqN x 92 (by decide)]; exact decide_eq_true h92
              have H92 := Aside0.mk h92
              clear h92
              by_cases h3 : i + 1 < l.length
              · have H3 := Aside0.mk h3
                have h3B : i + 1 < (B l).size := by rw [hsz]; exact h3
                have h3e : ((i : Int) + 1 == (l.length : Int)) = false := by simp; omega
                have h3i : (i : Int) + 1 < (l.length : Int) := by omega
                obtain ⟨y, hy⟩ : ∃ y, (B l)[i + 1]'h3B = y := ⟨_, rfl⟩
                have Hy := Aside0.mk ((getB' l (i + 1) h3 h3B).symm.trans hy)
                go_wp2_with (first | (go_at_call 64; refine (XE05.lex_stops.calls _ _ _ qs).mono ?_; rintro e1 w1 ⟨rfl, ⟨nd, rfl⟩⟩; have HB0 := HB; have HW0 := HW; replace HB := Aside0.mk (Bld.drewN nd HB.out); replace HW := Aside0.mk (pw_below_drewN (n := nd) HW.out)) | (go_at_call 67; refine (writeByte _ _ _ _ HB.out (by have := HL.out; omega)).mono ?_; rintro e3 w3 ⟨rfl, hb3, hbl3, _⟩))
                go_roundg (gk - 1)
                case measure => omega
                case rel => exact ⟨i + 2, acc ++ [y], by go_num, by omega, by omega, ⟨by have := HL.out; simp; omega⟩, ⟨by rw [← Hy.out]; exact (wA_b l i acc hlt (fun h => Hs.out (Hx.out ▸ h)) (Hx.out.trans H92.out) H3.out).symm.trans HR.out⟩, ⟨hb3⟩, ⟨HW.out.trans hbl3⟩⟩
              · have H3 := Aside0.mk h3
                have h3e : ((i : Int) + 1 == (l.length : Int)) = true := by simp; omega
                go_wp2_with (first | (go_at_call 64; refine (XE05.lex_stops.calls _ _ _ qs).mono ?_; rintro e1 w1 ⟨rfl, ⟨nd, rfl⟩⟩; have HB0 := HB; have HW0 := HW; replace HB := Aside0.mk (Bld.drewN nd HB.out); replace HW := Aside0.mk (pw_below_drewN (n := nd) HW.out)))
                go_ret2
                have hR : R = none := by rw [← HR.out, wA_b0 l i acc hlt (fun h => Hs.out (Hx.out ▸ h)) (Hx.out.trans H92.out) H3.out]
                subst hR
                exact ⟨rfl, HW.out⟩
            · have q92 : (((x.toNat : Int)) == 92) = false := by rw [show (92 : Int) = ((92 : Nat) : Int) from rfl, beqN x 92 (by decide)]; exact decide_eq_false h92
              have H92 := Aside0.mk h92
              clear h92
              go_wp2_with (first | (go_at_call 64; refine (XE05.lex_stops.calls _ _ _ qs).mono ?_; rintro e1 w1 ⟨rfl, ⟨nd, rfl⟩⟩; have HB0 := HB; have HW0 := HW; replace HB := Aside0.mk (Bld.drewN nd HB.out); replace HW := Aside0.mk (pw_below_drewN (n := nd) HW.out)) | (go_at_call 67; refine (writeByte _ _ _ _ HB.out (by have := HL.out; omega)).mono ?_; rintro e3 w3 ⟨rfl, hb3, hbl3, _⟩))
              go_roundg (gk - 1)
              case measure => omega
              case rel => exact ⟨i + 1, acc ++ [x], by go_num, by omega, by omega, ⟨by have := HL.out; simp; omega⟩, ⟨by rw [← Hx.out]; exact (wA_one l i acc hlt (fun h => Hs.out (Hx.out ▸ h)) (fun h => H39.out (Hx.out.symm.trans h)) (fun h => H34.out (Hx.out.symm.trans h)) (fun h => H92.out (Hx.out.symm.trans h))).symm.trans HR.out⟩, ⟨hb3⟩, ⟨HW.out.trans hbl3⟩⟩
    · go_wp2_with (first | (go_at_call 68; refine (bldString _ _ _ HB.out).mono ?_; rintro e2 w2 ⟨rfl, hb2, hbl2, _⟩))
      go_ret2
      have hR : R = some (acc, i) := by rw [← HR.out, wA_end l i acc (by omega)]
      subst hR
      exact ⟨by simp [resQ], HW.out.trans hbl2⟩

def lex_word.f (a0 : ByteArray) : Option (ByteArray × Int) := if a0.size < 4294967281 then some (resQ (wA a0.data.toList 0 [])) else none
theorem lex_word.calls (a0 : ByteArray) (r1 : ByteArray) (r2 : Int) (w : World) (h : lex_word.f a0 = some (r1, r2)) :
    Calls Tryd.prog 42 #[.string a0] w fun e w' => e = .returned (.tuple #[.string r1, .int .i64 r2]) ∧ Below w.heap.size w w' := by
  unfold lex_word.f at h
  split at h
  · rename_i hb
    obtain ⟨l, rfl, hl⟩ := ex_B a0
    have h2 := Option.some.inj h
    rw [B_data] at h2
    have := word_calls l (by rw [B_size] at hb; exact hb) w
    rw [h2] at this
    exact this
  · exact absurd h (by simp)
end Go.Proofs.YtogbdjboblfokaaDoor.X
/- Words and quotes as functions on the list that is left; plain Lean. -/
namespace Go.Proofs.YtogbdjboblfokaaDoor.X
open Go.RowKit Go.Proofs.YtogbdjboblfokaaDoorW.PrintWords Go.Proofs.YtogbdjboblfokaaDoorW.PrintLast Go.Proofs.YtogbdjboblfokaaDoorW.PrintMore
set_option linter.unusedSimpArgs false
set_option linter.unusedVariables false

/-- What stands up to a quote's end, and what is behind it. -/
def qS (e : UInt8) (acc : List UInt8) (l : List UInt8) : Option (List UInt8 × List UInt8) :=
  match l with
  | [] => none
  | b :: r => if b = e then some (acc, r) else
    match r with
    | [] => none
    | c :: r' => if e = 34 ∧ b = 92 ∧ (c = 34 ∨ c = 92) then qS e (acc ++ [c]) r' else qS e (acc ++ [b]) (c :: r')
  termination_by l.length
theorem qS_nil (e : UInt8) (acc : List UInt8) : qS e acc [] = none := by rw [qS.eq_def]
theorem qS_single (e b : UInt8) (acc : List UInt8) : qS e acc [b] = if b = e then some (acc, []) else none := by rw [qS.eq_def]
theorem qS_two (e b c : UInt8) (acc r : List UInt8) : qS e acc (b :: c :: r) = if b = e then some (acc, c :: r) else if e = 34 ∧ b = 92 ∧ (c = 34 ∨ c = 92) then qS e (acc ++ [c]) r else qS e (acc ++ [b]) (c :: r) := by
  conv => lhs; rw [qS.eq_def]
theorem qS_hit (e : UInt8) (acc r : List UInt8) : qS e acc (e :: r) = some (acc, r) := by
  cases r with
  | nil => rw [qS_single, if_pos rfl]
  | cons c r => rw [qS_two, if_pos rfl]
theorem qS_esc (acc r : List UInt8) (c : UInt8) (h : c = 34 ∨ c = 92) : qS 34 acc (92 :: c :: r) = qS 34 (acc ++ [c]) r := by
  rw [qS_two, if_neg (by decide), if_pos ⟨rfl, rfl, h⟩]
theorem qS_one (e b : UInt8) (acc r : List UInt8) (h : ¬ b = e) (h2 : ¬ (e = 34 ∧ b = 92 ∧ ∃ c r', r = c :: r' ∧ (c = 34 ∨ c = 92))) : qS e acc (b :: r) = qS e (acc ++ [b]) r := by
  cases r with
  | nil => rw [qS_nil, qS_single, if_neg h]
  | cons c r' => rw [qS_two, if_neg h, if_neg (fun hh => h2 ⟨hh.1, hh.2.1, c, r', rfl, hh.2.2⟩)]
theorem qS_suffix (e : UInt8) : ∀ d (l acc t r : List UInt8), l.length ≤ d → qS e acc l = some (t, r) → ∃ p, l = p ++ r ∧ 0 < p.length := by
  intro d
  induction d with
  | zero =>
    intro l acc t r hd h
    cases l with
    | nil => rw [qS_nil] at h; exact absurd h (by simp)
    | cons b m => simp at hd
  | succ d ih =>
    intro l acc t r hd h
    cases l with
    | nil => rw [qS_nil] at h; exact absurd h (by simp)
    | cons b m =>
      cases m with
      | nil =>
        rw [qS_single] at h
        split at h
        · injection h with h; injection h with h1 h2; subst h2; exact ⟨[b], rfl, by simp⟩
        · exact absurd h (by simp)
      | cons c m' =>
        rw [qS_two] at h
        split at h
        · injection h with h; injection h with h1 h2; subst h2; exact ⟨[b], rfl, by simp⟩
        · split at h
          · obtain ⟨p, hp, _⟩ := ih m' _ t r (by simp at hd; omega) h
            exact ⟨b :: c :: p, by rw [hp]; rfl, by simp⟩
          · obtain ⟨p, hp, _⟩ := ih (c :: m') _ t r (by simp at hd ⊢; omega) h
            exact ⟨b :: p, by rw [hp]; rfl, by simp⟩
theorem qS_less {e : UInt8} {acc l t r : List UInt8} (h : qS e acc l = some (t, r)) : r.length < l.length := by
  obtain ⟨p, hp, h0⟩ := qS_suffix e _ l acc t r (Nat.le_refl _) h
  rw [hp, List.length_append]; omega
/-- A word, and what is behind it. -/
def wS (acc : List UInt8) (l : List UInt8) : Option (List UInt8 × List UInt8) :=
  match l with
  | [] => some (acc, [])
  | b :: r => if stopB b = true then some (acc, b :: r)
    else if b = 39 ∨ b = 34 then (match h : qS b [] r with
      | none => none
      | some (t, r') => wS (acc ++ t) r')
    else if b = 92 then (match r with
      | [] => none
      | c :: r' => wS (acc ++ [c]) r')
    else wS (acc ++ [b]) r
  termination_by l.length
  decreasing_by
    · have := qS_less h; simp; omega
    · simp; omega
    · simp
theorem wS_nil (acc : List UInt8) : wS acc [] = some (acc, []) := by rw [wS.eq_def]
theorem wS_cons (acc r : List UInt8) (b : UInt8) : wS acc (b :: r) = if stopB b = true then some (acc, b :: r)
    else if b = 39 ∨ b = 34 then (match h : qS b [] r with
      | none => none
      | some (t, r') => wS (acc ++ t) r')
    else if b = 92 then (match r with
      | [] => none
      | c :: r' => wS (acc ++ [c]) r')
    else wS (acc ++ [b]) r := by
  conv => lhs; rw [wS.eq_def]
theorem wS_stop (acc r : List UInt8) (b : UInt8) (h : stopB b = true) : wS acc (b :: r) = some (acc, b :: r) := by rw [wS_cons, if_pos h]
theorem wS_q (acc r t r' : List UInt8) (b : UInt8) (h : ¬ stopB b = true) (h1 : b = 39 ∨ b = 34) (h2 : qS b [] r = some (t, r')) : wS acc (b :: r) = wS (acc ++ t) r' := by
  rw [wS_cons, if_neg h, if_pos h1]
  split
  · rename_i h3; rw [h2] at h3; exact absurd h3 (by simp)
  · rename_i t2 r2 h3; rw [h2] at h3; injection h3 with h3; injection h3 with e1 e2; subst e1 e2; rfl
theorem wS_q0 (acc r : List UInt8) (b : UInt8) (h : ¬ stopB b = true) (h1 : b = 39 ∨ b = 34) (h2 : qS b [] r = none) : wS acc (b :: r) = none := by
  rw [wS_cons, if_neg h, if_pos h1]
  split
  · rfl
  · rename_i t2 r2 h3; rw [h2] at h3; exact absurd h3 (by simp)
theorem wS_b (acc r : List UInt8) (c : UInt8) : wS acc (92 :: c :: r) = wS (acc ++ [c]) r := by
  rw [wS_cons, if_neg (by decide), if_neg (by decide), if_pos rfl]
theorem wS_b0 (acc : List UInt8) : wS acc [92] = none := by
  rw [wS_cons, if_neg (by decide), if_neg (by decide), if_pos rfl]
theorem wS_one (acc r : List UInt8) (b : UInt8) (h : ¬ stopB b = true) (h1 : ¬ b = 39) (h2 : ¬ b = 34) (h3 : ¬ b = 92) : wS acc (b :: r) = wS (acc ++ [b]) r := by
  rw [wS_cons, if_neg h, if_neg (not_or.mpr ⟨h1, h2⟩), if_neg h3]

theorem drop_of_suffix {l p r : List UInt8} (h : l = p ++ r) : l.drop (l.length - r.length) = r := by
  rw [h, List.length_append, Nat.add_sub_cancel]; simp
theorem qA_eq (l : List UInt8) (e : UInt8) : ∀ d i acc, l.length - i ≤ d → i ≤ l.length → qA l e i acc = (qS e acc (l.drop i)).map (fun p => (p.1, l.length - p.2.length)) := by
  intro d
  induction d with
  | zero =>
    intro i acc hd hi
    rw [qA_end l e i acc (by omega), List.drop_eq_nil_of_le (by omega), qS_nil]
    rfl
  | succ d ih =>
    intro i acc hd hi
    by_cases hlt : i < l.length
    · have hdr := drop_get l i hlt
      rw [hdr]
      by_cases he : l[i] = e
      · rw [qA_hit l e i acc hlt he, he, qS_hit]
        simp only [Option.map_some, List.length_drop]
        congr 2
        omega
      · by_cases hes : e = 34 ∧ l[i] = 92 ∧ ∃ h4 : i + 1 < l.length, (l[i + 1] = 34 ∨ l[i + 1] = 92)
        · obtain ⟨h2, h3, h4, h5⟩ := hes
          rw [qA_esc l e i acc hlt he h2 h3 h4 h5, ih (i + 2) _ (by omega) (by omega), drop_get l (i + 1) h4, h3]
          subst h2
          rw [qS_esc _ _ _ h5]
        · rw [qA_one l e i acc hlt he hes, ih (i + 1) _ (by omega) (by omega), qS_one e l[i] acc _ he]
          rintro ⟨h2, h3, c, r', h6, h7⟩
          refine hes ⟨h2, h3, ?_⟩
          have h4 : i + 1 < l.length := by
            have := congrArg List.length h6
            simp only [List.length_drop, List.length_cons] at this
            omega
          refine ⟨h4, ?_⟩
          rw [drop_get l (i + 1) h4] at h6
          injection h6 with h8 _
          rw [h8]; exact h7
    · rw [qA_end l e i acc (by omega), List.drop_eq_nil_of_le (by omega), qS_nil]
      rfl
theorem wA_eq (l : List UInt8) : ∀ d i acc, l.length - i ≤ d → i ≤ l.length → wA l i acc = (wS acc (l.drop i)).map (fun p => (p.1, l.length - p.2.length)) := by
  intro d
  induction d with
  | zero =>
    intro i acc hd hi
    rw [wA_end l i acc (by omega), List.drop_eq_nil_of_le (by omega), wS_nil]
    simp; omega
  | succ d ih =>
    intro i acc hd hi
    by_cases hlt : i < l.length
    · have hdr := drop_get l i hlt
      rw [hdr]
      by_cases hs : stopB l[i] = true
      · rw [wA_stop l i acc hlt hs, wS_stop _ _ _ hs]
        simp only [Option.map_some, List.length_cons, List.length_drop]
        congr 2
        omega
      · by_cases hq : l[i] = 39 ∨ l[i] = 34
        · have e := qA_eq (l.drop (i + 1)) l[i] _ 0 [] (Nat.le_refl _) (Nat.zero_le _)
          rw [List.drop_zero] at e
          cases h : qS l[i] [] (l.drop (i + 1)) with
          | none =>
            rw [h] at e
            rw [wA_q0 l i acc hlt hs hq e, wS_q0 _ _ _ hs hq h]
            rfl
          | some x =>
            obtain ⟨t, r⟩ := x
            rw [h] at e
            obtain ⟨p, hp, hp0⟩ := qS_suffix _ _ _ _ _ _ (Nat.le_refl _) h
            have hdl := drop_of_suffix hp
            have hlen := congrArg List.length hp
            simp only [List.length_append, List.length_drop] at hlen
            rw [wA_q l i acc hlt hs hq t _ e, wS_q _ _ _ _ _ hs hq h]
            simp only [List.length_drop]
            rw [ih _ _ (by omega) (by omega)]
            rw [List.length_drop, List.drop_drop] at hdl
            rw [hdl]
        · by_cases hb : l[i] = 92
          · by_cases h3 : i + 1 < l.length
            · rw [wA_b l i acc hlt hs hb h3, ih (i + 2) _ (by omega) (by omega), drop_get l (i + 1) h3, hb, wS_b]
            · rw [wA_b0 l i acc hlt hs hb h3, hb, List.drop_eq_nil_of_le (by omega), wS_b0]
              rfl
          · rw [wA_one l i acc hlt hs (fun h => hq (.inl h)) (fun h => hq (.inr h)) hb, ih (i + 1) _ (by omega) (by omega), wS_one _ _ _ hs (fun h => hq (.inl h)) (fun h => hq (.inr h)) hb]
    · rw [wA_end l i acc (by omega), List.drop_eq_nil_of_le (by omega), wS_nil]
      simp; omega
end Go.Proofs.YtogbdjboblfokaaDoor.X
/- A line's tokens on the list that is left; shown tokens come back; plain Lean. -/
namespace Go.Proofs.YtogbdjboblfokaaDoor.X
open Go.RowKit Go.Proofs.YtogbdjboblfokaaDoorW.PrintWords Go.Proofs.YtogbdjboblfokaaDoorW.PrintLast Go.Proofs.YtogbdjboblfokaaDoorW.PrintMore
set_option linter.unusedSimpArgs false
set_option linter.unusedVariables false

theorem wS_suffix : ∀ d (l acc t r : List UInt8), l.length ≤ d → wS acc l = some (t, r) → (∃ p, l = p ++ r) ∧ (r = [] ∨ ∃ b m, r = b :: m ∧ stopB b = true) := by
  intro d
  induction d with
  | zero =>
    intro l acc t r hd h
    cases l with
    | nil => rw [wS_nil] at h; injection h with h; injection h with h1 h2; subst h2; exact ⟨⟨[], rfl⟩, .inl rfl⟩
    | cons b m => simp at hd
  | succ d ih =>
    intro l acc t r hd h
    cases l with
    | nil => rw [wS_nil] at h; injection h with h; injection h with h1 h2; subst h2; exact ⟨⟨[], rfl⟩, .inl rfl⟩
    | cons b m =>
      simp only [List.length_cons] at hd
      by_cases hs : stopB b = true
      · rw [wS_stop _ _ _ hs] at h; injection h with h; injection h with h1 h2; subst h2; exact ⟨⟨[], rfl⟩, .inr ⟨b, m, rfl, hs⟩⟩
      · by_cases hq : b = 39 ∨ b = 34
        · cases hqs : qS b [] m with
          | none => rw [wS_q0 _ _ _ hs hq hqs] at h; exact absurd h (by simp)
          | some x =>
            obtain ⟨t1, r1⟩ := x
            rw [wS_q _ _ _ _ _ hs hq hqs] at h
            have hl := qS_less hqs
            obtain ⟨p1, hp1, _⟩ := qS_suffix _ _ _ _ _ _ (Nat.le_refl _) hqs
            obtain ⟨⟨p, hp⟩, h3⟩ := ih r1 _ t r (by omega) h
            exact ⟨⟨b :: (p1 ++ p), by rw [hp1, hp]; simp⟩, h3⟩
        · by_cases hb : b = 92
          · subst hb
            cases m with
            | nil => rw [wS_b0] at h; exact absurd h (by simp)
            | cons c m' =>
              rw [wS_b] at h
              simp only [List.length_cons] at hd
              obtain ⟨⟨p, hp⟩, h3⟩ := ih m' _ t r (by omega) h
              exact ⟨⟨92 :: c :: p, by rw [hp]; rfl⟩, h3⟩
          · rw [wS_one _ _ _ hs (fun h => hq (.inl h)) (fun h => hq (.inr h)) hb] at h
            obtain ⟨⟨p, hp⟩, h3⟩ := ih m _ t r (by omega) h
            exact ⟨⟨b :: p, by rw [hp]; rfl⟩, h3⟩
/-- The blanks between tokens. -/
def blk (b : UInt8) : Bool := ([32, 9, 10] : List UInt8).contains b
/-- The mark that comes: its kind, its length, and what is behind it. -/
def markS : List UInt8 → Option (Nat × Nat × List UInt8)
  | [] => none
  | [b] => if b = 62 then some (4, 1, []) else if b = 60 then some (6, 1, []) else if b = 59 then some (1, 1, []) else none
  | b :: c :: r => if b = 38 ∧ c = 38 then some (2, 2, r) else if b = 124 ∧ c = 124 then some (3, 2, r) else if b = 62 ∧ c = 62 then some (5, 2, r)
    else if b = 62 then some (4, 1, c :: r) else if b = 60 then some (6, 1, c :: r) else if b = 59 then some (1, 1, c :: r) else none
theorem markS_suffix {l r : List UInt8} {k n : Nat} (h : markS l = some (k, n, r)) : (∃ p, l = p ++ r ∧ p.length = n) ∧ 0 < n ∧ 1 ≤ k ∧ k ≤ 6 := by
  unfold markS at h
  split at h
  · exact absurd h (by simp)
  · rename_i b
    repeat' split at h
    all_goals first
      | (cases h; done)
      | (injection h with h; injection h with h1 h2; injection h2 with h2 h3; subst h1 h2 h3; exact ⟨⟨[b], rfl, rfl⟩, by omega, by omega, by omega⟩)
  · rename_i b c r'
    repeat' split at h
    all_goals first
      | (cases h; done)
      | (injection h with h; injection h with h1 h2; injection h2 with h2 h3; subst h1 h2 h3; first | exact ⟨⟨[b], rfl, rfl⟩, by omega, by omega, by omega⟩ | exact ⟨⟨[b, c], rfl, rfl⟩, by omega, by omega, by omega⟩)
/-- A line's tokens, behind some. -/
def tokS (out : List (Nat × List UInt8)) (l : List UInt8) : Option (List (Nat × List UInt8)) :=
  match l with
  | [] => some out
  | b :: r => if blk b = true then tokS out r else
    match h : markS (b :: r) with
    | some (k, _, r') => tokS (out ++ [(k, [])]) r'
    | none => match h2 : wS [] (b :: r) with
      | none => none
      | some (t, r') => if h3 : r'.length < (b :: r).length then tokS (out ++ [(0, t)]) r' else none
  termination_by l.length
  decreasing_by
    · simp
    · obtain ⟨⟨p, hp, hl⟩, h0, _⟩ := markS_suffix h
      have := congrArg List.length hp
      simp only [List.length_append, List.length_cons] at this
      simp only [List.length_cons]
      omega
    · exact h3
theorem tokS_nil (out : List (Nat × List UInt8)) : tokS out [] = some out := by rw [tokS.eq_def]
theorem tokS_cons (out : List (Nat × List UInt8)) (b : UInt8) (r : List UInt8) : tokS out (b :: r) = if blk b = true then tokS out r else
    match h : markS (b :: r) with
    | some (k, _, r') => tokS (out ++ [(k, [])]) r'
    | none => match h2 : wS [] (b :: r) with
      | none => none
      | some (t, r') => if h3 : r'.length < (b :: r).length then tokS (out ++ [(0, t)]) r' else none := by
  conv => lhs; rw [tokS.eq_def]
theorem tokS_blk (out : List (Nat × List UInt8)) (b : UInt8) (r : List UInt8) (h : blk b = true) : tokS out (b :: r) = tokS out r := by rw [tokS_cons, if_pos h]
theorem tokS_mark (out : List (Nat × List UInt8)) (b : UInt8) (r : List UInt8) (h : ¬ blk b = true) (k n : Nat) (r' : List UInt8) (h1 : markS (b :: r) = some (k, n, r')) : tokS out (b :: r) = tokS (out ++ [(k, [])]) r' := by
  rw [tokS_cons, if_neg h]
  split
  · rename_i k2 n2 r2 h2; rw [h1] at h2; injection h2 with h2; injection h2 with e1 e2; injection e2 with e2 e3; subst e1 e3; rfl
  · rename_i h2; rw [h1] at h2; exact absurd h2 (by simp)
theorem tokS_bad (out : List (Nat × List UInt8)) (b : UInt8) (r : List UInt8) (h : ¬ blk b = true) (h1 : markS (b :: r) = none) (h2 : wS [] (b :: r) = none) : tokS out (b :: r) = none := by
  rw [tokS_cons, if_neg h]
  split
  · rename_i h3; rw [h1] at h3; exact absurd h3 (by simp)
  · split
    · rfl
    · rename_i h3; rw [h2] at h3; exact absurd h3 (by simp)
theorem tokS_word (out : List (Nat × List UInt8)) (b : UInt8) (r : List UInt8) (h : ¬ blk b = true) (h1 : markS (b :: r) = none) (t r' : List UInt8) (h2 : wS [] (b :: r) = some (t, r')) :
    tokS out (b :: r) = if r'.length < (b :: r).length then tokS (out ++ [(0, t)]) r' else none := by
  rw [tokS_cons, if_neg h]
  split
  · rename_i h3; rw [h1] at h3; exact absurd h3 (by simp)
  · split
    · rename_i h3; rw [h2] at h3; exact absurd h3 (by simp)
    · rename_i t2 r2 h3; rw [h2] at h3; injection h3 with h3; injection h3 with e1 e2; subst e1 e2
      split <;> rfl
end Go.Proofs.YtogbdjboblfokaaDoor.X
/- Shown tokens come back: quoting and reading; plain Lean. -/
namespace Go.Proofs.YtogbdjboblfokaaDoor.X
open Go.RowKit Go.Proofs.YtogbdjboblfokaaDoorW.PrintWords Go.Proofs.YtogbdjboblfokaaDoorW.PrintLast Go.Proofs.YtogbdjboblfokaaDoorW.PrintMore
set_option linter.unusedSimpArgs false
set_option linter.unusedVariables false

def oddU (b : UInt8) : Bool := ([32, 9, 10, 59, 38, 124, 60, 62, 39, 34, 92] : List UInt8).contains b
theorem oddU_not {b : UInt8} (h : oddU b = false) : ¬ stopB b = true ∧ ¬ b = 39 ∧ ¬ b = 34 ∧ ¬ b = 92 ∧ ¬ blk b = true ∧ ¬ b = 38 ∧ ¬ b = 124 ∧ ¬ b = 62 ∧ ¬ b = 60 ∧ ¬ b = 59 := by
  simp [oddU, stopB, blk] at h ⊢
  simp [h]
def plainU (t : List UInt8) : Bool := decide (t ≠ []) && t.all (fun b => !oddU b)
def flat (t : List UInt8) : List UInt8 := t.flatMap (fun b => if b = 39 then [39, 92, 39, 39] else [b])
theorem flat_nil : flat [] = [] := rfl
theorem flat_cons (b : UInt8) (t : List UInt8) : flat (b :: t) = (if b = 39 then [39, 92, 39, 39] else [b]) ++ flat t := by simp [flat]
def quoteU (t : List UInt8) : List UInt8 := if plainU t = true then t else 39 :: (flat t ++ [39])
def endR (r : List UInt8) : Prop := r = [] ∨ ∃ b m, r = b :: m ∧ stopB b = true
theorem wS_end (acc r : List UInt8) (h : endR r) : wS acc r = some (acc, r) := by
  rcases h with rfl | ⟨b, m, rfl, hb⟩
  · exact wS_nil acc
  · exact wS_stop acc m b hb
theorem wS_plain : ∀ (t : List UInt8), (∀ b ∈ t, oddU b = false) → ∀ acc r, wS acc (t ++ r) = wS (acc ++ t) r := by
  intro t
  induction t with
  | nil => intro _ acc r; simp
  | cons b t ih =>
    intro h acc r
    obtain ⟨h1, h2, h3, h4, _⟩ := oddU_not (h b (by simp))
    rw [List.cons_append, wS_one _ _ _ h1 h2 h3 h4, ih (fun c hc => h c (by simp [hc]))]
    simp
theorem wS_inner : ∀ (t acc acc1 r : List UInt8), ∃ x r', qS 39 acc1 (flat t ++ 39 :: r) = some (x, r') ∧ wS (acc ++ x) r' = wS (acc ++ acc1 ++ t) r := by
  intro t
  induction t with
  | nil => intro acc acc1 r; exact ⟨acc1, r, by rw [flat_nil, List.nil_append, qS_hit], by simp⟩
  | cons b t ih =>
    intro acc acc1 r
    by_cases hb : b = 39
    · subst hb
      refine ⟨acc1, 92 :: 39 :: 39 :: (flat t ++ 39 :: r), by rw [flat_cons, if_pos rfl]; exact qS_hit 39 acc1 _, ?_⟩
      obtain ⟨x, r', h1, h2⟩ := ih (acc ++ acc1 ++ [39]) [] r
      rw [wS_b, wS_q _ _ _ _ _ (by decide) (.inl rfl) h1, h2]
      simp
    · obtain ⟨x, r', h1, h2⟩ := ih acc (acc1 ++ [b]) r
      refine ⟨x, r', ?_, by rw [h2]; simp⟩
      rw [flat_cons, if_neg hb, List.cons_append, List.nil_append, List.cons_append, qS_one 39 b acc1 _ hb (fun h => absurd h.1 (by decide)), h1]
theorem wS_quote (t acc r : List UInt8) (h : endR r) : wS acc (quoteU t ++ r) = some (acc ++ t, r) := by
  unfold quoteU
  split
  · rename_i hp
    rw [plainU, Bool.and_eq_true, List.all_eq_true] at hp
    rw [wS_plain t (fun b hb => by simpa using hp.2 b hb), wS_end _ _ h]
  · obtain ⟨x, r', h1, h2⟩ := wS_inner t acc [] r
    rw [List.cons_append, List.append_assoc, List.cons_append, List.nil_append, wS_q _ _ _ _ _ (by decide) (.inl rfl) h1, h2, List.append_nil, wS_end _ _ h]
theorem markS_none (b : UInt8) (r : List UInt8) (h1 : ¬ b = 38) (h2 : ¬ b = 124) (h3 : ¬ b = 62) (h4 : ¬ b = 60) (h5 : ¬ b = 59) : markS (b :: r) = none := by
  cases r with
  | nil => simp [markS, h3, h4, h5]
  | cons c r => simp [markS, h1, h2, h3, h4, h5]
theorem quoteU_head (t : List UInt8) : ∃ b m, quoteU t = b :: m ∧ ¬ blk b = true ∧ ∀ r, markS (b :: r) = none := by
  unfold quoteU
  split
  · rename_i hp
    rw [plainU, Bool.and_eq_true, List.all_eq_true] at hp
    cases t with
    | nil => simp at hp
    | cons b m =>
      obtain ⟨_, _, _, _, h5, h6, h7, h8, h9, h10⟩ := oddU_not (by simpa using hp.2 b (by simp))
      exact ⟨b, m, rfl, h5, fun r => markS_none b r h6 h7 h8 h9 h10⟩
  · exact ⟨39, flat t ++ [39], rfl, by decide, fun r => markS_none 39 r (by decide) (by decide) (by decide) (by decide) (by decide)⟩
def markT (k : Nat) : List UInt8 := if k = 1 then [59] else if k = 2 then [38, 38] else if k = 3 then [124, 124] else if k = 4 then [62] else if k = 5 then [62, 62] else [60]
def okTok (x : Nat × List UInt8) : Prop := x.1 = 0 ∨ (1 ≤ x.1 ∧ x.1 ≤ 6 ∧ x.2 = [])
def show1 (x : Nat × List UInt8) : List UInt8 := if x.1 = 0 then quoteU x.2 else markT x.1
def joinU : List (List UInt8) → List UInt8
  | [] => []
  | [x] => x
  | x :: y :: r => x ++ 32 :: joinU (y :: r)
theorem tokS_one (out : List (Nat × List UInt8)) (x : Nat × List UInt8) (hx : okTok x) (r : List UInt8) (hr : r = [] ∨ ∃ m, r = 32 :: m) : tokS out (show1 x ++ r) = tokS (out ++ [x]) r := by
  obtain ⟨k, t⟩ := x
  rcases hx with h0 | ⟨h1, h6, ht⟩
  · simp only at h0
    subst h0
    have e : show1 (0, t) = quoteU t := by simp [show1]
    have hend : endR r := by
      rcases hr with rfl | ⟨m, rfl⟩
      · exact .inl rfl
      · exact .inr ⟨32, m, rfl, by decide⟩
    obtain ⟨b, m, hq, hb, hm⟩ := quoteU_head t
    have hw := wS_quote t [] r hend
    rw [e, hq, List.cons_append]
    rw [hq, List.cons_append, List.nil_append] at hw
    rw [tokS_word out b _ hb (hm _) t r hw, if_pos (by simp; omega)]
  · simp only at h1 h6 ht
    subst ht
    have hk : k = 1 ∨ k = 2 ∨ k = 3 ∨ k = 4 ∨ k = 5 ∨ k = 6 := by omega
    rcases hk with rfl | rfl | rfl | rfl | rfl | rfl <;> rcases hr with rfl | ⟨m, rfl⟩
    · exact tokS_mark out 59 _ (by decide) 1 1 _ (by simp [markS])
    · exact tokS_mark out 59 _ (by decide) 1 1 _ (by simp [markS])
    · exact tokS_mark out 38 _ (by decide) 2 2 _ (by simp [markS])
    · exact tokS_mark out 38 _ (by decide) 2 2 _ (by simp [markS])
    · exact tokS_mark out 124 _ (by decide) 3 2 _ (by simp [markS])
    · exact tokS_mark out 124 _ (by decide) 3 2 _ (by simp [markS])
    · exact tokS_mark out 62 _ (by decide) 4 1 _ (by simp [markS])
    · exact tokS_mark out 62 _ (by decide) 4 1 _ (by simp [markS])
    · exact tokS_mark out 62 _ (by decide) 5 2 _ (by simp [markS])
    · exact tokS_mark out 62 _ (by decide) 5 2 _ (by simp [markS])
    · exact tokS_mark out 60 _ (by decide) 6 1 _ (by simp [markS])
    · exact tokS_mark out 60 _ (by decide) 6 1 _ (by simp [markS])
theorem tokS_show : ∀ (l : List (Nat × List UInt8)), (∀ x ∈ l, okTok x) → ∀ out, tokS out (joinU (l.map show1)) = some (out ++ l) := by
  intro l
  induction l with
  | nil => intro _ out; rw [List.map_nil, joinU, tokS_nil, List.append_nil]
  | cons x l ih =>
    intro h out
    cases l with
    | nil =>
      have := tokS_one out x (h x (by simp)) [] (.inl rfl)
      rw [List.append_nil, tokS_nil] at this
      exact this
    | cons y l =>
      have := tokS_one out x (h x (by simp)) (32 :: joinU ((y :: l).map show1)) (.inr ⟨_, rfl⟩)
      rw [tokS_blk _ _ _ (by decide), ih (fun z hz => h z (by simp [hz]))] at this
      rw [List.map_cons, List.map_cons, joinU]
      rw [List.map_cons] at this
      rw [this]
      simp
/-- Every token read is good. -/
theorem tokS_ok : ∀ d (l : List UInt8) (out res : List (Nat × List UInt8)), l.length ≤ d → (∀ x ∈ out, okTok x) → tokS out l = some res → ∀ x ∈ res, okTok x := by
  intro d
  induction d with
  | zero =>
    intro l out res hd ho h
    cases l with
    | nil => rw [tokS_nil] at h; injection h with h; subst h; exact ho
    | cons b r => simp at hd
  | succ d ih =>
    intro l out res hd ho h
    cases l with
    | nil => rw [tokS_nil] at h; injection h with h; subst h; exact ho
    | cons b r =>
      simp only [List.length_cons] at hd
      by_cases hb : blk b = true
      · rw [tokS_blk _ _ _ hb] at h; exact ih r out res (by omega) ho h
      · cases hm : markS (b :: r) with
        | some x =>
          obtain ⟨k, n, r'⟩ := x
          rw [tokS_mark _ _ _ hb k n r' hm] at h
          obtain ⟨⟨p, hp, hl⟩, h0, h1, h6⟩ := markS_suffix hm
          have hlen := congrArg List.length hp
          simp only [List.length_append, List.length_cons] at hlen
          refine ih r' _ res (by omega) ?_ h
          intro x hx
          rcases List.mem_append.1 hx with hx | hx
          · exact ho x hx
          · rw [List.mem_singleton.1 hx]; exact .inr ⟨h1, h6, rfl⟩
        | none =>
          cases hw : wS [] (b :: r) with
          | none => rw [tokS_bad _ _ _ hb hm hw] at h; exact absurd h (by simp)
          | some x =>
            obtain ⟨t, r'⟩ := x
            rw [tokS_word _ _ _ hb hm t r' hw] at h
            split at h
            · rename_i hlt
              simp only [List.length_cons] at hlt
              refine ih r' _ res (by omega) ?_ h
              intro x hx
              rcases List.mem_append.1 hx with hx | hx
              · exact ho x hx
              · rw [List.mem_singleton.1 hx]; exact .inl rfl
            · exact absurd h (by simp)
end Go.Proofs.YtogbdjboblfokaaDoor.X
/- A line's commands, over its tokens: as the program takes them (lineS), as the reference does (refS); shown, they come back. Plain Lean; no program. -/
namespace Go.Proofs.YtogbdjboblfokaaDoor.X
set_option linter.unusedSimpArgs false
set_option linter.unusedVariables false

/-- A command: on what it hangs, its words, and where all goes. -/
structure Cmd where
  on : Int
  words : List (List UInt8)
  tos : List (Int × List UInt8)
abbrev Tok := Nat × List UInt8

/-- The command that comes, and what is left; none: it is none. -/
def cmdS (on : Int) (ws : List (List UInt8)) (ts : List (Int × List UInt8)) : List Tok → Option (Cmd × List Tok)
  | [] => if ws = [] then none else some (⟨on, ws, ts⟩, [])
  | (k, x) :: r =>
    if k = 0 then cmdS on (ws ++ [x]) ts r
    else if 4 ≤ k then
      match r with
      | [] => none
      | (k', y) :: r' => if k' = 0 then cmdS on ws (ts ++ [((k : Int), y)]) r' else none
    else if ws = [] then none else some (⟨on, ws, ts⟩, (k, x) :: r)
theorem cmdS_nil (on : Int) (ws : List (List UInt8)) (ts : List (Int × List UInt8)) : cmdS on ws ts [] = if ws = [] then none else some (⟨on, ws, ts⟩, []) := by rw [cmdS.eq_def]
theorem cmdS_word (on : Int) (ws : List (List UInt8)) (ts : List (Int × List UInt8)) (x : List UInt8) (r : List Tok) : cmdS on ws ts ((0, x) :: r) = cmdS on (ws ++ [x]) ts r := by rw [cmdS.eq_def]; simp
theorem cmdS_to (on : Int) (ws : List (List UInt8)) (ts : List (Int × List UInt8)) (k : Nat) (hk : 4 ≤ k) (x y : List UInt8) (r : List Tok) : cmdS on ws ts ((k, x) :: (0, y) :: r) = cmdS on ws (ts ++ [((k : Int), y)]) r := by
  rw [cmdS.eq_def]; simp [hk, show ¬ k = 0 by omega]
theorem cmdS_to0 (on : Int) (ws : List (List UInt8)) (ts : List (Int × List UInt8)) (k : Nat) (hk : 4 ≤ k) (x : List UInt8) (r : List Tok) (h : ∀ y r', r ≠ (0, y) :: r') : cmdS on ws ts ((k, x) :: r) = none := by
  rw [cmdS.eq_def]
  simp only [show ¬ k = 0 by omega, hk, if_true, if_false]
  cases r with
  | nil => rfl
  | cons a r' =>
    obtain ⟨k', y⟩ := a
    have : ¬ k' = 0 := by rintro rfl; exact h y r' rfl
    simp [this]
theorem cmdS_end (on : Int) (ws : List (List UInt8)) (ts : List (Int × List UInt8)) (k : Nat) (h0 : ¬ k = 0) (h4 : ¬ 4 ≤ k) (x : List UInt8) (r : List Tok) : cmdS on ws ts ((k, x) :: r) = if ws = [] then none else some (⟨on, ws, ts⟩, (k, x) :: r) := by
  rw [cmdS.eq_def]; simp [h0, h4]

/-- What is left is shorter, and begins with what is neither a word nor a way. -/
theorem cmdS_rest : ∀ n (l : List Tok) (on : Int) (ws : List (List UInt8)) (ts : List (Int × List UInt8)) (c : Cmd) (r : List Tok), l.length ≤ n → cmdS on ws ts l = some (c, r) → r.length ≤ l.length ∧ (∃ p, l = p ++ r) ∧ (r = [] ∨ ∃ k x m, r = (k, x) :: m ∧ 1 ≤ k ∧ k ≤ 3) := by
  intro n
  induction n with
  | zero =>
    intro l on ws ts c r hl h
    have : l = [] := List.length_eq_zero_iff.1 (by omega)
    subst this
    rw [cmdS_nil] at h
    split at h
    · simp at h
    · simp at h; obtain ⟨rfl, rfl⟩ := h; exact ⟨by simp, ⟨[], rfl⟩, .inl rfl⟩
  | succ n ih =>
    intro l on ws ts c r hl h
    cases l with
    | nil =>
      rw [cmdS_nil] at h
      split at h
      · simp at h
      · simp at h; obtain ⟨rfl, rfl⟩ := h; exact ⟨by simp, ⟨[], rfl⟩, .inl rfl⟩
    | cons a l =>
      obtain ⟨k, x⟩ := a
      simp at hl
      by_cases h0 : k = 0
      · subst h0
        rw [cmdS_word] at h
        obtain ⟨h1, ⟨p, h2⟩, h3⟩ := ih l _ _ _ _ _ hl h
        exact ⟨by simp; omega, ⟨(0, x) :: p, by rw [h2]; rfl⟩, h3⟩
      · by_cases h4 : 4 ≤ k
        · by_cases hr : ∃ y r', l = (0, y) :: r'
          · obtain ⟨y, r', rfl⟩ := hr
            rw [cmdS_to _ _ _ k h4] at h
            simp at hl
            obtain ⟨h1, ⟨p, h2⟩, h3⟩ := ih r' _ _ _ _ _ (by omega) h
            exact ⟨by simp; omega, ⟨(k, x) :: (0, y) :: p, by rw [h2]; rfl⟩, h3⟩
          · rw [cmdS_to0 _ _ _ k h4 x l (fun y r' e => hr ⟨y, r', e⟩)] at h
            simp at h
        · rw [cmdS_end _ _ _ k h0 h4] at h
          split at h
          · simp at h
          · simp at h
            obtain ⟨rfl, rfl⟩ := h
            exact ⟨Nat.le_refl _, ⟨[], rfl⟩, .inr ⟨k, x, l, rfl, by omega, by omega⟩⟩
/-- It takes something. -/
theorem cmdS_less (l : List Tok) (on : Int) (c : Cmd) (r : List Tok) (h : cmdS on [] [] l = some (c, r)) : r.length < l.length := by
  obtain ⟨h1, ⟨p, h2⟩, h3⟩ := cmdS_rest _ l _ _ _ _ _ (Nat.le_refl _) h
  rcases Nat.lt_or_ge r.length l.length with hlt | hge
  · exact hlt
  · exfalso
    have : p = [] := by
      have := congrArg List.length h2
      simp at this
      exact List.length_eq_zero_iff.1 (by omega)
    subst this
    simp at h2
    subst h2
    rcases h3 with rfl | ⟨k, x, m, rfl, h3, h4⟩
    · rw [cmdS_nil] at h; simp at h
    · rw [cmdS_end _ _ _ k (by omega) (by omega)] at h; simp at h

/-- A line's commands. -/
def lineS (out : List Cmd) (on : Int) (l : List Tok) : Option (List Cmd) :=
  if l = [] then some out else
  match h : cmdS on [] [] l with
  | none => none
  | some (c, r) =>
    match hr : r with
    | [] => some (out ++ [c])
    | (k, _) :: m => if k ≠ 1 ∧ m = [] then none else lineS (out ++ [c]) (k : Int) m
termination_by l.length
decreasing_by
  have := cmdS_less l on c _ h
  simp at this ⊢
  omega
theorem lineS_nil (out : List Cmd) (on : Int) : lineS out on [] = some out := by rw [lineS.eq_def]; simp
theorem lineS_bad (out : List Cmd) (on : Int) (l : List Tok) (hl : l ≠ []) (h : cmdS on [] [] l = none) : lineS out on l = none := by
  rw [lineS.eq_def, if_neg hl]
  split
  · rfl
  · rename_i h'; rw [h] at h'; simp at h'
theorem lineS_last (out : List Cmd) (on : Int) (l : List Tok) (hl : l ≠ []) (c : Cmd) (h : cmdS on [] [] l = some (c, [])) : lineS out on l = some (out ++ [c]) := by
  rw [lineS.eq_def, if_neg hl]
  split
  · rename_i h'; rw [h] at h'; simp at h'
  · rename_i c' r' h'
    rw [h] at h'
    simp at h'
    obtain ⟨rfl, rfl⟩ := h'
    rfl
theorem lineS_more (out : List Cmd) (on : Int) (l : List Tok) (hl : l ≠ []) (c : Cmd) (k : Nat) (x : List UInt8) (m : List Tok) (h : cmdS on [] [] l = some (c, (k, x) :: m)) : lineS out on l = if k ≠ 1 ∧ m = [] then none else lineS (out ++ [c]) (k : Int) m := by
  conv => lhs; rw [lineS.eq_def, if_neg hl]
  split
  · rename_i h'; rw [h] at h'; simp at h'
  · rename_i c' r' h'
    rw [h] at h'
    simp at h'
    obtain ⟨rfl, rfl⟩ := h'
    rfl

/-- The reference's way through the tokens. -/
def refS (out : List Cmd) (c : Cmd) : List Tok → Option (List Cmd)
  | [] => if c.words ≠ [] then some (out ++ [c]) else if c.tos = [] ∧ c.on = 1 then some out else none
  | (k, x) :: r =>
    if k = 0 then refS out ⟨c.on, c.words ++ [x], c.tos⟩ r
    else if 4 ≤ k then
      match r with
      | [] => none
      | (k', y) :: r' => if k' = 0 then refS out ⟨c.on, c.words, c.tos ++ [((k : Int), y)]⟩ r' else none
    else if c.words = [] then none else refS (out ++ [c]) ⟨(k : Int), [], []⟩ r
theorem refS_nil (out : List Cmd) (c : Cmd) : refS out c [] = if c.words ≠ [] then some (out ++ [c]) else if c.tos = [] ∧ c.on = 1 then some out else none := by rw [refS.eq_def]
theorem refS_word (out : List Cmd) (c : Cmd) (x : List UInt8) (r : List Tok) : refS out c ((0, x) :: r) = refS out ⟨c.on, c.words ++ [x], c.tos⟩ r := by rw [refS.eq_def]; simp
theorem refS_to (out : List Cmd) (c : Cmd) (k : Nat) (hk : 4 ≤ k) (x y : List UInt8) (r : List Tok) : refS out c ((k, x) :: (0, y) :: r) = refS out ⟨c.on, c.words, c.tos ++ [((k : Int), y)]⟩ r := by
  rw [refS.eq_def]; simp [hk, show ¬ k = 0 by omega]
theorem refS_to0 (out : List Cmd) (c : Cmd) (k : Nat) (hk : 4 ≤ k) (x : List UInt8) (r : List Tok) (h : ∀ y r', r ≠ (0, y) :: r') : refS out c ((k, x) :: r) = none := by
  rw [refS.eq_def]
  simp only [show ¬ k = 0 by omega, hk, if_true, if_false]
  cases r with
  | nil => rfl
  | cons a r' =>
    obtain ⟨k', y⟩ := a
    have : ¬ k' = 0 := by rintro rfl; exact h y r' rfl
    simp [this]
theorem refS_end (out : List Cmd) (c : Cmd) (k : Nat) (h0 : ¬ k = 0) (h4 : ¬ 4 ≤ k) (x : List UInt8) (r : List Tok) : refS out c ((k, x) :: r) = if c.words = [] then none else refS (out ++ [c]) ⟨(k : Int), [], []⟩ r := by
  rw [refS.eq_def]; simp [h0, h4]

theorem refS_cmd : ∀ n (l : List Tok) (out : List Cmd) (on : Int) (ws : List (List UInt8)) (ts : List (Int × List UInt8)), l.length ≤ n → (l ≠ [] ∨ ws ≠ [] ∨ ts ≠ []) →
    refS out ⟨on, ws, ts⟩ l = match cmdS on ws ts l with | none => none | some (c, []) => some (out ++ [c]) | some (c, (k, _) :: m) => refS (out ++ [c]) ⟨(k : Int), [], []⟩ m := by
  intro n
  induction n with
  | zero =>
    intro l out on ws ts hl h
    have : l = [] := List.length_eq_zero_iff.1 (by omega)
    subst this
    rw [cmdS_nil, refS_nil]
    by_cases hw : ws = []
    · subst hw
      have : ts ≠ [] := by simpa using h
      simp [this]
    · simp [hw]
  | succ n ih =>
    intro l out on ws ts hl h
    cases l with
    | nil =>
      rw [cmdS_nil, refS_nil]
      by_cases hw : ws = []
      · subst hw
        have : ts ≠ [] := by simpa using h
        simp [this]
      · simp [hw]
    | cons a l =>
      obtain ⟨k, x⟩ := a
      simp at hl
      by_cases h0 : k = 0
      · subst h0
        rw [cmdS_word, refS_word]
        exact ih l out on (ws ++ [x]) ts hl (.inr (.inl (by simp)))
      · by_cases h4 : 4 ≤ k
        · by_cases hr : ∃ y r', l = (0, y) :: r'
          · obtain ⟨y, r', rfl⟩ := hr
            rw [cmdS_to _ _ _ k h4, refS_to _ _ k h4]
            simp at hl
            exact ih r' out on ws _ (by omega) (.inr (.inr (by simp)))
          · rw [cmdS_to0 _ _ _ k h4 x l (fun y r' e => hr ⟨y, r', e⟩), refS_to0 _ _ k h4 x l (fun y r' e => hr ⟨y, r', e⟩)]
        · rw [cmdS_end _ _ _ k h0 h4, refS_end _ _ k h0 h4]
          by_cases hw : ws = []
          · simp [hw]
          · simp [hw]
theorem refS_line : ∀ n (l : List Tok) (out : List Cmd) (on : Int), l.length ≤ n → (l ≠ [] ∨ on = 1) → refS out ⟨on, [], []⟩ l = lineS out on l := by
  intro n
  induction n with
  | zero =>
    intro l out on hl h
    have : l = [] := List.length_eq_zero_iff.1 (by omega)
    subst this
    have : on = 1 := by simpa using h
    rw [refS_nil, lineS_nil]; simp [this]
  | succ n ih =>
    intro l out on hl h
    by_cases hn : l = []
    · subst hn
      have : on = 1 := by simpa using h
      rw [refS_nil, lineS_nil]; simp [this]
    · rw [refS_cmd _ l out on [] [] (Nat.le_refl _) (.inl hn)]
      cases hc : cmdS on [] [] l with
      | none => rw [lineS_bad _ _ _ hn hc]
      | some cr =>
        obtain ⟨c, r⟩ := cr
        have hless := cmdS_less l on c r hc
        cases r with
        | nil => rw [lineS_last _ _ _ hn c hc]
        | cons a m =>
          obtain ⟨k, x⟩ := a
          simp at hless
          rw [lineS_more _ _ _ hn c k x m hc]
          by_cases hm : m = []
          · subst hm
            by_cases hk : k = 1
            · subst hk; simp [refS_nil, lineS_nil]
            · rw [if_pos ⟨hk, rfl⟩]
              simp [refS_nil]; omega
          · rw [if_neg (by simp [hm])]
            exact ih m _ _ (by omega) (.inl hm)

/-! commands such as a line's; shown -/
def okTo (t : Int × List UInt8) : Bool := decide (4 ≤ t.1) && decide (t.1 ≤ 6)
def okCmd (c : Cmd) : Bool := decide (c.words ≠ []) && decide (1 ≤ c.on) && decide (c.on ≤ 3) && c.tos.all okTo
def rightS (l : List Cmd) : Bool := l.all okCmd && (match l with | [] => true | c :: _ => decide (c.on = 1))
def toksTo (t : Int × List UInt8) : List Tok := [(t.1.toNat, []), (0, t.2)]
def toksCmd (c : Cmd) : List Tok := c.words.map (fun x => (0, x)) ++ c.tos.flatMap toksTo
def toksAll : List Cmd → List Tok
  | [] => []
  | c :: r => toksCmd c ++ r.flatMap (fun d => (d.on.toNat, []) :: toksCmd d)
theorem cmdS_words (on : Int) (ts : List (Int × List UInt8)) (r : List Tok) : ∀ (xs ws : List (List UInt8)), cmdS on ws ts (xs.map (fun x => (0, x)) ++ r) = cmdS on (ws ++ xs) ts r := by
  intro xs
  induction xs with
  | nil => intro ws; simp
  | cons x xs ih => intro ws; rw [List.map_cons, List.cons_append, cmdS_word, ih]; simp
theorem cmdS_tos (on : Int) (ws : List (List UInt8)) (r : List Tok) : ∀ (xs ts : List (Int × List UInt8)), (∀ t ∈ xs, okTo t = true) → cmdS on ws ts (xs.flatMap toksTo ++ r) = cmdS on ws (ts ++ xs) r := by
  intro xs
  induction xs with
  | nil => intro ts _; simp
  | cons x xs ih =>
    intro ts h
    have hx := h x (by simp)
    simp [okTo] at hx
    have e : (x :: xs).flatMap toksTo ++ r = (x.1.toNat, []) :: (0, x.2) :: (xs.flatMap toksTo ++ r) := by simp [toksTo]
    rw [e, cmdS_to _ _ _ _ (by omega), ih _ (fun t ht => h t (by simp [ht]))]
    have : ((x.1.toNat : Nat) : Int) = x.1 := by omega
    rw [this]
    simp
theorem cmdS_back (c : Cmd) (h : okCmd c = true) (r : List Tok) (hr : r = [] ∨ ∃ k x m, r = (k, x) :: m ∧ 1 ≤ k ∧ k ≤ 3) : cmdS c.on [] [] (toksCmd c ++ r) = some (c, r) := by
  simp [okCmd] at h
  obtain ⟨⟨⟨h1, h2⟩, h3⟩, h4⟩ := h
  rw [toksCmd, List.append_assoc, cmdS_words, cmdS_tos _ _ _ _ _ (fun t ht => h4 t.1 t.2 ht)]
  simp only [List.nil_append]
  rcases hr with rfl | ⟨k, x, m, rfl, hk, hk3⟩
  · rw [cmdS_nil, if_neg h1]
  · rw [cmdS_end _ _ _ k (by omega) (by omega), if_neg h1]
theorem lineS_back : ∀ (l : List Cmd) (c : Cmd) (out : List Cmd), okCmd c = true → (∀ d ∈ l, okCmd d = true) → lineS out c.on (toksCmd c ++ l.flatMap (fun d => (d.on.toNat, []) :: toksCmd d)) = some (out ++ c :: l) := by
  intro l
  induction l with
  | nil =>
    intro c out hc _
    have hne : toksCmd c ≠ [] := by
      simp [okCmd] at hc
      simp [toksCmd, hc.1.1.1]
    have := cmdS_back c hc [] (.inl rfl)
    simp only [List.flatMap_nil]
    rw [lineS_last _ _ _ (by simp [hne]) c this]
  | cons d l ih =>
    intro c out hc hd
    have hne : toksCmd c ≠ [] := by
      simp [okCmd] at hc
      simp [toksCmd, hc.1.1.1]
    have hdd := hd d (by simp)
    have hon : 1 ≤ d.on ∧ d.on ≤ 3 := by simp [okCmd] at hdd; omega
    have hne2 : toksCmd d ≠ [] := by
      simp [okCmd] at hdd
      simp [toksCmd, hdd.1.1.1]
    rw [List.flatMap_cons, List.cons_append]
    have := cmdS_back c hc ((d.on.toNat, []) :: (toksCmd d ++ l.flatMap (fun d => (d.on.toNat, []) :: toksCmd d))) (.inr ⟨_, _, _, rfl, by omega, by omega⟩)
    rw [lineS_more _ _ _ (by simp [hne]) c _ _ _ this, if_neg (by simp [hne2])]
    have hcast : ((d.on.toNat : Nat) : Int) = d.on := by omega
    rw [hcast, ih d (out ++ [c]) hdd (fun e he => hd e (by simp [he]))]
    simp
theorem lineS_shown (l : List Cmd) (h : rightS l = true) : lineS [] 1 (toksAll l) = some l := by
  cases l with
  | nil => simp [toksAll, lineS_nil]
  | cons c l =>
    simp [rightS] at h
    have := lineS_back l c [] h.1.1 h.1.2
    rw [h.2] at this
    simpa [toksAll] using this
/-- A line's commands are such. -/
theorem cmdS_ok : ∀ n (l : List Tok) (on : Int) (ws : List (List UInt8)) (ts : List (Int × List UInt8)) (c : Cmd) (r : List Tok), l.length ≤ n → (∀ x ∈ l, x.1 ≤ 6) → 1 ≤ on → on ≤ 3 → (∀ t ∈ ts, okTo t = true) → cmdS on ws ts l = some (c, r) → okCmd c = true ∧ c.on = on := by
  intro n
  induction n with
  | zero =>
    intro l on ws ts c r hl h6 h1 h3 ht h
    have : l = [] := List.length_eq_zero_iff.1 (by omega)
    subst this
    rw [cmdS_nil] at h
    split at h
    · simp at h
    · rename_i hw
      simp at h; obtain ⟨rfl, rfl⟩ := h
      simp [okCmd, hw, h1, h3]
      exact fun a b hab => ht (a, b) hab
  | succ n ih =>
    intro l on ws ts c r hl h6 h1 h3 ht h
    cases l with
    | nil =>
      rw [cmdS_nil] at h
      split at h
      · simp at h
      · rename_i hw
        simp at h; obtain ⟨rfl, rfl⟩ := h
        simp [okCmd, hw, h1, h3]
        exact fun a b hab => ht (a, b) hab
    | cons a l =>
      obtain ⟨k, x⟩ := a
      simp at hl
      have hk6 := h6 (k, x) (by simp)
      simp at hk6
      by_cases h0 : k = 0
      · subst h0
        rw [cmdS_word] at h
        exact ih l _ _ _ _ _ hl (fun y hy => h6 y (by simp [hy])) h1 h3 ht h
      · by_cases h4 : 4 ≤ k
        · by_cases hr : ∃ y r', l = (0, y) :: r'
          · obtain ⟨y, r', rfl⟩ := hr
            rw [cmdS_to _ _ _ k h4] at h
            simp at hl
            refine ih r' _ _ _ _ _ (by omega) (fun y hy => h6 y (by simp [hy])) h1 h3 ?_ h
            intro t htt
            rcases List.mem_append.1 htt with htt | htt
            · exact ht t htt
            · simp at htt; subst htt; simp [okTo]; omega
          · rw [cmdS_to0 _ _ _ k h4 x l (fun y r' e => hr ⟨y, r', e⟩)] at h
            simp at h
        · rw [cmdS_end _ _ _ k h0 h4] at h
          split at h
          · simp at h
          · rename_i hw
            simp at h; obtain ⟨rfl, rfl⟩ := h
            simp [okCmd, hw, h1, h3]
            exact fun a b hab => ht (a, b) hab
theorem lineS_ok : ∀ n (l : List Tok) (out : List Cmd) (on : Int) (res : List Cmd), l.length ≤ n → (∀ x ∈ l, x.1 ≤ 6) → 1 ≤ on → on ≤ 3 → (∀ c ∈ out, okCmd c = true) → lineS out on l = some res → (∀ c ∈ res, okCmd c = true) ∧ ∃ m, res = out ++ m ∧ (∀ c t, m = c :: t → c.on = on) := by
  intro n
  induction n with
  | zero =>
    intro l out on res hl h6 h1 h3 ho h
    have : l = [] := List.length_eq_zero_iff.1 (by omega)
    subst this
    rw [lineS_nil] at h
    simp at h; subst h
    exact ⟨ho, [], by simp, by simp⟩
  | succ n ih =>
    intro l out on res hl h6 h1 h3 ho h
    by_cases hn : l = []
    · subst hn
      rw [lineS_nil] at h
      simp at h; subst h
      exact ⟨ho, [], by simp, by simp⟩
    · cases hc : cmdS on [] [] l with
      | none => rw [lineS_bad _ _ _ hn hc] at h; simp at h
      | some cr =>
        obtain ⟨c, r⟩ := cr
        have hless := cmdS_less l on c r hc
        obtain ⟨_, ⟨p, hp⟩, hb⟩ := cmdS_rest _ l _ _ _ _ _ (Nat.le_refl _) hc
        obtain ⟨hok, hon⟩ := cmdS_ok _ l on [] [] c r (Nat.le_refl _) h6 h1 h3 (by simp) hc
        have ho' : ∀ d ∈ out ++ [c], okCmd d = true := by
          intro d hd
          rcases List.mem_append.1 hd with hd | hd
          · exact ho d hd
          · simp at hd; subst hd; exact hok
        cases r with
        | nil =>
          rw [lineS_last _ _ _ hn c hc] at h
          simp at h; subst h
          exact ⟨ho', [c], rfl, by rintro a t e; simp at e; rw [← e.1, hon]⟩
        | cons a m =>
          obtain ⟨k, x⟩ := a
          rcases hb with hb | ⟨k', x', m', hb, hk1, hk3⟩
          · simp at hb
          simp at hb
          obtain ⟨⟨rfl, rfl⟩, rfl⟩ := hb
          simp at hless
          rw [lineS_more _ _ _ hn c k x m hc] at h
          split at h
          · simp at h
          · obtain ⟨g1, m2, g2, g3⟩ := ih m _ _ res (by omega) (fun y hy => h6 y (by rw [hp]; simp [hy])) (by omega) (by omega) ho' h
            exact ⟨g1, c :: m2, by rw [g2]; simp, by rintro a t e; simp at e; rw [← e.1, hon]⟩
theorem lineS_right (l : List Tok) (res : List Cmd) (h6 : ∀ x ∈ l, x.1 ≤ 6) (h : lineS [] 1 l = some res) : rightS res = true := by
  obtain ⟨h1, m, h2, h3⟩ := lineS_ok _ l [] 1 res (Nat.le_refl _) h6 (by omega) (by omega) (by simp) h
  simp at h2
  subst h2
  simp only [rightS, Bool.and_eq_true, List.all_eq_true]
  refine ⟨h1, ?_⟩
  cases res with
  | nil => rfl
  | cons c t => simp; exact h3 c t rfl
theorem toksAll_ok (l : List Cmd) (h : rightS l = true) : ∀ x ∈ toksAll l, okTok x := by
  have h1 : ∀ c : Cmd, okCmd c = true → ∀ x ∈ toksCmd c, okTok x := by
    intro c hc x hx
    simp [okCmd] at hc
    simp only [toksCmd, List.mem_append, List.mem_map, List.mem_flatMap] at hx
    rcases hx with ⟨y, _, rfl⟩ | ⟨t, ht, hx⟩
    · exact .inl rfl
    · have := hc.2 t.1 t.2 ht
      simp [okTo] at this
      simp [toksTo] at hx
      rcases hx with rfl | rfl
      · exact .inr ⟨by show 1 ≤ t.1.toNat; omega, by show t.1.toNat ≤ 6; omega, rfl⟩
      · exact .inl rfl
  cases l with
  | nil => simp [toksAll]
  | cons c l =>
    simp [rightS] at h
    intro x hx
    simp only [toksAll, List.mem_append, List.mem_flatMap] at hx
    rcases hx with hx | ⟨d, hd, hx⟩
    · exact h1 c h.1.1 x hx
    · have hdd := h.1.2 d hd
      rcases List.mem_cons.1 hx with rfl | hx
      · simp [okCmd] at hdd
        exact .inr ⟨by show 1 ≤ d.on.toNat; omega, by show d.on.toNat ≤ 6; omega, rfl⟩
      · exact h1 d hdd x hx
end Go.Proofs.YtogbdjboblfokaaDoor.X
/- Laid for this claim by the session's own program xprint.py, over the print of the kit: functions of the program as plain Lean functions, each with a proof that a call comes to what its function says, or the row of a law out of these; no condition of its own. -/
namespace Go.Proofs.YtogbdjboblfokaaDoor.XT06
open Go.Proofs.YtogbdjboblfokaaDoor.X Go.RowKit Go.Proofs.YtogbdjboblfokaaDoorW.PrintWords Go.Proofs.YtogbdjboblfokaaDoorW.PrintLast Go.Proofs.YtogbdjboblfokaaDoorW.PrintMore
attribute [local go_sem] max2_int min2_int max_two min_two max_three min_three max_four min_four   -- for this text's walks alone
set_option linter.unusedVariables false
set_option linter.unusedSimpArgs false



def errW : Option Int → Value
  | none => .nilIface
  | some c => .iface 0 (.int .i64 c)
theorem errW_none : errW none = .nilIface := rfl
theorem errW_some (c : Int) : errW (some c) = .iface 0 (.int .i64 c) := rfl

theorem info9 : (Tryd.prog.info? 9).map (fun i => (i.zero, i.size, i.bytes)) = some (some (.string ⟨#[]⟩), 1, 16) := by kernel_rfl
theorem info66 : (Tryd.prog.info? 66).map (fun i => (i.zero, i.size, i.bytes)) = some (some (.agg #[(.int .i64 0), (.string ⟨#[]⟩)]), 2, 24) := by kernel_rfl
theorem info73 : (Tryd.prog.info? 73).map (fun i => (i.zero, i.size, i.bytes)) = some (some (.agg #[(.int .i64 0), (.slice none 0 0), (.slice none 0 0)]), 3, 56) := by kernel_rfl
theorem info75 : (Tryd.prog.info? 75).map (fun i => (i.zero, i.size, i.bytes)) = some (some (.agg #[(.int .i64 0), (.string ⟨#[]⟩)]), 2, 24) := by kernel_rfl
theorem info77 : (Tryd.prog.info? 77).map (fun i => (i.zero, i.size, i.bytes)) = some (some (.agg #[(.int .i64 0), (.string ⟨#[]⟩)]), 2, 24) := by kernel_rfl
theorem info118 : (Tryd.prog.info? 118).map (fun i => (i.zero, i.size, i.bytes)) = some (some (.agg #[(.string ⟨#[]⟩), (.int .i64 0)]), 2, 24) := by kernel_rfl
-- the values' own types
def rd_L2 (xs : List (List ByteArray)) (i : Int) : (List ByteArray) := xs.getD i.toNat ([] : List ByteArray)
theorem at_L2 {w : World} {A : Option Addr} {n : Nat} {xs : List (List ByteArray)} (h : Kd.C (Kd.slice 9 Kd.string) w A n xs) (i : Int) (h0 : 0 ≤ i) (h1 : i < n) : ∃ ad A0 c0, A = some ad ∧ w.cell? (ad.add i.toNat) = some (.slice A0 (rd_L2 xs i).length c0) ∧ (rd_L2 xs i).length ≤ c0 ∧ Kd.string.C w A0 (rd_L2 xs i).length (rd_L2 xs i) := by
  obtain ⟨ad, c, e, _, hK, hc0⟩ := Kd.C_get h ([] : List ByteArray) i h0 h1
  have hc : ∀ j u, c[j]? = some u → w.cell? (ad.add (i.toNat * 1 + j)) = some u := hc0
  obtain ⟨A0, c0, rfl, l0, g0⟩ := hK
  exact ⟨ad, A0, c0, e, by have hq := hc 0 _ rfl; rwa [Nat.mul_one, Nat.add_zero] at hq, l0, g0⟩

/-! #### struct type 42 -/
structure S42 where
  f0 : Int
  f1 : ByteArray
def z42 : S42 := ⟨(0 : Int), (⟨#[]⟩ : ByteArray)⟩
def k42 : Kd S42 := Kd.iso (Kd.pair (Kd.int .i64) Kd.string) (fun x : S42 => (x.f0, x.f1))
theorem k42_open {w : World} {x : S42} {cs : List Value} (h : k42.K w x cs) : cs = [.int .i64 x.f0, .string x.f1] := by
  obtain ⟨_, _, rfl, rfl, rfl⟩ := h
  exact rfl
theorem k42_openM {w : World} {base : Nat} {ok : Nat → Prop} {x : S42} {cs : List Value} (h : k42.M w base ok x cs) : cs = [.int .i64 x.f0, .string x.f1] := by
  obtain ⟨_, _, rfl, rfl, rfl⟩ := h
  exact rfl
theorem k42_mk (w : World) (x : S42)  : k42.K w x [.int .i64 x.f0, .string x.f1] := ⟨[.int .i64 x.f0], [.string x.f1], rfl, rfl, rfl⟩
theorem k42_mkM (w : World) (base : Nat) (ok : Nat → Prop) (x : S42)  : k42.M w base ok x [.int .i64 x.f0, .string x.f1] := ⟨[.int .i64 x.f0], [.string x.f1], rfl, rfl, rfl⟩
def rd_T42 (xs : List S42) (i : Int) : S42 := xs.getD i.toNat z42
theorem at_T42 {w : World} {A : Option Addr} {n : Nat} {xs : List S42} (h : Kd.C k42 w A n xs) (i : Int) (h0 : 0 ≤ i) (h1 : i < n) : ∃ ad , A = some ad ∧ w.cell? (ad.add (i.toNat * 2)) = some (.int .i64 (rd_T42 xs i).f0) ∧ w.cell? ⟨(ad.add (i.toNat * 2)).block, (ad.add (i.toNat * 2)).off + 1, none⟩ = some (.string (rd_T42 xs i).f1) := by
  obtain ⟨ad, c, e, _, hK, hc0⟩ := Kd.C_get h z42 i h0 h1
  have hc : ∀ j u, c[j]? = some u → w.cell? (ad.add (i.toNat * 2 + j)) = some u := hc0
  obtain rfl := k42_open hK
  exact ⟨ad, e, hc 0 _ rfl, by rw [← add_field _ _ 1 (by omega)]; exact hc 1 _ rfl⟩

def rd_L4 (xs : List (List S42)) (i : Int) : (List S42) := xs.getD i.toNat ([] : List S42)
theorem at_L4 {w : World} {A : Option Addr} {n : Nat} {xs : List (List S42)} (h : Kd.C (Kd.slice 42 k42) w A n xs) (i : Int) (h0 : 0 ≤ i) (h1 : i < n) : ∃ ad A0 c0, A = some ad ∧ w.cell? (ad.add i.toNat) = some (.slice A0 (rd_L4 xs i).length c0) ∧ (rd_L4 xs i).length ≤ c0 ∧ k42.C w A0 (rd_L4 xs i).length (rd_L4 xs i) := by
  obtain ⟨ad, c, e, _, hK, hc0⟩ := Kd.C_get h ([] : List S42) i h0 h1
  have hc : ∀ j u, c[j]? = some u → w.cell? (ad.add (i.toNat * 1 + j)) = some u := hc0
  obtain ⟨A0, c0, rfl, l0, g0⟩ := hK
  exact ⟨ad, A0, c0, e, by have hq := hc 0 _ rfl; rwa [Nat.mul_one, Nat.add_zero] at hq, l0, g0⟩

/-! #### struct type 40 -/
structure S40 where
  f0 : Int
  f1 : (List ByteArray)
  f2 : (List S42)
def z40 : S40 := ⟨(0 : Int), ([] : List ByteArray), ([] : List S42)⟩
def k40 : Kd S40 := Kd.iso (Kd.pair (Kd.int .i64) (Kd.pair (Kd.slice 9 Kd.string) (Kd.slice 42 k42))) (fun x : S40 => (x.f0, x.f1, x.f2))
theorem k40_open {w : World} {x : S40} {cs : List Value} (h : k40.K w x cs) : ∃ A1 c1 A2 c2, cs = [.int .i64 x.f0, .slice A1 x.f1.length c1, .slice A2 x.f2.length c2] ∧ x.f1.length ≤ c1 ∧ Kd.string.C w A1 x.f1.length x.f1 ∧ x.f2.length ≤ c2 ∧ k42.C w A2 x.f2.length x.f2 := by
  obtain ⟨_, _, rfl, rfl, ⟨_, _, rfl, ⟨A1, c1, rfl, l1, g1⟩, ⟨A2, c2, rfl, l2, g2⟩⟩⟩ := h
  exact ⟨A1, c1, A2, c2, rfl, l1, g1, l2, g2⟩
theorem k40_openM {w : World} {base : Nat} {ok : Nat → Prop} {x : S40} {cs : List Value} (h : k40.M w base ok x cs) : ∃ v1 v2, cs = [.int .i64 x.f0, v1, v2] ∧ Kd.string.R 9 w base ok v1 x.f1 ∧ k42.R 42 w base ok v2 x.f2 := by
  obtain ⟨_, _, rfl, rfl, ⟨_, _, rfl, ⟨v1, rfl, g1⟩, ⟨v2, rfl, g2⟩⟩⟩ := h
  exact ⟨v1, v2, rfl, g1, g2⟩
theorem k40_mk (w : World) (x : S40) {A1 : Option Addr} {c1 : Nat} (l1 : x.f1.length ≤ c1) (g1 : Kd.string.C w A1 x.f1.length x.f1) {A2 : Option Addr} {c2 : Nat} (l2 : x.f2.length ≤ c2) (g2 : k42.C w A2 x.f2.length x.f2) : k40.K w x [.int .i64 x.f0, .slice A1 x.f1.length c1, .slice A2 x.f2.length c2] := ⟨[.int .i64 x.f0], [.slice A1 x.f1.length c1, .slice A2 x.f2.length c2], rfl, rfl, ⟨[.slice A1 x.f1.length c1], [.slice A2 x.f2.length c2], rfl, ⟨A1, c1, rfl, l1, g1⟩, ⟨A2, c2, rfl, l2, g2⟩⟩⟩
theorem k40_mkM (w : World) (base : Nat) (ok : Nat → Prop) (x : S40) {v1 : Value} (g1 : Kd.string.R 9 w base ok v1 x.f1) {v2 : Value} (g2 : k42.R 42 w base ok v2 x.f2) : k40.M w base ok x [.int .i64 x.f0, v1, v2] := ⟨[.int .i64 x.f0], [v1, v2], rfl, rfl, ⟨[v1], [v2], rfl, ⟨v1, rfl, g1⟩, ⟨v2, rfl, g2⟩⟩⟩
def rd_T40 (xs : List S40) (i : Int) : S40 := xs.getD i.toNat z40
theorem at_T40 {w : World} {A : Option Addr} {n : Nat} {xs : List S40} (h : Kd.C k40 w A n xs) (i : Int) (h0 : 0 ≤ i) (h1 : i < n) : ∃ ad A1 c1 A2 c2, A = some ad ∧ w.cell? (ad.add (i.toNat * 3)) = some (.int .i64 (rd_T40 xs i).f0) ∧ w.cell? ⟨(ad.add (i.toNat * 3)).block, (ad.add (i.toNat * 3)).off + 1, none⟩ = some (.slice A1 (rd_T40 xs i).f1.length c1) ∧ w.cell? ⟨(ad.add (i.toNat * 3)).block, (ad.add (i.toNat * 3)).off + 2, none⟩ = some (.slice A2 (rd_T40 xs i).f2.length c2) ∧ (rd_T40 xs i).f1.length ≤ c1 ∧ Kd.string.C w A1 (rd_T40 xs i).f1.length (rd_T40 xs i).f1 ∧ (rd_T40 xs i).f2.length ≤ c2 ∧ k42.C w A2 (rd_T40 xs i).f2.length (rd_T40 xs i).f2 := by
  obtain ⟨ad, c, e, _, hK, hc0⟩ := Kd.C_get h z40 i h0 h1
  have hc : ∀ j u, c[j]? = some u → w.cell? (ad.add (i.toNat * 3 + j)) = some u := hc0
  obtain ⟨A1, c1, A2, c2, rfl, l1, g1, l2, g2⟩ := k40_open hK
  exact ⟨ad, A1, c1, A2, c2, e, hc 0 _ rfl, by rw [← add_field _ _ 1 (by omega)]; exact hc 1 _ rfl, by rw [← add_field _ _ 2 (by omega)]; exact hc 2 _ rfl, l1, g1, l2, g2⟩

/-! #### struct type 118 -/
structure S118 where
  f0 : ByteArray
  f1 : Int
def z118 : S118 := ⟨(⟨#[]⟩ : ByteArray), (0 : Int)⟩
def k118 : Kd S118 := Kd.iso (Kd.pair Kd.string (Kd.int .i64)) (fun x : S118 => (x.f0, x.f1))
theorem k118_open {w : World} {x : S118} {cs : List Value} (h : k118.K w x cs) : cs = [.string x.f0, .int .i64 x.f1] := by
  obtain ⟨_, _, rfl, rfl, rfl⟩ := h
  exact rfl
theorem k118_openM {w : World} {base : Nat} {ok : Nat → Prop} {x : S118} {cs : List Value} (h : k118.M w base ok x cs) : cs = [.string x.f0, .int .i64 x.f1] := by
  obtain ⟨_, _, rfl, rfl, rfl⟩ := h
  exact rfl
theorem k118_mk (w : World) (x : S118)  : k118.K w x [.string x.f0, .int .i64 x.f1] := ⟨[.string x.f0], [.int .i64 x.f1], rfl, rfl, rfl⟩
theorem k118_mkM (w : World) (base : Nat) (ok : Nat → Prop) (x : S118)  : k118.M w base ok x [.string x.f0, .int .i64 x.f1] := ⟨[.string x.f0], [.int .i64 x.f1], rfl, rfl, rfl⟩
def rd_T118 (xs : List S118) (i : Int) : S118 := xs.getD i.toNat z118
theorem at_T118 {w : World} {A : Option Addr} {n : Nat} {xs : List S118} (h : Kd.C k118 w A n xs) (i : Int) (h0 : 0 ≤ i) (h1 : i < n) : ∃ ad , A = some ad ∧ w.cell? (ad.add (i.toNat * 2)) = some (.string (rd_T118 xs i).f0) ∧ w.cell? ⟨(ad.add (i.toNat * 2)).block, (ad.add (i.toNat * 2)).off + 1, none⟩ = some (.int .i64 (rd_T118 xs i).f1) := by
  obtain ⟨ad, c, e, _, hK, hc0⟩ := Kd.C_get h z118 i h0 h1
  have hc : ∀ j u, c[j]? = some u → w.cell? (ad.add (i.toNat * 2 + j)) = some u := hc0
  obtain rfl := k118_open hK
  exact ⟨ad, e, hc 0 _ rfl, by rw [← add_field _ _ 1 (by omega)]; exact hc 1 _ rfl⟩

/-! #### struct type 66 -/
structure S66 where
  f0 : Int
  f1 : ByteArray
def z66 : S66 := ⟨(0 : Int), (⟨#[]⟩ : ByteArray)⟩
def k66 : Kd S66 := Kd.iso (Kd.pair (Kd.int .i64) Kd.string) (fun x : S66 => (x.f0, x.f1))
theorem k66_open {w : World} {x : S66} {cs : List Value} (h : k66.K w x cs) : cs = [.int .i64 x.f0, .string x.f1] := by
  obtain ⟨_, _, rfl, rfl, rfl⟩ := h
  exact rfl
theorem k66_openM {w : World} {base : Nat} {ok : Nat → Prop} {x : S66} {cs : List Value} (h : k66.M w base ok x cs) : cs = [.int .i64 x.f0, .string x.f1] := by
  obtain ⟨_, _, rfl, rfl, rfl⟩ := h
  exact rfl
theorem k66_mk (w : World) (x : S66)  : k66.K w x [.int .i64 x.f0, .string x.f1] := ⟨[.int .i64 x.f0], [.string x.f1], rfl, rfl, rfl⟩
theorem k66_mkM (w : World) (base : Nat) (ok : Nat → Prop) (x : S66)  : k66.M w base ok x [.int .i64 x.f0, .string x.f1] := ⟨[.int .i64 x.f0], [.string x.f1], rfl, rfl, rfl⟩
def rd_T66 (xs : List S66) (i : Int) : S66 := xs.getD i.toNat z66
theorem at_T66 {w : World} {A : Option Addr} {n : Nat} {xs : List S66} (h : Kd.C k66 w A n xs) (i : Int) (h0 : 0 ≤ i) (h1 : i < n) : ∃ ad , A = some ad ∧ w.cell? (ad.add (i.toNat * 2)) = some (.int .i64 (rd_T66 xs i).f0) ∧ w.cell? ⟨(ad.add (i.toNat * 2)).block, (ad.add (i.toNat * 2)).off + 1, none⟩ = some (.string (rd_T66 xs i).f1) := by
  obtain ⟨ad, c, e, _, hK, hc0⟩ := Kd.C_get h z66 i h0 h1
  have hc : ∀ j u, c[j]? = some u → w.cell? (ad.add (i.toNat * 2 + j)) = some u := hc0
  obtain rfl := k66_open hK
  exact ⟨ad, e, hc 0 _ rfl, by rw [← add_field _ _ 1 (by omega)]; exact hc 1 _ rfl⟩

/-! #### struct type 75 -/
structure S75 where
  f0 : Int
  f1 : ByteArray
def z75 : S75 := ⟨(0 : Int), (⟨#[]⟩ : ByteArray)⟩
def k75 : Kd S75 := Kd.iso (Kd.pair (Kd.int .i64) Kd.string) (fun x : S75 => (x.f0, x.f1))
theorem k75_open {w : World} {x : S75} {cs : List Value} (h : k75.K w x cs) : cs = [.int .i64 x.f0, .string x.f1] := by
  obtain ⟨_, _, rfl, rfl, rfl⟩ := h
  exact rfl
theorem k75_openM {w : World} {base : Nat} {ok : Nat → Prop} {x : S75} {cs : List Value} (h : k75.M w base ok x cs) : cs = [.int .i64 x.f0, .string x.f1] := by
  obtain ⟨_, _, rfl, rfl, rfl⟩ := h
  exact rfl
theorem k75_mk (w : World) (x : S75)  : k75.K w x [.int .i64 x.f0, .string x.f1] := ⟨[.int .i64 x.f0], [.string x.f1], rfl, rfl, rfl⟩
theorem k75_mkM (w : World) (base : Nat) (ok : Nat → Prop) (x : S75)  : k75.M w base ok x [.int .i64 x.f0, .string x.f1] := ⟨[.int .i64 x.f0], [.string x.f1], rfl, rfl, rfl⟩
def rd_T75 (xs : List S75) (i : Int) : S75 := xs.getD i.toNat z75
theorem at_T75 {w : World} {A : Option Addr} {n : Nat} {xs : List S75} (h : Kd.C k75 w A n xs) (i : Int) (h0 : 0 ≤ i) (h1 : i < n) : ∃ ad , A = some ad ∧ w.cell? (ad.add (i.toNat * 2)) = some (.int .i64 (rd_T75 xs i).f0) ∧ w.cell? ⟨(ad.add (i.toNat * 2)).block, (ad.add (i.toNat * 2)).off + 1, none⟩ = some (.string (rd_T75 xs i).f1) := by
  obtain ⟨ad, c, e, _, hK, hc0⟩ := Kd.C_get h z75 i h0 h1
  have hc : ∀ j u, c[j]? = some u → w.cell? (ad.add (i.toNat * 2 + j)) = some u := hc0
  obtain rfl := k75_open hK
  exact ⟨ad, e, hc 0 _ rfl, by rw [← add_field _ _ 1 (by omega)]; exact hc 1 _ rfl⟩

/-! #### struct type 77 -/
structure S77 where
  f0 : Int
  f1 : ByteArray
def z77 : S77 := ⟨(0 : Int), (⟨#[]⟩ : ByteArray)⟩
def k77 : Kd S77 := Kd.iso (Kd.pair (Kd.int .i64) Kd.string) (fun x : S77 => (x.f0, x.f1))
theorem k77_open {w : World} {x : S77} {cs : List Value} (h : k77.K w x cs) : cs = [.int .i64 x.f0, .string x.f1] := by
  obtain ⟨_, _, rfl, rfl, rfl⟩ := h
  exact rfl
theorem k77_openM {w : World} {base : Nat} {ok : Nat → Prop} {x : S77} {cs : List Value} (h : k77.M w base ok x cs) : cs = [.int .i64 x.f0, .string x.f1] := by
  obtain ⟨_, _, rfl, rfl, rfl⟩ := h
  exact rfl
theorem k77_mk (w : World) (x : S77)  : k77.K w x [.int .i64 x.f0, .string x.f1] := ⟨[.int .i64 x.f0], [.string x.f1], rfl, rfl, rfl⟩
theorem k77_mkM (w : World) (base : Nat) (ok : Nat → Prop) (x : S77)  : k77.M w base ok x [.int .i64 x.f0, .string x.f1] := ⟨[.int .i64 x.f0], [.string x.f1], rfl, rfl, rfl⟩
def rd_T77 (xs : List S77) (i : Int) : S77 := xs.getD i.toNat z77
theorem at_T77 {w : World} {A : Option Addr} {n : Nat} {xs : List S77} (h : Kd.C k77 w A n xs) (i : Int) (h0 : 0 ≤ i) (h1 : i < n) : ∃ ad , A = some ad ∧ w.cell? (ad.add (i.toNat * 2)) = some (.int .i64 (rd_T77 xs i).f0) ∧ w.cell? ⟨(ad.add (i.toNat * 2)).block, (ad.add (i.toNat * 2)).off + 1, none⟩ = some (.string (rd_T77 xs i).f1) := by
  obtain ⟨ad, c, e, _, hK, hc0⟩ := Kd.C_get h z77 i h0 h1
  have hc : ∀ j u, c[j]? = some u → w.cell? (ad.add (i.toNat * 2 + j)) = some u := hc0
  obtain rfl := k77_open hK
  exact ⟨ad, e, hc 0 _ rfl, by rw [← add_field _ _ 1 (by omega)]; exact hc 1 _ rfl⟩

def rd_L10 (xs : List (List S77)) (i : Int) : (List S77) := xs.getD i.toNat ([] : List S77)
theorem at_L10 {w : World} {A : Option Addr} {n : Nat} {xs : List (List S77)} (h : Kd.C (Kd.slice 77 k77) w A n xs) (i : Int) (h0 : 0 ≤ i) (h1 : i < n) : ∃ ad A0 c0, A = some ad ∧ w.cell? (ad.add i.toNat) = some (.slice A0 (rd_L10 xs i).length c0) ∧ (rd_L10 xs i).length ≤ c0 ∧ k77.C w A0 (rd_L10 xs i).length (rd_L10 xs i) := by
  obtain ⟨ad, c, e, _, hK, hc0⟩ := Kd.C_get h ([] : List S77) i h0 h1
  have hc : ∀ j u, c[j]? = some u → w.cell? (ad.add (i.toNat * 1 + j)) = some u := hc0
  obtain ⟨A0, c0, rfl, l0, g0⟩ := hK
  exact ⟨ad, A0, c0, e, by have hq := hc 0 _ rfl; rwa [Nat.mul_one, Nat.add_zero] at hq, l0, g0⟩

/-! #### struct type 73 -/
structure S73 where
  f0 : Int
  f1 : (List ByteArray)
  f2 : (List S77)
def z73 : S73 := ⟨(0 : Int), ([] : List ByteArray), ([] : List S77)⟩
def k73 : Kd S73 := Kd.iso (Kd.pair (Kd.int .i64) (Kd.pair (Kd.slice 9 Kd.string) (Kd.slice 77 k77))) (fun x : S73 => (x.f0, x.f1, x.f2))
theorem k73_open {w : World} {x : S73} {cs : List Value} (h : k73.K w x cs) : ∃ A1 c1 A2 c2, cs = [.int .i64 x.f0, .slice A1 x.f1.length c1, .slice A2 x.f2.length c2] ∧ x.f1.length ≤ c1 ∧ Kd.string.C w A1 x.f1.length x.f1 ∧ x.f2.length ≤ c2 ∧ k77.C w A2 x.f2.length x.f2 := by
  obtain ⟨_, _, rfl, rfl, ⟨_, _, rfl, ⟨A1, c1, rfl, l1, g1⟩, ⟨A2, c2, rfl, l2, g2⟩⟩⟩ := h
  exact ⟨A1, c1, A2, c2, rfl, l1, g1, l2, g2⟩
theorem k73_openM {w : World} {base : Nat} {ok : Nat → Prop} {x : S73} {cs : List Value} (h : k73.M w base ok x cs) : ∃ v1 v2, cs = [.int .i64 x.f0, v1, v2] ∧ Kd.string.R 9 w base ok v1 x.f1 ∧ k77.R 77 w base ok v2 x.f2 := by
  obtain ⟨_, _, rfl, rfl, ⟨_, _, rfl, ⟨v1, rfl, g1⟩, ⟨v2, rfl, g2⟩⟩⟩ := h
  exact ⟨v1, v2, rfl, g1, g2⟩
theorem k73_mk (w : World) (x : S73) {A1 : Option Addr} {c1 : Nat} (l1 : x.f1.length ≤ c1) (g1 : Kd.string.C w A1 x.f1.length x.f1) {A2 : Option Addr} {c2 : Nat} (l2 : x.f2.length ≤ c2) (g2 : k77.C w A2 x.f2.length x.f2) : k73.K w x [.int .i64 x.f0, .slice A1 x.f1.length c1, .slice A2 x.f2.length c2] := ⟨[.int .i64 x.f0], [.slice A1 x.f1.length c1, .slice A2 x.f2.length c2], rfl, rfl, ⟨[.slice A1 x.f1.length c1], [.slice A2 x.f2.length c2], rfl, ⟨A1, c1, rfl, l1, g1⟩, ⟨A2, c2, rfl, l2, g2⟩⟩⟩
theorem k73_mkM (w : World) (base : Nat) (ok : Nat → Prop) (x : S73) {v1 : Value} (g1 : Kd.string.R 9 w base ok v1 x.f1) {v2 : Value} (g2 : k77.R 77 w base ok v2 x.f2) : k73.M w base ok x [.int .i64 x.f0, v1, v2] := ⟨[.int .i64 x.f0], [v1, v2], rfl, rfl, ⟨[v1], [v2], rfl, ⟨v1, rfl, g1⟩, ⟨v2, rfl, g2⟩⟩⟩
def rd_T73 (xs : List S73) (i : Int) : S73 := xs.getD i.toNat z73
theorem at_T73 {w : World} {A : Option Addr} {n : Nat} {xs : List S73} (h : Kd.C k73 w A n xs) (i : Int) (h0 : 0 ≤ i) (h1 : i < n) : ∃ ad A1 c1 A2 c2, A = some ad ∧ w.cell? (ad.add (i.toNat * 3)) = some (.int .i64 (rd_T73 xs i).f0) ∧ w.cell? ⟨(ad.add (i.toNat * 3)).block, (ad.add (i.toNat * 3)).off + 1, none⟩ = some (.slice A1 (rd_T73 xs i).f1.length c1) ∧ w.cell? ⟨(ad.add (i.toNat * 3)).block, (ad.add (i.toNat * 3)).off + 2, none⟩ = some (.slice A2 (rd_T73 xs i).f2.length c2) ∧ (rd_T73 xs i).f1.length ≤ c1 ∧ Kd.string.C w A1 (rd_T73 xs i).f1.length (rd_T73 xs i).f1 ∧ (rd_T73 xs i).f2.length ≤ c2 ∧ k77.C w A2 (rd_T73 xs i).f2.length (rd_T73 xs i).f2 := by
  obtain ⟨ad, c, e, _, hK, hc0⟩ := Kd.C_get h z73 i h0 h1
  have hc : ∀ j u, c[j]? = some u → w.cell? (ad.add (i.toNat * 3 + j)) = some u := hc0
  obtain ⟨A1, c1, A2, c2, rfl, l1, g1, l2, g2⟩ := k73_open hK
  exact ⟨ad, A1, c1, A2, c2, e, hc 0 _ rfl, by rw [← add_field _ _ 1 (by omega)]; exact hc 1 _ rfl, by rw [← add_field _ _ 2 (by omega)]; exact hc 2 _ rfl, l1, g1, l2, g2⟩

end Go.Proofs.YtogbdjboblfokaaDoor.XT06
/- strings.IndexAny, ContainsAny at any text, of a set of ASCII bytes, as plain Lean functions with contracts. Conditions: texts of fewer than 4294967281 bytes; the set's bytes below 128. -/
namespace Go.Proofs.YtogbdjboblfokaaDoor.X
open Go.RowKit Go.Proofs.YtogbdjboblfokaaDoorW.PrintWords

theorem decode_bytes (s : ByteArray) (pos : Nat) (h : pos < s.size) (ha : 128 ≤ (s[pos]'h).toNat) :
    1 ≤ (Utf8.decode s pos).2 ∧ ∀ j, pos ≤ j → j < pos + (Utf8.decode s pos).2 → ∃ hj : j < s.size, 128 ≤ (s[j]'hj).toNat := by
  have h0 : s.get! (pos + 0) = s[pos]'h := get_at s pos h
  have key : ∀ k, (decide (pos + k < s.size) && (s.get! (pos + k)).toNat / 64 == 2) = true → ∃ hj : pos + k < s.size, 128 ≤ (s[pos + k]'hj).toNat := by
    intro k hk
    simp only [Bool.and_eq_true, decide_eq_true_eq, beq_iff_eq] at hk
    refine ⟨hk.1, ?_⟩
    have e : s.get! (pos + k) = s[pos + k]'hk.1 := get_at s (pos + k) hk.1
    rw [e] at hk
    omega
  have base : ∃ hj : pos < s.size, 128 ≤ (s[pos]'hj).toNat := ⟨h, ha⟩
  have one : 1 ≤ 1 ∧ ∀ j, pos ≤ j → j < pos + 1 → ∃ hj : j < s.size, 128 ≤ (s[j]'hj).toNat := ⟨Nat.le_refl _, fun j h1 h2 => by
    obtain rfl : j = pos := by omega
    exact base⟩
  simp only [Utf8.decode, h0]
  split
  · omega
  · split
    · rename_i hc
      simp only [Bool.and_eq_true] at hc
      have k1 := key 1 (by simpa using hc.2)
      split
      · refine ⟨by omega, fun j h1 h2 => ?_⟩
        rcases (by omega : j = pos ∨ j = pos + 1) with rfl | rfl
        · exact base
        · exact k1
      · exact one
    · split
      · rename_i hc
        simp only [Bool.and_eq_true] at hc
        have k1 := key 1 (by simpa using hc.1.2)
        have k2 := key 2 (by simpa using hc.2)
        split
        · refine ⟨by omega, fun j h1 h2 => ?_⟩
          rcases (by omega : j = pos ∨ j = pos + 1 ∨ j = pos + 2) with rfl | rfl | rfl
          · exact base
          · exact k1
          · exact k2
        · exact one
      · split
        · rename_i hc
          simp only [Bool.and_eq_true] at hc
          have k1 := key 1 (by simpa using hc.1.1.2)
          have k2 := key 2 (by simpa using hc.1.2)
          have k3 := key 3 (by simpa using hc.2)
          split
          · refine ⟨by omega, fun j h1 h2 => ?_⟩
            rcases (by omega : j = pos ∨ j = pos + 1 ∨ j = pos + 2 ∨ j = pos + 3) with rfl | rfl | rfl | rfl
            · exact base
            · exact k1
            · exact k2
            · exact k3
          · exact one
        · exact one

theorem iterAt_heap (w : World) (k : Nat) (s : ByteArray) (p : Nat) (h : k < w.heap.size) : (w.iterAt k s p).heap[k]? = some (.stringIter s p) := by
  simp [World.iterAt, h]
theorem iterAt_below {base : Nat} {w W : World} {k : Nat} (h : Below base w W) (hk : base ≤ k) (s : ByteArray) (p : Nat) : Below base w (W.iterAt k s p) :=
  ⟨h.os, h.tape, h.output, by have := h.size; simpa [World.iterAt] using this, fun j hj => by
    rw [← h.block j hj]
    simp only [World.iterAt, Array.getElem?_setIfInBounds, if_neg (show ¬ k = j by omega)]⟩
theorem data_get (s : ByteArray) (j : Nat) (h : j < s.size) : s.data.toList[j]? = some (s[j]'h) := Lib.data_getElem? s j h

theorem quiet_add_same {P : Program} {f : FuncId} {args : Array Value} {w : World} {a n : Nat} {v : Value}
    (h : Calls P f args (w.drewN (a + n)) fun e w' => e = .returned v ∧ w' = w.drewN (a + n)) :
    Calls P f args (w.drewN (a + n)) fun e w'' => e = .returned v ∧ ∃ m, w'' = w.drewN (a + m) :=
  h.mono fun _ _ ⟨he, hm⟩ => ⟨he, n, hm⟩
theorem validRune_yes (r : Int) (w : World) (h : Lib.validRune r = true) : Calls Tryd.prog 114 #[.int .i32 r] w fun e w' => e = .returned (.bool true) ∧ w' = w := by
  rw [← h]; exact Tryd.utf8_ValidRune r w
theorem indexByte_no (t : ByteArray) (c : Int) (w : World) (h : ∀ b ∈ t.data.toList, b.toNat < 128) (hc : 128 ≤ c) (hc' : c < 256) :
    Calls Tryd.prog 40 #[.string t, .int .u8 c] w fun e w' => e = .returned (.int .i64 (-1)) ∧ w' = w := by
  have e : Lib.indexByte t.data.toList c.toNat.toUInt8 = -1 := by
    rcases Int.lt_or_le (Lib.indexByte t.data.toList c.toNat.toUInt8) 0 with hlt | hge
    · have := Lib.indexAny_ge [c.toNat.toUInt8] t.data.toList
      rw [Lib.indexAny_one] at this
      omega
    · have hcon := Lib.contains_iff_indexByte t.data.toList c.toNat.toUInt8
      rw [decide_eq_true hge] at hcon
      have hm := h _ (List.contains_iff_mem.1 hcon)
      rw [show (c.toNat.toUInt8).toNat = c.toNat % 256 from rfl] at hm
      omega
  rw [← e]; exact Tryd.strings_IndexByte t c w

set_option maxRecDepth 100000 in
set_option maxHeartbeats 2000000 in
/-- strings.IndexRune: no rune beyond ASCII stands in a text of ASCII bytes. -/
theorem indexRune_high (s : ByteArray) (r : Int) (w : World) (h0 : 128 ≤ r) (h1 : r ≤ 2147483647) (_hs : s.size ≤ 4294967281) (ha : ∀ (j : Nat) b, s.data.toList[j]? = some b → b.toNat < 128) :
    Calls Tryd.prog 107 #[.string s, .int .i32 r] w fun e w' => e = .returned (.int .i64 (-1)) ∧ Below w.heap.size w w' := by
  have hmem : ∀ b ∈ s.data.toList, b.toNat < 128 := fun b hb => by
    obtain ⟨j, hj, rfl⟩ := List.getElem_of_mem hb
    exact ha j _ (List.getElem?_eq_getElem hj)
  have HA : Aside0 (∀ (j : Nat) b, s.data.toList[j]? = some b → b.toNat < 128) := ⟨ha⟩
  have HM : Aside0 (∀ b ∈ s.data.toList, b.toNat < 128) := ⟨hmem⟩
  clear ha hmem
  by_cases he : r = 65533
  · subst he
    go_enter Tryd.func107, Tryd.ntmps107
    go_wp2
    go_loopg [5, 6] s.size (fun g _ _ wx => ∃ i : Nat, i + g = s.size ∧ wx = w.iter s i)
    case atStart => exact ⟨0, by omega, rfl⟩
    case round =>
      obtain ⟨i, hig, rfl⟩ := hrel
      cases gk with
      | zero =>
        obtain rfl : i = s.size := by omega
        have hnx := run_next_end (P := Tryd.prog) w s s.size
        go_wp2
        go_ret
        exact ⟨rfl, (Below.refl _ w).alloc (Nat.le_refl _) _⟩
      | succ g =>
        have hi : i < s.size := by omega
        have hx128 : (s[i]'hi).toNat < 128 := HA.out i _ (data_get s i hi)
        have hnx := fun ty => run_next_ascii (P := Tryd.prog) w s i ty hi hx128
        have hne : (((s[i]'hi).toNat : Int) == 65533) = false := beq_false_of_ne (by omega)
        go_wp2
        go_roundg g
        case measure => omega
        case rel => exact ⟨i + 1, by omega, rfl⟩
  · have hne : (r == 65533) = false := beq_false_of_ne he
    have hlt : decide (r < 128) = false := decide_eq_false (by omega)
    have hge : decide (0 ≤ r) = true := decide_eq_true (by omega)
    cases hv : Lib.validRune r with
    | false =>
      go_enter Tryd.func107, Tryd.ntmps107
      go_wp2_with (go_at_call 114; refine (Tryd.utf8_ValidRune _ _).mono ?_; rintro e w' ⟨rfl, rfl⟩)
      go_ret
      exact ⟨rfl, Below.refl _ _⟩
    | true =>
      have hval : Utf8.valid r = true := by
        rw [validRune_eq]; exact hv
      obtain ⟨f2, f4, f8⟩ := encode_facts r hval h0
      obtain ⟨rs, hrs⟩ : ∃ rs, Utf8.encode r = rs := ⟨_, rfl⟩
      rw [hrs] at f2 f4 f8
      obtain ⟨x, hx⟩ : ∃ x : UInt8, rs[rs.size - 1]'(by omega) = x := ⟨_, rfl⟩
      have hx8 : 128 ≤ x.toNat := by rw [← hx]; exact f8 (by omega)
      obtain ⟨n, hn⟩ : ∃ n, rs.size = n + 1 := ⟨rs.size - 1, by omega⟩
      have hnx : n < rs.size := by omega
      have hrx : rs[n]'hnx = x := by rw [← hx]; congr 1; omega
      have hn4 : n ≤ 3 := by omega
      clear hx f2 f4 f8 hval
      go_enter Tryd.func107, Tryd.ntmps107
      go_wp2_with (go_at_call 114; refine (validRune_yes _ _ (by assumption)).mono ?_; rintro e w' ⟨rfl, rfl⟩)
      go_step3
      go_wp2
      go_loop [9] (fun i => i = .int .i64 (n : Int)) (fun _ => 0)
      case atStart => rfl
      case round =>
        obtain rfl := hrel
        by_cases hns : n < s.size
        · have hb1 : (s[n]'hns).toNat < 128 := HA.out n _ (data_get s n hns)
          have hneq : (((s[n]'hns).toNat : Int) != (x.toNat : Int)) = true := by rw [bne_iff_ne]; omega
          have hx256 := x.toNat_lt
          go_wp2
          go_step3
          go_wp2
          go_quiet (fail)
          go_wp2
          have hw : IntKind.i64.wrap ((n : Int) + 1) = (n : Int) + 1 := wrap_small _ (by omega) (by omega)
          have hw3 : (n : Int) < (n : Int) + 1 := by omega
          have hw0 : 0 ≤ (n : Int) + 1 := by omega
          have hw1 : ((n : Int) + 1).toNat = n + 1 := by omega
          have hw2 : (n : Int) + 1 ≤ (s.size : Int) := by omega
          go_quiet ((go_at_call 40; exact quiet_add_same (indexByte_no _ _ _ (fun b hb => HM.out b (mem_extract hb)) (by omega) (by omega))))
          go_wp2
          rw [Exit.noGoto_ret]
          dsimp only [Exit.inBlock]
          rename_i Q7 _ _ _ _ _ _
          simp only [Q7]
          simp only [Exit.then, Exit.noGoto, Exit.inBlock]
          go_ret
          exact ⟨rfl, pw_below_drewN (Below.refl _ _) _⟩
        · go_wp2
          go_ret
          exact ⟨rfl, Below.refl _ _⟩

set_option maxRecDepth 100000 in
set_option maxHeartbeats 4000000 in
/-- strings.IndexAny at a short text. -/
theorem indexAny_short (s chars : ByteArray) (w : World) (h2 : 2 ≤ chars.size) (h8 : s.size ≤ 8) (hcs : chars.size ≤ 4294967281) (hac : ∀ (j : Nat) b, chars.data.toList[j]? = some b → b.toNat < 128) :
    Calls Tryd.prog 97 #[.string s, .string chars] w fun e w' => e = .returned (.int .i64 (Lib.indexAny s.data.toList chars.data.toList)) ∧ Below w.heap.size w w' := by
  have HA : Aside0 (∀ (j : Nat) b, chars.data.toList[j]? = some b → b.toNat < 128) := ⟨hac⟩
  have hnc : ∀ c : UInt8, 128 ≤ c.toNat → chars.data.toList.contains c = false := by
    intro c hc
    rw [Bool.eq_false_iff]
    intro h
    obtain ⟨j, hj, e⟩ := List.getElem_of_mem (List.contains_iff_mem.1 h)
    have := hac j c (by rw [List.getElem?_eq_getElem hj, e])
    omega
  have HC : Aside0 (∀ c : UInt8, 128 ≤ c.toNat → chars.data.toList.contains c = false) := ⟨hnc⟩
  clear hac hnc
  have hemp : chars.toList.isEmpty = false := by
    rw [Lib.toList_data]
    cases h : chars.data.toList with
    | nil => have := Lib.size_eq chars; rw [h, List.length_nil] at this; omega
    | cons _ _ => rfl
  have hn1 : ((chars.size : Int) == 1) = false := beq_eq_false_iff_ne.2 (by omega)
  have h8z : decide ((8 : Int) < (s.size : Int)) = false := decide_eq_false (by omega)
  go_enter Tryd.func97, Tryd.ntmps97
  go_wp2_with (go_at_call 108; refine (Tryd.strings_shouldUseASCIISet _ _).mono ?_; rintro e w' ⟨rfl, hw⟩; rw [hw, h8z])
  go_loopg [9, 10] s.size (fun g _ _ wx => ∃ i : Nat, i ≤ s.size ∧ s.size - i = g ∧ Aside0 (wx.heap[w.heap.size]? = some (.stringIter s i)) ∧ Aside0 (Below w.heap.size w wx) ∧ Aside0 (Lib.NoAny s.data.toList chars.data.toList i))
  case atStart => exact ⟨0, by omega, by omega, ⟨World.iter_heap _ _ _⟩, ⟨(Below.refl _ w).alloc (Nat.le_refl _) _⟩, ⟨Lib.NoAny.zero _ _⟩⟩
  case round =>
    obtain ⟨i, hi, hig, HI, HB, HN⟩ := hrel
    have hksz : w.heap.size < wr.heap.size := (Array.getElem?_eq_some_iff.1 HI.out).1
    have HSz := Aside0.mk hksz
    by_cases hlt : i < s.size
    · obtain ⟨x, hx⟩ : ∃ x : UInt8, s[i]'hlt = x := ⟨_, rfl⟩
      have hxl := Aside0.mk (data_get s i hlt)
      rw [hx] at hxl
      by_cases hx128 : x.toNat < 128
      · have hnx := fun ty => Lib.run_next_ascii_at (P := Tryd.prog) wr w.heap.size s i ty HI.out hlt (by rw [hx]; exact hx128)
        rw [hx] at hnx
        clear hx
        obtain ⟨W1, hW1⟩ : ∃ W1, wr.iterAt w.heap.size s (i + 1) = W1 := ⟨_, rfl⟩
        rw [hW1] at hnx
        have HW := Aside0.mk hW1
        clear hW1 hksz
        have hcon := Lib.contains_iff_indexByte chars.data.toList x
        have hback : ((x.toNat : Int)).toNat.toUInt8 = x := by simp
        have hI1 : W1.heap[w.heap.size]? = some (.stringIter s (i + 1)) := by rw [← HW.out]; exact iterAt_heap _ _ _ _ HSz.out
        have hB1 : Below w.heap.size w W1 := by rw [← HW.out]; exact iterAt_below HB.out (Nat.le_refl _) _ _
        replace hI1 := Aside0.mk hI1; replace hB1 := Aside0.mk hB1
        cases hin : chars.data.toList.contains x
        · rw [hin] at hcon
          have hneg : ¬ ((0 : Int) ≤ Lib.indexByte chars.data.toList x) := of_decide_eq_false hcon.symm
          clear hcon
          go_wp2_with (go_at_call 107; refine (Tryd.strings_IndexRune_ascii _ _ _ (by omega) (by omega)).mono ?_; rintro e w' ⟨rfl, hw⟩; rw [hw, hback])
          go_roundg (s.size - (i + 1))
          case measure => omega
          case rel => exact ⟨i + 1, by omega, rfl, hI1, hB1, ⟨HN.out.succ hxl.out hin⟩⟩
        · rw [hin] at hcon
          have hge : (0 : Int) ≤ Lib.indexByte chars.data.toList x := of_decide_eq_true hcon.symm
          clear hcon
          go_wp2_with (go_at_call 107; refine (Tryd.strings_IndexRune_ascii _ _ _ (by omega) (by omega)).mono ?_; rintro e w' ⟨rfl, hw⟩; rw [hw, hback])
          go_ret
          exact ⟨by rw [Lib.indexAny_hit HN.out hxl.out hin]; rfl, hB1.out⟩
      · have hxx : 128 ≤ (s[i]'hlt).toNat := by rw [hx]; omega
        have hnx := fun ty => Lib.run_next_any_at (P := Tryd.prog) wr w.heap.size s i ty HI.out hlt
        have hdb := decode_bytes s i hlt hxx
        have hdh := (decode_high s i hlt hxx).1
        have hdl := decode_le s i
        obtain ⟨d, hd⟩ : ∃ d, Utf8.decode s i = d := ⟨_, rfl⟩
        rw [hd] at hnx hdb hdh hdl
        obtain ⟨W1, hW1⟩ : ∃ W1, wr.iterAt w.heap.size s (i + d.2) = W1 := ⟨_, rfl⟩
        rw [hW1] at hnx
        have HW := Aside0.mk hW1
        have hI1 : W1.heap[w.heap.size]? = some (.stringIter s (i + d.2)) := by rw [← HW.out]; exact iterAt_heap _ _ _ _ HSz.out
        have hB1 : Below w.heap.size w W1 := by rw [← HW.out]; exact iterAt_below HB.out (Nat.le_refl _) _ _
        have hS1 : w.heap.size < W1.heap.size := (Array.getElem?_eq_some_iff.1 hI1).1
        have HB2 := Aside0.mk hdb
        replace hI1 := Aside0.mk hI1; replace hB1 := Aside0.mk hB1; replace hS1 := Aside0.mk hS1
        have hd1 : (128 : Int) ≤ (d.1 : Int) := by omega
        have hd2 : (d.1 : Int) ≤ 2147483647 := by omega
        clear hW1 hksz hdb hx hd hdh hdl
        go_wp2_with (go_at_call 107; refine (indexRune_high _ _ _ hd1 hd2 hcs HA.out).mono ?_; rintro e w3 ⟨rfl, hb3⟩)
        have hlast : i + d.2 ≤ s.size := by
          obtain ⟨q1, q2⟩ := HB2.out
          obtain ⟨hj, _⟩ := q2 (i + d.2 - 1) (by omega) (by omega)
          omega
        go_roundg (s.size - (i + d.2))
        case measure => have := HB2.out.1; omega
        case rel =>
          refine ⟨i + d.2, hlast, rfl, ⟨(hb3.block _ hS1.out).trans hI1.out⟩, ⟨hB1.out.trans (hb3.mono (Nat.le_of_lt hS1.out))⟩, ⟨fun j b hj hb => ?_⟩⟩
          by_cases hji : j < i
          · exact HN.out j b hji hb
          · obtain ⟨hj2, hj3⟩ := HB2.out.2 j (by omega) hj
            have := data_get s j hj2
            rw [this] at hb
            obtain rfl := Option.some.inj hb
            exact HC.out _ hj3
    · have hnx := fun ty => Lib.run_next_end_at (P := Tryd.prog) wr w.heap.size s i ty HI.out hlt
      go_wp2
      go_ret
      obtain rfl : i = s.size := by omega
      exact ⟨by rw [Lib.indexAny_none (by rw [← Lib.size_eq]; exact HN.out)]; rfl, HB.out⟩

/-- strings.IndexAny -/
def strings_IndexAny.f (a0 a1 : ByteArray) : Option Int :=
  if a0.size < 4294967281 ∧ a1.size < 4294967281 ∧ a1.data.toList.all (fun b => decide (b.toNat < 128)) = true then some (Lib.indexAny a0.data.toList a1.data.toList) else none
theorem strings_IndexAny.calls (a0 a1 : ByteArray) (r : Int) (w : World) (h : strings_IndexAny.f a0 a1 = some r) :
    Calls Tryd.prog 97 #[.string a0, .string a1] w fun e w' => e = .returned (.int .i64 r) ∧ Below w.heap.size w w' := by
  unfold strings_IndexAny.f at h
  split at h
  · rename_i hb
    obtain ⟨h1, h2, h3⟩ := hb
    obtain rfl := Option.some.inj h
    have hac : ∀ (j : Nat) b, a1.data.toList[j]? = some b → b.toNat < 128 := fun j b hj => by
      have := List.all_eq_true.1 h3 b (List.mem_of_getElem? hj)
      simpa using this
    by_cases e0 : a1.size = 0
    · exact (Tryd.strings_IndexAny_none a0 a1 w e0).mono fun e w' ⟨h1, h2⟩ => ⟨h1, h2 ▸ Below.refl _ _⟩
    by_cases e1 : a1.size = 1
    · exact (Tryd.strings_IndexAny_one a0 a1 w e1 hac).mono fun e w' ⟨h1, h2⟩ => ⟨h1, h2 ▸ Below.refl _ _⟩
    by_cases e8 : a0.size ≤ 8
    · exact indexAny_short a0 a1 w (by omega) e8 (by omega) hac
    · refine (Tryd.strings_IndexAny_long (fun w => by kernel_rfl) a0 a1 w (by omega) (by omega) h1 h2 hac).mono fun e w' ⟨h1, h2⟩ => ⟨h1, ?_⟩
      rw [h2]
      exact ((Below.refl _ _).alloc (Nat.le_refl _) _).alloc (by simp) _
  · exact absurd h (by simp)

/-- strings.ContainsAny -/
def strings_ContainsAny.f (a0 a1 : ByteArray) : Option Bool := (strings_IndexAny.f a0 a1).map fun i => decide (0 ≤ i)
theorem strings_ContainsAny.calls (a0 a1 : ByteArray) (r : Bool) (w : World) (h : strings_ContainsAny.f a0 a1 = some r) :
    Calls Tryd.prog 81 #[.string a0, .string a1] w fun e w' => e = .returned (.bool r) ∧ Below w.heap.size w w' := by
  unfold strings_ContainsAny.f at h
  obtain ⟨i, hi, rfl⟩ := Option.map_eq_some_iff.1 h
  have c := strings_IndexAny.calls a0 a1 i
  replace hi := Aside0.mk hi
  go_enter Tryd.func81, Tryd.ntmps81
  go_wp2_with (go_at_call 97; refine (c _ hi.out).mono ?_; rintro e w' ⟨rfl, hw⟩)
  go_ret
  exact ⟨rfl, hw⟩
end Go.Proofs.YtogbdjboblfokaaDoor.X
/- Laid for this claim by the session's own program xprint.py, over the print of the kit: functions of the program as plain Lean functions, each with a proof that a call comes to what its function says, or the row of a law out of these; no condition of its own. -/
namespace Go.Proofs.YtogbdjboblfokaaDoor.XW05
open Go.Proofs.YtogbdjboblfokaaDoor.X Go.Proofs.YtogbdjboblfokaaDoor.XT06 Go.RowKit Go.Proofs.YtogbdjboblfokaaDoorW.PrintWords Go.Proofs.YtogbdjboblfokaaDoorW.PrintLast Go.Proofs.YtogbdjboblfokaaDoorW.PrintMore
attribute [local go_sem] cell4_1 cell4_1d max2_int min2_int max_two min_two max_three min_three max_four min_four   -- for this text's walks alone
set_option linter.unusedVariables false
set_option linter.unusedSimpArgs false



def errW : Option Int → Value
  | none => .nilIface
  | some c => .iface 0 (.int .i64 c)
theorem errW_none : errW none = .nilIface := rfl
theorem errW_some (c : Int) : errW (some c) = .iface 0 (.int .i64 c) := rfl

theorem info9 : (Tryd.prog.info? 9).map (fun i => (i.zero, i.size, i.bytes)) = some (some (.string ⟨#[]⟩), 1, 16) := by kernel_rfl
theorem info66 : (Tryd.prog.info? 66).map (fun i => (i.zero, i.size, i.bytes)) = some (some (.agg #[(.int .i64 0), (.string ⟨#[]⟩)]), 2, 24) := by kernel_rfl
theorem info73 : (Tryd.prog.info? 73).map (fun i => (i.zero, i.size, i.bytes)) = some (some (.agg #[(.int .i64 0), (.slice none 0 0), (.slice none 0 0)]), 3, 56) := by kernel_rfl
theorem info75 : (Tryd.prog.info? 75).map (fun i => (i.zero, i.size, i.bytes)) = some (some (.agg #[(.int .i64 0), (.string ⟨#[]⟩)]), 2, 24) := by kernel_rfl
theorem info77 : (Tryd.prog.info? 77).map (fun i => (i.zero, i.size, i.bytes)) = some (some (.agg #[(.int .i64 0), (.string ⟨#[]⟩)]), 2, 24) := by kernel_rfl
theorem info118 : (Tryd.prog.info? 118).map (fun i => (i.zero, i.size, i.bytes)) = some (some (.agg #[(.string ⟨#[]⟩), (.int .i64 0)]), 2, 24) := by kernel_rfl
-- the values' own types
end Go.Proofs.YtogbdjboblfokaaDoor.XW05
/- Laid for this claim by the session's own program xprint.py, over the print of the kit: functions of the program as plain Lean functions, each with a proof that a call comes to what its function says, or the row of a law out of these; no condition of its own. -/
namespace Go.Proofs.YtogbdjboblfokaaDoor.XW05
open Go.Proofs.YtogbdjboblfokaaDoor.X Go.Proofs.YtogbdjboblfokaaDoor.XT06 Go.RowKit Go.Proofs.YtogbdjboblfokaaDoorW.PrintWords Go.Proofs.YtogbdjboblfokaaDoorW.PrintLast Go.Proofs.YtogbdjboblfokaaDoorW.PrintMore
attribute [local go_sem] cell4_1 cell4_1d max2_int min2_int max_two min_two max_three min_three max_four min_four   -- for this text's walks alone
set_option linter.unusedVariables false
set_option linter.unusedSimpArgs false

theorem eqA77 (d : Nat) (w : World) (x0 y0 : Int) (x1 y1 : ByteArray) :
    (Op.equalIn (d + 2) 77 (.agg #[.int .i64 x0, .string x1]) (.agg #[.int .i64 y0, .string y1])).run Tryd.prog w = .ok (x0 == y0 && (x1.toList == y1.toList)) w := by
  refine eqA_of Tryd.underlying77 (by kernel_rfl) ?_
  refine eqf_cons (by rfl) (by go_simp; rfl) (by go_simp; rfl) (by go_simp) ?_
  exact eqf_last (by rfl) (by go_simp; rfl) (by go_simp; rfl) (by go_simp)
end Go.Proofs.YtogbdjboblfokaaDoor.XW05
/- Laid for this claim by the session's own program xprint.py, over the print of the kit: functions of the program as plain Lean functions, each with a proof that a call comes to what its function says, or the row of a law out of these; no condition of its own. -/
namespace Go.Proofs.YtogbdjboblfokaaDoor.XW05
open Go.Proofs.YtogbdjboblfokaaDoor.X Go.Proofs.YtogbdjboblfokaaDoor.XT06 Go.RowKit Go.Proofs.YtogbdjboblfokaaDoorW.PrintWords Go.Proofs.YtogbdjboblfokaaDoorW.PrintLast Go.Proofs.YtogbdjboblfokaaDoorW.PrintMore
attribute [local go_sem] cell4_1 cell4_1d max2_int min2_int max_two min_two max_three min_three max_four min_four   -- for this text's walks alone
set_option linter.unusedVariables false
set_option linter.unusedSimpArgs false

/-! ### lex_plain: function 69 -/
def lex_plain.f (a0 : ByteArray) : Option (Bool) := if a0.toList = ([] : List UInt8) then (some false) else ((strings_ContainsAny.f a0 (⟨#[32, 9, 10, 59, 38, 124, 60, 62, 39, 34, 92]⟩ : ByteArray)).bind fun t101 => (some (!t101)))
set_option maxHeartbeats 8000000 in
set_option maxRecDepth 100000 in
theorem lex_plain.calls (a0 : ByteArray) (r : Bool) (w : World) (h : lex_plain.f a0 = some r) :
    Calls Tryd.prog 69 #[.string a0] w fun e w' => e = .returned (.bool r) ∧ Below w.heap.size w w' := by
  have HB := Aside0.mk (Below.refl w.heap.size w)
  have H : (if a0.toList = ([] : List UInt8) then (some false) else ((strings_ContainsAny.f a0 (⟨#[32, 9, 10, 59, 38, 124, 60, 62, 39, 34, 92]⟩ : ByteArray)).bind fun t101 => (some (!t101)))) = some r := h
  clear h
  by_cases c2 : a0.toList = ([] : List UInt8)
  · rw [if_pos c2] at H
    have c2b0 : (a0.toList == ([] : List UInt8)) = true := beq_iff_eq.mpr c2
    have c2b1 : (a0.toList != ([] : List UInt8)) = false := bne_eq_false_iff_eq.mpr c2
    clear c2
    obtain rfl := Option.some.inj H
    go_enter Tryd.func69, Tryd.ntmps69
    go_wp2
    go_ret
    exact ⟨by first | rfl | (simp [errW_none, errW_some] <;> rfl) | (simp [*, errW_none, errW_some] <;> rfl), by repeat (first | (with_reducible first | exact HB.out | apply below_alloc | apply pw_below_drewN | apply below_drew1) | exact HB.out)⟩
  · rw [if_neg c2] at H
    have c2b0 : (a0.toList == ([] : List UInt8)) = false := beq_eq_false_iff_ne.mpr c2
    have c2b1 : (a0.toList != ([] : List UInt8)) = true := bne_iff_ne.mpr c2
    replace H := Option.bind_eq_some_iff.mp H
    obtain ⟨t101, A30, H⟩ := H
    replace H : (some (!t101)) = some r := H
    have A3 := Aside0.mk A30
    clear A30
    obtain rfl := Option.some.inj H
    go_enter Tryd.func69, Tryd.ntmps69
    go_wp2_with (first | (go_at_call 81; (with_reducible refine (strings_ContainsAny.calls a0 (⟨#[32, 9, 10, 59, 38, 124, 60, 62, 39, 34, 92]⟩ : ByteArray) t101 _ A3.out).mono ?_); rintro e w4 ⟨rfl, hb⟩; have n0_ := Aside0.mk (below_step (by repeat (first | (with_reducible first | exact HB.out | apply below_alloc | apply pw_below_drewN | apply below_drew1) | exact HB.out)) hb); clear HB; have HB := n0_; clear n0_; (try clear hb); (try clear hb2); (try clear hk); (try clear hi)))
    go_ret
    exact ⟨by first | rfl | (simp [errW_none, errW_some] <;> rfl) | (simp [*, errW_none, errW_some] <;> rfl), by repeat (first | (with_reducible first | exact HB.out | apply below_alloc | apply pw_below_drewN | apply below_drew1) | exact HB.out)⟩

/-! ### strings_ReplaceAll: function 70 -/
def strings_ReplaceAll.f (a0 : ByteArray) (a1 : ByteArray) (a2 : ByteArray) : Option (ByteArray) := (strings_Replace.f a0 a1 a2 (-1)).bind fun t102 => (some t102)
set_option maxHeartbeats 8000000 in
set_option maxRecDepth 100000 in
theorem strings_ReplaceAll.calls (a0 : ByteArray) (a1 : ByteArray) (a2 : ByteArray) (r : ByteArray) (w : World) (hSH : Shp w) (h : strings_ReplaceAll.f a0 a1 a2 = some r) :
    Calls Tryd.prog 70 #[.string a0, .string a1, .string a2] w fun e w' => e = .returned (.string r) ∧ Below w.heap.size w w' := by
  have HSH := Aside0.mk hSH
  clear hSH
  have HB := Aside0.mk (Below.refl w.heap.size w)
  have H : ((strings_Replace.f a0 a1 a2 (-1)).bind fun t102 => (some t102)) = some r := h
  clear h
  replace H := Option.bind_eq_some_iff.mp H
  obtain ⟨t102, A40, H⟩ := H
  replace H : (some t102) = some r := H
  have A4 := Aside0.mk A40
  clear A40
  obtain rfl := Option.some.inj H
  go_enter Tryd.func70, Tryd.ntmps70
  go_wp2_with (first | ((with_reducible refine gate_callee (f := 84) rfl ?_); refine goesL_ (some 10) rfl rfl Tryd.func84 (by kernel_rfl) rfl #[.string a0, .string a1, .string a2, .int .i64 (-1)] rfl (by (try simp only [List.map_toArray, List.map_cons, List.map_nil]); first | done | rfl | (simp only [List.length_drop, List.length_take]; rfl)) ?_; (with_reducible refine (strings_Replace.calls a0 a1 a2 (-1) t102 _ ?side1 A4.out).mono ?_); (case side1 => first | exact HSH.out | exact Shp.below HSH.out (by repeat (first | (with_reducible first | exact HB.out | apply below_alloc | apply pw_below_drewN | apply below_drew1) | exact HB.out))); rintro e w5 ⟨rfl, hb⟩; refine ⟨_, rfl, ?_⟩; have n0_ := Aside0.mk (below_step (by repeat (first | (with_reducible first | exact HB.out | apply below_alloc | apply pw_below_drewN | apply below_drew1) | exact HB.out)) hb); clear HB; have HB := n0_; clear n0_; (try clear hb); (try clear hb2); (try clear hk); (try clear hi)))
  go_ret
  exact ⟨by first | rfl | (simp [errW_none, errW_some] <;> rfl) | (simp [*, errW_none, errW_some] <;> rfl), by repeat (first | (with_reducible first | exact HB.out | apply below_alloc | apply pw_below_drewN | apply below_drew1) | exact HB.out)⟩

/-! ### lex_Quote: function 48 -/
def lex_Quote.f (a0 : ByteArray) : Option (ByteArray) := (lex_plain.f a0).bind fun t103 => (if t103 = true then (some a0) else ((strings_ReplaceAll.f a0 (⟨#[39]⟩ : ByteArray) (⟨#[39, 92, 39, 39]⟩ : ByteArray)).bind fun t104 => (if 1 + t104.size ≤ 9223372036854775807 then (if ((⟨#[39]⟩ : ByteArray) ++ t104).size + 1 ≤ 9223372036854775807 then (some (((⟨#[39]⟩ : ByteArray) ++ t104) ++ (⟨#[39]⟩ : ByteArray))) else (none)) else (none))))
set_option maxHeartbeats 8000000 in
set_option maxRecDepth 100000 in
theorem lex_Quote.calls (a0 : ByteArray) (r : ByteArray) (w : World) (hSH : Shp w) (h : lex_Quote.f a0 = some r) :
    Calls Tryd.prog 48 #[.string a0] w fun e w' => e = .returned (.string r) ∧ Below w.heap.size w w' := by
  have HSH := Aside0.mk hSH
  clear hSH
  have HB := Aside0.mk (Below.refl w.heap.size w)
  have H : ((lex_plain.f a0).bind fun t103 => (if t103 = true then (some a0) else ((strings_ReplaceAll.f a0 (⟨#[39]⟩ : ByteArray) (⟨#[39, 92, 39, 39]⟩ : ByteArray)).bind fun t104 => (if 1 + t104.size ≤ 9223372036854775807 then (if ((⟨#[39]⟩ : ByteArray) ++ t104).size + 1 ≤ 9223372036854775807 then (some (((⟨#[39]⟩ : ByteArray) ++ t104) ++ (⟨#[39]⟩ : ByteArray))) else (none)) else (none))))) = some r := h
  clear h
  replace H := Option.bind_eq_some_iff.mp H
  obtain ⟨t103, A20, H⟩ := H
  replace H : (if t103 = true then (some a0) else ((strings_ReplaceAll.f a0 (⟨#[39]⟩ : ByteArray) (⟨#[39, 92, 39, 39]⟩ : ByteArray)).bind fun t104 => (if 1 + t104.size ≤ 9223372036854775807 then (if ((⟨#[39]⟩ : ByteArray) ++ t104).size + 1 ≤ 9223372036854775807 then (some (((⟨#[39]⟩ : ByteArray) ++ t104) ++ (⟨#[39]⟩ : ByteArray))) else (none)) else (none)))) = some r := H
  have A2 := Aside0.mk A20
  clear A20
  by_cases c3 : t103 = true
  · subst c3
    have H1 : (some a0) = some r := by rw [if_pos rfl] at H; exact H
    clear H
    have H := H1
    clear H1
    obtain rfl := Option.some.inj H
    go_enter Tryd.func48, Tryd.ntmps48
    go_wp2_with (first | ((with_reducible refine gate_callee (f := 69) rfl ?_); refine goesL_ (some 4) rfl rfl Tryd.func69 (by kernel_rfl) rfl #[.string a0] rfl (by (try simp only [List.map_toArray, List.map_cons, List.map_nil]); first | done | rfl | (simp only [List.length_drop, List.length_take]; rfl)) ?_; (with_reducible refine (lex_plain.calls a0 true _ A2.out).mono ?_); rintro e w4 ⟨rfl, hb⟩; refine ⟨_, rfl, ?_⟩; have n0_ := Aside0.mk (below_step (by repeat (first | (with_reducible first | exact HB.out | apply below_alloc | apply pw_below_drewN | apply below_drew1) | exact HB.out)) hb); clear HB; have HB := n0_; clear n0_; (try clear hb); (try clear hb2); (try clear hk); (try clear hi)))
    go_ret
    exact ⟨by first | rfl | (simp [errW_none, errW_some] <;> rfl) | (simp [*, errW_none, errW_some] <;> rfl), by repeat (first | (with_reducible first | exact HB.out | apply below_alloc | apply pw_below_drewN | apply below_drew1) | exact HB.out)⟩
  · replace c3 := Bool.eq_false_iff.mpr c3
    subst c3
    have H1 : ((strings_ReplaceAll.f a0 (⟨#[39]⟩ : ByteArray) (⟨#[39, 92, 39, 39]⟩ : ByteArray)).bind fun t104 => (if 1 + t104.size ≤ 9223372036854775807 then (if ((⟨#[39]⟩ : ByteArray) ++ t104).size + 1 ≤ 9223372036854775807 then (some (((⟨#[39]⟩ : ByteArray) ++ t104) ++ (⟨#[39]⟩ : ByteArray))) else (none)) else (none))) = some r := by rw [if_neg (show ¬ (false = true) by decide)] at H; exact H
    clear H
    have H := H1
    clear H1
    replace H := Option.bind_eq_some_iff.mp H
    obtain ⟨t104, A50, H⟩ := H
    replace H : (if 1 + t104.size ≤ 9223372036854775807 then (if ((⟨#[39]⟩ : ByteArray) ++ t104).size + 1 ≤ 9223372036854775807 then (some (((⟨#[39]⟩ : ByteArray) ++ t104) ++ (⟨#[39]⟩ : ByteArray))) else (none)) else (none)) = some r := H
    have A5 := Aside0.mk A50
    clear A50
    by_cases c6 : 1 + t104.size ≤ 9223372036854775807
    · rw [if_pos c6] at H
      have c6b0 := eq_true c6
      have c6b1 : decide (1 + t104.size ≤ 9223372036854775807) = true := decide_eq_true c6
      try have c6b2 : (9223372036854775807 < 1 + t104.size) = False := eq_false (Nat.not_lt.2 c6)
      by_cases c7 : ((⟨#[39]⟩ : ByteArray) ++ t104).size + 1 ≤ 9223372036854775807
      · rw [if_pos c7] at H
        have c7b0 := eq_true c7
        have c7b1 : decide (((⟨#[39]⟩ : ByteArray) ++ t104).size + 1 ≤ 9223372036854775807) = true := decide_eq_true c7
        try have c7b2 : (9223372036854775807 < ((⟨#[39]⟩ : ByteArray) ++ t104).size + 1) = False := eq_false (Nat.not_lt.2 c7)
        try have c7b3 : (9223372036854775807 < 1 + t104.size + 1) = False := eq_false (by have h_ := c7; rw [ByteArray.size_append] at h_; exact Nat.not_lt.2 h_)
        obtain rfl := Option.some.inj H
        go_enter Tryd.func48, Tryd.ntmps48
        go_wp2_with (first | ((with_reducible refine gate_callee (f := 69) rfl ?_); refine goesL_ (some 4) rfl rfl Tryd.func69 (by kernel_rfl) rfl #[.string a0] rfl (by (try simp only [List.map_toArray, List.map_cons, List.map_nil]); first | done | rfl | (simp only [List.length_drop, List.length_take]; rfl)) ?_; (with_reducible refine (lex_plain.calls a0 false _ A2.out).mono ?_); rintro e w8 ⟨rfl, hb⟩; refine ⟨_, rfl, ?_⟩; have n0_ := Aside0.mk (below_step (by repeat (first | (with_reducible first | exact HB.out | apply below_alloc | apply pw_below_drewN | apply below_drew1) | exact HB.out)) hb); clear HB; have HB := n0_; clear n0_; (try clear hb); (try clear hb2); (try clear hk); (try clear hi)) | ((with_reducible refine gate_callee (f := 70) rfl ?_); refine goesL_ (some 7) rfl rfl Tryd.func70 (by kernel_rfl) rfl #[.string a0, .string (⟨#[39]⟩ : ByteArray), .string (⟨#[39, 92, 39, 39]⟩ : ByteArray)] rfl (by (try simp only [List.map_toArray, List.map_cons, List.map_nil]); first | done | rfl | (simp only [List.length_drop, List.length_take]; rfl)) ?_; (with_reducible refine (strings_ReplaceAll.calls a0 (⟨#[39]⟩ : ByteArray) (⟨#[39, 92, 39, 39]⟩ : ByteArray) t104 _ ?side1 A5.out).mono ?_); (case side1 => first | exact HSH.out | exact Shp.below HSH.out (by repeat (first | (with_reducible first | exact HB.out | apply below_alloc | apply pw_below_drewN | apply below_drew1) | exact HB.out))); rintro e w9 ⟨rfl, hb⟩; refine ⟨_, rfl, ?_⟩; have n0_ := Aside0.mk (below_step (by repeat (first | (with_reducible first | exact HB.out | apply below_alloc | apply pw_below_drewN | apply below_drew1) | exact HB.out)) hb); clear HB; have HB := n0_; clear n0_; (try clear hb); (try clear hb2); (try clear hk); (try clear hi)))
        go_ret
        exact ⟨by first | rfl | (simp [errW_none, errW_some] <;> rfl) | (simp [*, errW_none, errW_some] <;> rfl), by repeat (first | (with_reducible first | exact HB.out | apply below_alloc | apply pw_below_drewN | apply below_drew1) | exact HB.out)⟩
      · rw [if_neg c7] at H
        exact absurd H (by simp)
    · rw [if_neg c6] at H
      exact absurd H (by simp)

/-! ### lex_marks: function 49 -/
def lex_marks.f  : Option ((List (S118))) := some (([(⟨(⟨#[38, 38]⟩ : ByteArray), 2⟩ : S118), (⟨(⟨#[124, 124]⟩ : ByteArray), 3⟩ : S118), (⟨(⟨#[62, 62]⟩ : ByteArray), 5⟩ : S118), (⟨(⟨#[62]⟩ : ByteArray), 4⟩ : S118), (⟨(⟨#[60]⟩ : ByteArray), 6⟩ : S118), (⟨(⟨#[59]⟩ : ByteArray), 1⟩ : S118)] : List (S118)))
set_option maxHeartbeats 8000000 in
set_option maxRecDepth 100000 in
theorem lex_marks.calls  (r : List (S118)) (w : World) (h : lex_marks.f  = some r) :
    Calls Tryd.prog 49 #[] w fun e w' => ∃ v0_ : Value, e = .returned (v0_) ∧ Kd.R k118 118 w' w.heap.size (fun _ => True) v0_ r ∧ Below w.heap.size w w' := by
  have hu118 := Tryd.underlying118
  have HB := Aside0.mk (Below.refl w.heap.size w)
  have H : (some (([(⟨(⟨#[38, 38]⟩ : ByteArray), 2⟩ : S118), (⟨(⟨#[124, 124]⟩ : ByteArray), 3⟩ : S118), (⟨(⟨#[62, 62]⟩ : ByteArray), 5⟩ : S118), (⟨(⟨#[62]⟩ : ByteArray), 4⟩ : S118), (⟨(⟨#[60]⟩ : ByteArray), 6⟩ : S118), (⟨(⟨#[59]⟩ : ByteArray), 1⟩ : S118)] : List (S118)))) = some r := h
  clear h
  obtain ⟨y105, hy105⟩ : ∃ y_ : List (S118), y_ = (([(⟨(⟨#[38, 38]⟩ : ByteArray), 2⟩ : S118), (⟨(⟨#[124, 124]⟩ : ByteArray), 3⟩ : S118), (⟨(⟨#[62, 62]⟩ : ByteArray), 5⟩ : S118), (⟨(⟨#[62]⟩ : ByteArray), 4⟩ : S118), (⟨(⟨#[60]⟩ : ByteArray), 6⟩ : S118), (⟨(⟨#[59]⟩ : ByteArray), 1⟩ : S118)] : List (S118))) := ⟨_, rfl⟩
  replace H : (some y105) = some r := by first | (rw [hy105]; with_reducible exact H) | (have H2_ := (Option.bind_some _ _).symm.trans H; rw [hy105]; with_reducible exact H2_) | (have H2_ := (Option.bind_some _ _).symm.trans H; with_reducible exact H2_) | with_reducible exact H | (rw [hy105]; exact H) | exact H
  have Ny105 := Aside0.mk hy105
  clear hy105
  obtain rfl := Option.some.inj H
  go_enter Tryd.func49, Tryd.ntmps49
  go_wp2_with (first | ((with_reducible refine gate_dst (N := 7) rfl ?_); refine Kd.R_lit k118 _ 118 ?hg (N := 7) ?hd (xs := ([(⟨(⟨#[38, 38]⟩ : ByteArray), 2⟩ : S118), (⟨(⟨#[124, 124]⟩ : ByteArray), 3⟩ : S118), (⟨(⟨#[62, 62]⟩ : ByteArray), 5⟩ : S118), (⟨(⟨#[62]⟩ : ByteArray), 4⟩ : S118), (⟨(⟨#[60]⟩ : ByteArray), 6⟩ : S118), (⟨(⟨#[59]⟩ : ByteArray), 1⟩ : S118)] : List (S118))) (inner := [.string (⟨#[38, 38]⟩ : ByteArray), .int .i64 2, .string (⟨#[124, 124]⟩ : ByteArray), .int .i64 3, .string (⟨#[62, 62]⟩ : ByteArray), .int .i64 5, .string (⟨#[62]⟩ : ByteArray), .int .i64 4, .string (⟨#[60]⟩ : ByteArray), .int .i64 6, .string (⟨#[59]⟩ : ByteArray), .int .i64 1]) (ok := fun _ => True) (okp := fun _ => True) ?hr ?hp (fun _ hk => hk) trivial (Below.refl _ _) (Nat.le_refl _) (by simp) ?_; (case hd => rfl); (case hg => rfl); (case hr => first | (go_simp; done) | (go_simp; rfl)); (case hp => exact (Reps.c2 (show Kd.M k118 _ _ _ (⟨(⟨#[38, 38]⟩ : ByteArray), 2⟩ : S118) [.string (⟨#[38, 38]⟩ : ByteArray), .int .i64 2] from (k118_mkM _ _ _ (⟨(⟨#[38, 38]⟩ : ByteArray), 2⟩ : S118) )) (Reps.c2 (show Kd.M k118 _ _ _ (⟨(⟨#[124, 124]⟩ : ByteArray), 3⟩ : S118) [.string (⟨#[124, 124]⟩ : ByteArray), .int .i64 3] from (k118_mkM _ _ _ (⟨(⟨#[124, 124]⟩ : ByteArray), 3⟩ : S118) )) (Reps.c2 (show Kd.M k118 _ _ _ (⟨(⟨#[62, 62]⟩ : ByteArray), 5⟩ : S118) [.string (⟨#[62, 62]⟩ : ByteArray), .int .i64 5] from (k118_mkM _ _ _ (⟨(⟨#[62, 62]⟩ : ByteArray), 5⟩ : S118) )) (Reps.c2 (show Kd.M k118 _ _ _ (⟨(⟨#[62]⟩ : ByteArray), 4⟩ : S118) [.string (⟨#[62]⟩ : ByteArray), .int .i64 4] from (k118_mkM _ _ _ (⟨(⟨#[62]⟩ : ByteArray), 4⟩ : S118) )) (Reps.c2 (show Kd.M k118 _ _ _ (⟨(⟨#[60]⟩ : ByteArray), 6⟩ : S118) [.string (⟨#[60]⟩ : ByteArray), .int .i64 6] from (k118_mkM _ _ _ (⟨(⟨#[60]⟩ : ByteArray), 6⟩ : S118) )) (Reps.c2 (show Kd.M k118 _ _ _ (⟨(⟨#[59]⟩ : ByteArray), 1⟩ : S118) [.string (⟨#[59]⟩ : ByteArray), .int .i64 1] from (k118_mkM _ _ _ (⟨(⟨#[59]⟩ : ByteArray), 1⟩ : S118) )) (Reps.none _ _)))))))); intro v106 w1 ho2 hb hg_ hnew_; clear hg_ hnew_; (first | rw [← Ny105.out] at ho2 | (simp only [Int.reduceToNat] at ho2; rw [← Ny105.out] at ho2)); have n0_ := Aside0.mk (Kd.R_lower ho2 (below_size (by repeat (first | (with_reducible first | exact HB.out | apply below_alloc | apply pw_below_drewN | apply below_drew1) | exact HB.out)))); have n1_ := Aside0.mk (below_step (by repeat (first | (with_reducible first | exact HB.out | apply below_alloc | apply pw_below_drewN | apply below_drew1) | exact HB.out)) hb); clear HB; have HO107 := n0_; have HB := n1_; clear n0_ n1_; clear hb ho2))
  go_ret
  exact ⟨_, by first | rfl | (simp [errW_none, errW_some] <;> rfl) | (simp [*, errW_none, errW_some] <;> rfl), by (with_reducible repeat (first | apply Kd.R_alloc | apply Kd.R_drewN | apply Kd.R_drew)); exact HO107.out, by repeat (first | (with_reducible first | exact HB.out | apply below_alloc | apply pw_below_drewN | apply below_drew1) | exact HB.out)⟩

/-! ### lex_Show: function 23 -/
mutual
def lex_Show.l0 : Nat → List ByteArray → List (S66) → Int → Int → Option (ByteArray)
  | 0, _, _, _, _ => none
  | k + 1, x3, x9, x10, x11 => if x11 < x10 then (if 0 ≤ x11 then (if x11 < (x9.length : Int) then ((lex_Quote.f ((rd_T66 x9 x11).f1)).bind fun t111 => ((lex_marks.f).bind fun t112 => (lex_Show.l1 k x3 t111 x9 x10 x11 t112 (t112.length : Int) 0 ((rd_T66 x9 x11).f0) ((rd_T66 x9 x11).f1)))) else (none)) else (none)) else ((strings_Join.f x3 (⟨#[32]⟩ : ByteArray)).bind fun t108 => (some t108))
def lex_Show.l1 : Nat → List ByteArray → ByteArray → List (S66) → Int → Int → List (S118) → Int → Int → Int → ByteArray → Option (ByteArray)
  | 0, _, _, _, _, _, _, _, _, _, _ => none
  | k + 1, x3, x6, x9, x10, x11, x18, x19, x20, x111000, x111001 => if x20 < x19 then (if 0 ≤ x20 then (if x20 < (x18.length : Int) then (if ((rd_T118 x18 x20).f1) = x111000 then (lex_Show.l1 k x3 ((rd_T118 x18 x20).f0) x9 x10 x11 x18 x19 (wrap64 (x20 + 1)) x111000 x111001) else (lex_Show.l1 k x3 x6 x9 x10 x11 x18 x19 (wrap64 (x20 + 1)) x111000 x111001)) else (none)) else (none)) else (if x3.length < 8796093022208 then (lex_Show.l0 k (x3 ++ [x6]) x9 x10 (wrap64 (x11 + 1))) else (none))
end
def lex_Show.f (k : Nat) (l0 : List (S66)) : Option (ByteArray) := lex_Show.l0 k ([] : List ByteArray) l0 (l0.length : Int) 0
theorem lex_Show.mono_l : ∀ k, (∀ y0 y1 y2 y3, LeO (lex_Show.l0 k y0 y1 y2 y3) (lex_Show.l0 (k + 1) y0 y1 y2 y3)) ∧ (∀ y0 y1 y2 y3 y4 y5 y6 y7 y8 y9, LeO (lex_Show.l1 k y0 y1 y2 y3 y4 y5 y6 y7 y8 y9) (lex_Show.l1 (k + 1) y0 y1 y2 y3 y4 y5 y6 y7 y8 y9))
  | 0 => ⟨fun _ _ _ _ r h => by simp [lex_Show.l0] at h, fun _ _ _ _ _ _ _ _ _ _ r h => by simp [lex_Show.l1] at h⟩
  | k + 1 => by
    obtain ⟨ih0, ih1⟩ := lex_Show.mono_l k
    refine ⟨?_, ?_⟩
    · intro y0 y1 y2 y3
      unfold lex_Show.l0
      repeat' first
      | (with_reducible exact ih0 _ _ _ _)
      | (with_reducible exact ih1 _ _ _ _ _ _ _ _ _ _)
      | (with_reducible exact LeO.refl _)
      | (with_reducible exact LeO.none _)
      | (with_reducible refine LeO.ite ?_ ?_)
      | (with_reducible refine LeO.bind ?_ (fun _ => ?_))
      | exact ih0 _ _ _ _
      | exact ih1 _ _ _ _ _ _ _ _ _ _
      | exact LeO.none _
      | refine LeO.ite ?_ ?_
      | refine LeO.bind ?_ (fun _ => ?_)
    · intro y0 y1 y2 y3 y4 y5 y6 y7 y8 y9
      unfold lex_Show.l1
      repeat' first
      | (with_reducible exact ih0 _ _ _ _)
      | (with_reducible exact ih1 _ _ _ _ _ _ _ _ _ _)
      | (with_reducible exact LeO.refl _)
      | (with_reducible exact LeO.none _)
      | (with_reducible refine LeO.ite ?_ ?_)
      | (with_reducible refine LeO.bind ?_ (fun _ => ?_))
      | exact ih0 _ _ _ _
      | exact ih1 _ _ _ _ _ _ _ _ _ _
      | exact LeO.none _
      | refine LeO.ite ?_ ?_
      | refine LeO.bind ?_ (fun _ => ?_)
theorem lex_Show.mono : ∀ a0 k, LeO (lex_Show.f k a0) (lex_Show.f (k + 1) a0) := by
  intro a0 k
  obtain ⟨ih0, ih1⟩ := lex_Show.mono_l k
  unfold lex_Show.f
  repeat' first
      | (with_reducible exact ih0 _ _ _ _)
      | (with_reducible exact ih1 _ _ _ _ _ _ _ _ _ _)
      | (with_reducible exact LeO.refl _)
      | (with_reducible exact LeO.none _)
      | (with_reducible refine LeO.ite ?_ ?_)
      | (with_reducible refine LeO.bind ?_ (fun _ => ?_))
      | exact ih0 _ _ _ _
      | exact ih1 _ _ _ _ _ _ _ _ _ _
      | exact LeO.none _
      | refine LeO.ite ?_ ?_
      | refine LeO.bind ?_ (fun _ => ?_)
set_option maxHeartbeats 8000000 in
set_option maxRecDepth 100000 in
theorem lex_Show.calls (k : Nat) (A0 : Option Addr) (c0 : Nat) (l0 : List (S66)) (r : ByteArray) (w : World) (hSH : Shp w) (hr0 : Kd.C k66 w A0 l0.length l0) (hc0 : l0.length ≤ c0) (h : lex_Show.f k l0 = some r) :
    Calls Tryd.prog 23 #[.slice A0 l0.length c0] w fun e w' => e = .returned (.string r) ∧ Below w.heap.size w w' := by
  have hu66 := Tryd.underlying66
  have hu118 := Tryd.underlying118
  have HSH := Aside0.mk hSH
  clear hSH
  have HR0 := Aside0.mk hr0
  have HC0 := Aside0.mk hc0
  clear hr0 hc0
  have HB := Aside0.mk (Below.refl w.heap.size w)
  have H : (lex_Show.l0 k ([] : List ByteArray) l0 (l0.length : Int) 0) = some r := h
  clear h
  have H' := Aside0.mk H
  clear H
  go_enter Tryd.func23, Tryd.ntmps23
  go_wp2
  go_loopg [3, 11] k (fun kq v3 v11 w' => ∃ (x3_1 : List ByteArray) (x11_1 : Int), v11 = .int .i64 x11_1 ∧ Aside0 (lex_Show.l0 kq x3_1 l0 (l0.length : Int) x11_1 = some r) ∧ Aside0 (kq ≤ k) ∧ Aside0 (Kd.R Kd.string 9 w' w.heap.size (fun _ => True) v3 x3_1) ∧ Aside0 (Below w.heap.size w w'))
  case atStart => exact ⟨(([] : List ByteArray)), (0), (by first | rfl | (simp; done) | (simp [*]; done)), H', ⟨Nat.le_refl _⟩, ⟨by first | exact Kd.R_nil _ _ _ _ _ | exact Kd.N_nil _ _ _ _ _ | exact Kd.V_nil _ _ _ _ _ | exact Kd.Q_nil _ _ _ _ _ | exact Kd.S_nil _ _ _ _ _⟩, ⟨by repeat (first | (with_reducible first | exact HB.out | apply below_alloc | apply pw_below_drewN | apply below_drew1) | exact HB.out)⟩⟩
  case round =>
    clear H'
    obtain ⟨x3_1, x11_1, rfl, HA, HK1, HO_3, HB⟩ := hrel
    cases gk with
    | zero => exact absurd HA.out (by simp [lex_Show.l0])
    | succ k1 =>
      have H := HA.out
      clear HA
      simp only [lex_Show.l0] at H
      by_cases c2 : x11_1 < (l0.length : Int)
      · rw [if_pos c2] at H
        have c2b0 : decide (x11_1 < (l0.length : Int)) = true := decide_eq_true c2
        clear c2
        by_cases c3 : 0 ≤ x11_1
        · rw [if_pos c3] at H
          have c3b0 : decide (0 ≤ x11_1) = true := decide_eq_true c3
          clear c3
          by_cases c4 : x11_1 < (l0.length : Int)
          · rw [if_pos c4] at H
            have c4b0 : decide (x11_1 < (l0.length : Int)) = true := decide_eq_true c4
            clear c4
            replace H := Option.bind_eq_some_iff.mp H
            obtain ⟨t111, A50, H⟩ := H
            replace H : ((lex_marks.f).bind fun t112 => (lex_Show.l1 k1 x3_1 t111 l0 (l0.length : Int) x11_1 t112 (t112.length : Int) 0 ((rd_T66 l0 x11_1).f0) ((rd_T66 l0 x11_1).f1))) = some r := H
            have A5 := Aside0.mk A50
            clear A50
            replace H := Option.bind_eq_some_iff.mp H
            obtain ⟨t112, A60, H⟩ := H
            replace H : (lex_Show.l1 k1 x3_1 t111 l0 (l0.length : Int) x11_1 t112 (t112.length : Int) 0 ((rd_T66 l0 x11_1).f0) ((rd_T66 l0 x11_1).f1)) = some r := H
            have A6 := Aside0.mk A60
            clear A60
            have H' := Aside0.mk H
            clear H
            have p109 : 0 ≤ (x11_1 : Int) := of_decide_eq_true (by first | (with_reducible assumption) | assumption)
            have q109 : x11_1 < (l0.length : Int) := of_decide_eq_true (by first | (with_reducible assumption) | assumption)
            obtain ⟨ad109, e109, hx109_0, hx109_1⟩ := at_T66 HR0.out x11_1 p109 q109
            cases e109
            replace hx109_0 := (HB.out.cell (World.block_lt_of_cell? w _ hx109_0)).trans hx109_0
            replace hx109_1 := (HB.out.cell (World.block_lt_of_cell? w _ hx109_1)).trans hx109_1
            replace p109 := eq_true p109
            replace q109 := eq_true q109
            go_wp2_with (first | ((with_reducible refine gate_dst (N := 5) rfl ?_); refine box_event ?hg (N := 5) ?hd (cs := #[.int .i64 0, .string (⟨#[]⟩ : ByteArray)]) (t := 66) ?hr ?_; (case hd => rfl); (case hg => rfl); (case hr => first | (go_simp; done) | (go_simp; rfl)); intro gb110 hg w7 hbox hb; have n0_ := Aside0.mk (Kd.R_below (by (with_reducible repeat (first | apply Kd.R_alloc | apply Kd.R_drewN | apply Kd.R_drew)); (first | exact HO_3.out | (first | refine Kd.R_mono HO_3.out (fun _ hk => ?_) | refine Kd.S_mono HO_3.out (fun _ hk => ?_) | refine Kd.Q_mono HO_3.out (fun _ hk => ?_)); simp only [ownBlock_slice] at hk ⊢; exact hk)) hb); have n1_ := Aside0.mk (below_step (by repeat (first | (with_reducible first | exact HB.out | apply below_alloc | apply pw_below_drewN | apply below_drew1) | exact HB.out)) hb); have n2_ := Aside0.mk (hbox); have n3_ := Aside0.mk ((by rw [hg]; exact (below_size (by repeat (first | (with_reducible first | exact HB.out | apply below_alloc | apply pw_below_drewN | apply below_drew1) | exact HB.out))) : w.heap.size ≤ gb110)); have n4_ := Aside0.mk ((by rw [hg]; exact (below_size (by repeat (first | (with_reducible first | exact HB.out | apply below_alloc | apply pw_below_drewN | apply below_drew1) | exact HB.out))) : w.heap.size ≤ gb110)); clear HO_3; clear HB; have HO_3 := n0_; have HB := n1_; have BK110 := n2_; have GW110 := n3_; have GE110 := n4_; clear n0_ n1_ n2_ n3_ n4_; clear hb hbox hg; have hcz8_0 : w7.cell? ⟨gb110, 0, none⟩ = some (.int .i64 0) := (blk_cell BK110.out 0).trans rfl; have hcz8_1 : w7.cell? ⟨gb110, 1, none⟩ = some (.string (⟨#[]⟩ : ByteArray)) := (blk_cell BK110.out 1).trans rfl; have hfz8_0 := blk_frozen BK110.out 0; have hfz8_1 := blk_frozen BK110.out 1) | ((with_reducible refine gate_callee (f := 48) rfl ?_); refine goesL_ (some 17) rfl rfl Tryd.func48 (by kernel_rfl) rfl #[.string ((rd_T66 l0 x11_1).f1)] rfl (by (try simp only [List.map_toArray, List.map_cons, List.map_nil]); first | done | rfl | (simp only [List.length_drop, List.length_take]; rfl)) ?_; (with_reducible refine (lex_Quote.calls ((rd_T66 l0 x11_1).f1) t111 _ ?side1 A5.out).mono ?_); (case side1 => first | exact HSH.out | exact Shp.below HSH.out (by repeat (first | (with_reducible first | exact HB.out | apply below_alloc | apply pw_below_drewN | apply below_drew1 | refine below_set ?_ GE110.out) | exact HB.out))); rintro e w9 ⟨rfl, hb⟩; refine ⟨_, rfl, ?_⟩; have n0_ := Aside0.mk (Kd.R_below (by (with_reducible repeat (first | apply Kd.R_alloc | apply Kd.R_drewN | apply Kd.R_drew)); exact (Kd.R_mono (Kd.R_far (p := ⟨gb110, 1, none⟩) (Kd.R_far (p := ⟨gb110, 0, none⟩) (Kd.R_types HO_3.out BK110.out (by decide)) (fun _ hk => hk.2) (.int .i64 ((rd_T66 l0 x11_1).f0))) (fun _ hk => hk.2) (.string ((rd_T66 l0 x11_1).f1))) (fun _ h_ => h_.1))) hb); have n1_ := Aside0.mk (blk_below (g := gb110) (o := .cells #[.int .i64 ((rd_T66 l0 x11_1).f0), .string ((rd_T66 l0 x11_1).f1)] 66 (0, 0)) (by (with_reducible repeat (first | refine blk_drewN ?_ _ | refine blk_drew ?_ | refine blk_alloc ?_ _)); refine blk_put (cs := #[.int .i64 ((rd_T66 l0 x11_1).f0), .string (⟨#[]⟩ : ByteArray)]) ?_ 1 _ rfl; (with_reducible repeat (first | refine blk_drewN ?_ _ | refine blk_drew ?_ | refine blk_alloc ?_ _)); refine blk_put (cs := #[.int .i64 0, .string (⟨#[]⟩ : ByteArray)]) ?_ 0 _ rfl; (with_reducible repeat (first | refine blk_drewN ?_ _ | refine blk_drew ?_ | refine blk_alloc ?_ _)); exact BK110.out) hb); have n2_ := Aside0.mk (below_step (by repeat (first | (with_reducible first | exact HB.out | apply below_alloc | apply pw_below_drewN | apply below_drew1 | refine below_set ?_ GE110.out) | exact HB.out)) hb); clear HO_3; clear BK110; clear HB; have HO_3 := n0_; have BK110 := n1_; have HB := n2_; clear n0_ n1_ n2_; (try clear hb); (try clear hb2); (try clear hk); (try clear hi)) | ((with_reducible refine gate_callee (f := 49) rfl ?_); refine goesL_ (some 18) rfl rfl Tryd.func49 (by kernel_rfl) rfl #[] rfl (by (try simp only [List.map_toArray, List.map_cons, List.map_nil]); first | done | rfl | (simp only [List.length_drop, List.length_take]; rfl)) ?_; (with_reducible refine (lex_marks.calls  t112 _ A6.out).mono ?_); rintro e w10 ⟨v113, rfl, ho0, hb⟩; refine ⟨_, rfl, ?_⟩; have n0_ := Aside0.mk (Kd.R_below (by (with_reducible repeat (first | apply Kd.R_alloc | apply Kd.R_drewN | apply Kd.R_drew)); (first | exact HO_3.out | (first | refine Kd.R_mono HO_3.out (fun _ hk => ?_) | refine Kd.S_mono HO_3.out (fun _ hk => ?_) | refine Kd.Q_mono HO_3.out (fun _ hk => ?_)); simp only [ownBlock_slice] at hk ⊢; exact hk)) hb); have n1_ := Aside0.mk (Kd.R_lower ho0 (below_size (by repeat (first | (with_reducible first | exact HB.out | apply below_alloc | apply pw_below_drewN | apply below_drew1 | refine below_set ?_ GE110.out) | exact HB.out)))); have n2_ := Aside0.mk (blk_below (g := gb110) (o := .cells #[.int .i64 ((rd_T66 l0 x11_1).f0), .string ((rd_T66 l0 x11_1).f1)] 66 (0, 0)) (by (with_reducible repeat (first | refine blk_drewN ?_ _ | refine blk_drew ?_ | refine blk_alloc ?_ _)); exact BK110.out) hb); have n3_ := Aside0.mk (below_step (by repeat (first | (with_reducible first | exact HB.out | apply below_alloc | apply pw_below_drewN | apply below_drew1 | refine below_set ?_ GE110.out) | exact HB.out)) hb); clear HO_3; clear BK110; clear HB; have HO_3 := n0_; have HO114 := n1_; have BK110 := n2_; have HB := n3_; clear n0_ n1_ n2_ n3_; (try clear hb); (try clear hb2); (try clear hk); (try clear hi); (try clear ho0); obtain ⟨Ao11, co11, eo11⟩ := Kd.R_slice HO114.out; subst eo11))
            go_loopg [6, 20] k1 (fun kq v6 v20 w' => ∃ (x6_2 : ByteArray) (x20_2 : Int), v6 = .string x6_2 ∧ v20 = .int .i64 x20_2 ∧ Aside0 (lex_Show.l1 kq x3_1 x6_2 l0 (l0.length : Int) x11_1 t112 (t112.length : Int) x20_2 ((rd_T66 l0 x11_1).f0) ((rd_T66 l0 x11_1).f1) = some r) ∧ Aside0 (kq ≤ k1) ∧ Aside0 (Kd.R Kd.string 9 w' w.heap.size (fun _ => True) u3 x3_1) ∧ Aside0 (Kd.R k118 118 w' w.heap.size (fun _ => True) (.slice Ao11 t112.length co11) t112) ∧ Aside0 (w'.heap[gb110]? = some (.cells #[.int .i64 ((rd_T66 l0 x11_1).f0), .string ((rd_T66 l0 x11_1).f1)] 66 (0, 0))) ∧ Aside0 (Below w.heap.size w w'))
            case atStart => exact ⟨(t111), (0), (by first | rfl | (simp; done) | (simp [*]; done)), (by first | rfl | (simp; done) | (simp [*]; done)), H', ⟨Nat.le_refl _⟩, ⟨by (with_reducible repeat (first | apply Kd.R_alloc | apply Kd.R_drewN | apply Kd.R_drew)); (first | exact HO_3.out | (first | refine Kd.R_mono HO_3.out (fun _ hk => ?_) | refine Kd.S_mono HO_3.out (fun _ hk => ?_) | refine Kd.Q_mono HO_3.out (fun _ hk => ?_)); simp only [ownBlock_slice] at hk ⊢; exact hk)⟩, ⟨by (with_reducible repeat (first | apply Kd.R_alloc | apply Kd.R_drewN | apply Kd.R_drew)); (first | exact HO114.out | (first | refine Kd.R_mono HO114.out (fun _ hk => ?_) | refine Kd.S_mono HO114.out (fun _ hk => ?_) | refine Kd.Q_mono HO114.out (fun _ hk => ?_)); simp only [ownBlock_slice] at hk ⊢; exact hk)⟩, ⟨by (with_reducible repeat (first | refine blk_drewN ?_ _ | refine blk_drew ?_ | refine blk_alloc ?_ _)); exact BK110.out⟩, ⟨by repeat (first | (with_reducible first | exact HB.out | apply below_alloc | apply pw_below_drewN | apply below_drew1 | refine below_set ?_ GE110.out) | exact HB.out)⟩⟩
            case round =>
              clear H'
              try clear p1
              try clear q1
              try clear hx1
              try clear c2
              try clear c2b0
              try clear p2
              try clear c3
              try clear c3b0
              try clear c4
              try clear c4b0
              try clear p10
              try clear q10
              try clear hx10
              try clear hcz8_0
              try clear hcz8_1
              try clear hfz8_0
              try clear hfz8_1
              try clear hx109_0
              try clear hx109_1
              try clear p109
              try clear q109
              obtain ⟨x6_2, x20_2, rfl, rfl, HA, HK2, HO_3, HO_18, BK110, HB⟩ := hrel
              cases gk with
              | zero => exact absurd HA.out (by simp [lex_Show.l1])
              | succ k2 =>
                have H := HA.out
                clear HA
                simp only [lex_Show.l1] at H
                by_cases c12 : x20_2 < (t112.length : Int)
                · rw [if_pos c12] at H
                  have c12b0 : decide (x20_2 < (t112.length : Int)) = true := decide_eq_true c12
                  clear c12
                  by_cases c13 : 0 ≤ x20_2
                  · rw [if_pos c13] at H
                    have c13b0 : decide (0 ≤ x20_2) = true := decide_eq_true c13
                    clear c13
                    by_cases c14 : x20_2 < (t112.length : Int)
                    · rw [if_pos c14] at H
                      have c14b0 : decide (x20_2 < (t112.length : Int)) = true := decide_eq_true c14
                      clear c14
                      by_cases c15 : ((rd_T118 t112 x20_2).f1) = ((rd_T66 l0 x11_1).f0)
                      · rw [if_pos c15] at H
                        have c15b0 : (((rd_T118 t112 x20_2).f1) == ((rd_T66 l0 x11_1).f0)) = true := beq_iff_eq.mpr c15
                        have c15b1 : (((rd_T118 t112 x20_2).f1) != ((rd_T66 l0 x11_1).f0)) = false := bne_eq_false_iff_eq.mpr c15
                        clear c15
                        have H' := Aside0.mk H
                        clear H
                        have p115 : 0 ≤ (x20_2 : Int) := of_decide_eq_true (by first | (with_reducible assumption) | assumption)
                        have q115 : x20_2 < (t112.length : Int) := of_decide_eq_true (by first | (with_reducible assumption) | assumption)
                        obtain ⟨ad115, e115, hx115_0, hx115_1⟩ := at_T118 (Kd.R_reads' HO_18.out).2.2 x20_2 p115 q115
                        cases e115
                        replace p115 := eq_true p115
                        replace q115 := eq_true q115
                        go_wp2_with (first | ((with_reducible refine gate_dst (N := 8) rfl ?_); refine box_event ?hg (N := 8) ?hd (cs := #[.string (⟨#[]⟩ : ByteArray), .int .i64 0]) (t := 118) ?hr ?_; (case hd => rfl); (case hg => rfl); (case hr => first | (go_simp; done) | (go_simp; rfl)); intro gb116 hg w16 hbox hb; have n0_ := Aside0.mk (Kd.R_below (by (with_reducible repeat (first | apply Kd.R_alloc | apply Kd.R_drewN | apply Kd.R_drew)); (first | exact HO_3.out | (first | refine Kd.R_mono HO_3.out (fun _ hk => ?_) | refine Kd.S_mono HO_3.out (fun _ hk => ?_) | refine Kd.Q_mono HO_3.out (fun _ hk => ?_)); simp only [ownBlock_slice] at hk ⊢; exact hk)) hb); have n1_ := Aside0.mk (Kd.R_below (Kd.R_elderB (by (with_reducible repeat (first | apply Kd.R_alloc | apply Kd.R_drewN | apply Kd.R_drew)); (first | exact HO_18.out | (first | refine Kd.R_mono HO_18.out (fun _ hk => ?_) | refine Kd.S_mono HO_18.out (fun _ hk => ?_) | refine Kd.Q_mono HO_18.out (fun _ hk => ?_)); simp only [ownBlock_slice] at hk ⊢; exact hk)) gb116 (Nat.le_of_eq hg.symm)) hb); have n2_ := Aside0.mk (blk_below (g := gb110) (o := .cells #[.int .i64 ((rd_T66 l0 x11_1).f0), .string ((rd_T66 l0 x11_1).f1)] 66 (0, 0)) (by (with_reducible repeat (first | refine blk_drewN ?_ _ | refine blk_drew ?_ | refine blk_alloc ?_ _)); exact BK110.out) hb); have n3_ := Aside0.mk (below_step (by repeat (first | (with_reducible first | exact HB.out | apply below_alloc | apply pw_below_drewN | apply below_drew1 | refine below_set ?_ GE110.out) | exact HB.out)) hb); have n4_ := Aside0.mk (hbox); have n5_ := Aside0.mk ((by rw [hg]; exact (below_size (by repeat (first | (with_reducible first | exact HB.out | apply below_alloc | apply pw_below_drewN | apply below_drew1 | refine below_set ?_ GE110.out) | exact HB.out))) : w.heap.size ≤ gb116)); have n6_ := Aside0.mk ((by rw [hg]; exact (below_size (by repeat (first | (with_reducible first | exact HB.out | apply below_alloc | apply pw_below_drewN | apply below_drew1 | refine below_set ?_ GE110.out) | exact HB.out))) : w.heap.size ≤ gb116)); have n7_ := Aside0.mk ((by rw [hg]; exact Nat.ne_of_lt (blk_lt (g := gb110) (o := .cells #[.int .i64 ((rd_T66 l0 x11_1).f0), .string ((rd_T66 l0 x11_1).f1)] 66 (0, 0)) (by (with_reducible repeat (first | refine blk_drewN ?_ _ | refine blk_drew ?_ | refine blk_alloc ?_ _)); exact BK110.out)) : gb110 ≠ gb116)); have n8_ := Aside0.mk ((by rw [hg]; exact Nat.ne_of_gt (blk_lt (g := gb110) (o := .cells #[.int .i64 ((rd_T66 l0 x11_1).f0), .string ((rd_T66 l0 x11_1).f1)] 66 (0, 0)) (by (with_reducible repeat (first | refine blk_drewN ?_ _ | refine blk_drew ?_ | refine blk_alloc ?_ _)); exact BK110.out)) : gb116 ≠ gb110)); clear HO_3; clear HO_18; clear BK110; clear HB; have HO_3 := n0_; have HO_18 := n1_; have BK110 := n2_; have HB := n3_; have BK116 := n4_; have GW116 := n5_; have GE116 := n6_; have NB110_116 := n7_; have NB116_110 := n8_; clear n0_ n1_ n2_ n3_ n4_ n5_ n6_ n7_ n8_; clear hb hbox hg; have hnb17 := NB116_110.out; have hnc17 := NB110_116.out; have hcz18_0 : w16.cell? ⟨gb116, 0, none⟩ = some (.string (⟨#[]⟩ : ByteArray)) := (blk_cell BK116.out 0).trans rfl; have hcz18_1 : w16.cell? ⟨gb116, 1, none⟩ = some (.int .i64 0) := (blk_cell BK116.out 1).trans rfl; have hfz18_0 := blk_frozen BK116.out 0; have hfz18_1 := blk_frozen BK116.out 1; have hcz19_0 : w16.cell? ⟨gb110, 0, none⟩ = some (.int .i64 ((rd_T66 l0 x11_1).f0)) := (blk_cell BK110.out 0).trans rfl; have hcz19_1 : w16.cell? ⟨gb110, 1, none⟩ = some (.string ((rd_T66 l0 x11_1).f1)) := (blk_cell BK110.out 1).trans rfl; have hfz19_0 := blk_frozen BK110.out 0; have hfz19_1 := blk_frozen BK110.out 1))
                        go_roundg k2
                        case measure => have := HK1.out; have := HK2.out; omega
                        case rel => exact ⟨((rd_T118 t112 x20_2).f0), (wrap64 (x20_2 + 1)), (by first | rfl | (simp; done) | (simp [*]; done)), (by first | rfl | (simp; done) | (simp [*]; done)), H', ⟨by have := HK1.out; have := HK2.out; omega⟩, ⟨by (with_reducible repeat (first | apply Kd.R_alloc | apply Kd.R_drewN | apply Kd.R_drew)); exact Kd.R_mono (Kd.R_far (p := ⟨gb116, 1, none⟩) (Kd.R_far (p := ⟨gb116, 0, none⟩) (Kd.R_types HO_3.out BK116.out (by decide)) (fun _ hk => hk.2) (.string ((rd_T118 t112 x20_2).f0))) (fun _ hk => hk.2) (.int .i64 ((rd_T118 t112 x20_2).f1))) (fun _ hk => trivial)⟩, ⟨by (with_reducible repeat (first | apply Kd.R_alloc | apply Kd.R_drewN | apply Kd.R_drew)); exact Kd.R_mono (Kd.R_far (p := ⟨gb116, 1, none⟩) (Kd.R_far (p := ⟨gb116, 0, none⟩) (Kd.R_mono HO_18.out (fun k_ hk => (⟨hk, hk.2⟩ : _ ∧ k_ ≠ gb116))) (fun _ hk => hk.2) (.string ((rd_T118 t112 x20_2).f0))) (fun _ hk => hk.2) (.int .i64 ((rd_T118 t112 x20_2).f1))) (fun _ hk => trivial)⟩, ⟨by (with_reducible repeat (first | refine blk_drewN ?_ _ | refine blk_drew ?_ | refine blk_alloc ?_ _)); refine blk_far ?_ NB110_116.out _; (with_reducible repeat (first | refine blk_drewN ?_ _ | refine blk_drew ?_ | refine blk_alloc ?_ _)); refine blk_far ?_ NB110_116.out _; (with_reducible repeat (first | refine blk_drewN ?_ _ | refine blk_drew ?_ | refine blk_alloc ?_ _)); exact BK110.out⟩, ⟨by repeat (first | (with_reducible first | exact HB.out | apply below_alloc | apply pw_below_drewN | apply below_drew1 | refine below_set ?_ GE110.out | refine below_set ?_ GE116.out) | exact HB.out)⟩⟩
                      · rw [if_neg c15] at H
                        have c15b0 : (((rd_T118 t112 x20_2).f1) == ((rd_T66 l0 x11_1).f0)) = false := beq_eq_false_iff_ne.mpr c15
                        have c15b1 : (((rd_T118 t112 x20_2).f1) != ((rd_T66 l0 x11_1).f0)) = true := bne_iff_ne.mpr c15
                        have H' := Aside0.mk H
                        clear H
                        have p115 : 0 ≤ (x20_2 : Int) := of_decide_eq_true (by first | (with_reducible assumption) | assumption)
                        have q115 : x20_2 < (t112.length : Int) := of_decide_eq_true (by first | (with_reducible assumption) | assumption)
                        obtain ⟨ad115, e115, hx115_0, hx115_1⟩ := at_T118 (Kd.R_reads' HO_18.out).2.2 x20_2 p115 q115
                        cases e115
                        replace p115 := eq_true p115
                        replace q115 := eq_true q115
                        go_wp2_with (first | ((with_reducible refine gate_dst (N := 8) rfl ?_); refine box_event ?hg (N := 8) ?hd (cs := #[.string (⟨#[]⟩ : ByteArray), .int .i64 0]) (t := 118) ?hr ?_; (case hd => rfl); (case hg => rfl); (case hr => first | (go_simp; done) | (go_simp; rfl)); intro gb116 hg w20 hbox hb; have n0_ := Aside0.mk (Kd.R_below (by (with_reducible repeat (first | apply Kd.R_alloc | apply Kd.R_drewN | apply Kd.R_drew)); (first | exact HO_3.out | (first | refine Kd.R_mono HO_3.out (fun _ hk => ?_) | refine Kd.S_mono HO_3.out (fun _ hk => ?_) | refine Kd.Q_mono HO_3.out (fun _ hk => ?_)); simp only [ownBlock_slice] at hk ⊢; exact hk)) hb); have n1_ := Aside0.mk (Kd.R_below (Kd.R_elderB (by (with_reducible repeat (first | apply Kd.R_alloc | apply Kd.R_drewN | apply Kd.R_drew)); (first | exact HO_18.out | (first | refine Kd.R_mono HO_18.out (fun _ hk => ?_) | refine Kd.S_mono HO_18.out (fun _ hk => ?_) | refine Kd.Q_mono HO_18.out (fun _ hk => ?_)); simp only [ownBlock_slice] at hk ⊢; exact hk)) gb116 (Nat.le_of_eq hg.symm)) hb); have n2_ := Aside0.mk (blk_below (g := gb110) (o := .cells #[.int .i64 ((rd_T66 l0 x11_1).f0), .string ((rd_T66 l0 x11_1).f1)] 66 (0, 0)) (by (with_reducible repeat (first | refine blk_drewN ?_ _ | refine blk_drew ?_ | refine blk_alloc ?_ _)); exact BK110.out) hb); have n3_ := Aside0.mk (below_step (by repeat (first | (with_reducible first | exact HB.out | apply below_alloc | apply pw_below_drewN | apply below_drew1 | refine below_set ?_ GE110.out) | exact HB.out)) hb); have n4_ := Aside0.mk (hbox); have n5_ := Aside0.mk ((by rw [hg]; exact (below_size (by repeat (first | (with_reducible first | exact HB.out | apply below_alloc | apply pw_below_drewN | apply below_drew1 | refine below_set ?_ GE110.out) | exact HB.out))) : w.heap.size ≤ gb116)); have n6_ := Aside0.mk ((by rw [hg]; exact (below_size (by repeat (first | (with_reducible first | exact HB.out | apply below_alloc | apply pw_below_drewN | apply below_drew1 | refine below_set ?_ GE110.out) | exact HB.out))) : w.heap.size ≤ gb116)); have n7_ := Aside0.mk ((by rw [hg]; exact Nat.ne_of_lt (blk_lt (g := gb110) (o := .cells #[.int .i64 ((rd_T66 l0 x11_1).f0), .string ((rd_T66 l0 x11_1).f1)] 66 (0, 0)) (by (with_reducible repeat (first | refine blk_drewN ?_ _ | refine blk_drew ?_ | refine blk_alloc ?_ _)); exact BK110.out)) : gb110 ≠ gb116)); have n8_ := Aside0.mk ((by rw [hg]; exact Nat.ne_of_gt (blk_lt (g := gb110) (o := .cells #[.int .i64 ((rd_T66 l0 x11_1).f0), .string ((rd_T66 l0 x11_1).f1)] 66 (0, 0)) (by (with_reducible repeat (first | refine blk_drewN ?_ _ | refine blk_drew ?_ | refine blk_alloc ?_ _)); exact BK110.out)) : gb116 ≠ gb110)); clear HO_3; clear HO_18; clear BK110; clear HB; have HO_3 := n0_; have HO_18 := n1_; have BK110 := n2_; have HB := n3_; have BK116 := n4_; have GW116 := n5_; have GE116 := n6_; have NB110_116 := n7_; have NB116_110 := n8_; clear n0_ n1_ n2_ n3_ n4_ n5_ n6_ n7_ n8_; clear hb hbox hg; have hnb21 := NB116_110.out; have hnc21 := NB110_116.out; have hcz22_0 : w20.cell? ⟨gb116, 0, none⟩ = some (.string (⟨#[]⟩ : ByteArray)) := (blk_cell BK116.out 0).trans rfl; have hcz22_1 : w20.cell? ⟨gb116, 1, none⟩ = some (.int .i64 0) := (blk_cell BK116.out 1).trans rfl; have hfz22_0 := blk_frozen BK116.out 0; have hfz22_1 := blk_frozen BK116.out 1; have hcz23_0 : w20.cell? ⟨gb110, 0, none⟩ = some (.int .i64 ((rd_T66 l0 x11_1).f0)) := (blk_cell BK110.out 0).trans rfl; have hcz23_1 : w20.cell? ⟨gb110, 1, none⟩ = some (.string ((rd_T66 l0 x11_1).f1)) := (blk_cell BK110.out 1).trans rfl; have hfz23_0 := blk_frozen BK110.out 0; have hfz23_1 := blk_frozen BK110.out 1))
                        go_roundg k2
                        case measure => have := HK1.out; have := HK2.out; omega
                        case rel => exact ⟨(x6_2), (wrap64 (x20_2 + 1)), (by first | rfl | (simp; done) | (simp [*]; done)), (by first | rfl | (simp; done) | (simp [*]; done)), H', ⟨by have := HK1.out; have := HK2.out; omega⟩, ⟨by (with_reducible repeat (first | apply Kd.R_alloc | apply Kd.R_drewN | apply Kd.R_drew)); exact Kd.R_mono (Kd.R_far (p := ⟨gb116, 1, none⟩) (Kd.R_far (p := ⟨gb116, 0, none⟩) (Kd.R_types HO_3.out BK116.out (by decide)) (fun _ hk => hk.2) (.string ((rd_T118 t112 x20_2).f0))) (fun _ hk => hk.2) (.int .i64 ((rd_T118 t112 x20_2).f1))) (fun _ hk => trivial)⟩, ⟨by (with_reducible repeat (first | apply Kd.R_alloc | apply Kd.R_drewN | apply Kd.R_drew)); exact Kd.R_mono (Kd.R_far (p := ⟨gb116, 1, none⟩) (Kd.R_far (p := ⟨gb116, 0, none⟩) (Kd.R_mono HO_18.out (fun k_ hk => (⟨hk, hk.2⟩ : _ ∧ k_ ≠ gb116))) (fun _ hk => hk.2) (.string ((rd_T118 t112 x20_2).f0))) (fun _ hk => hk.2) (.int .i64 ((rd_T118 t112 x20_2).f1))) (fun _ hk => trivial)⟩, ⟨by (with_reducible repeat (first | refine blk_drewN ?_ _ | refine blk_drew ?_ | refine blk_alloc ?_ _)); refine blk_far ?_ NB110_116.out _; (with_reducible repeat (first | refine blk_drewN ?_ _ | refine blk_drew ?_ | refine blk_alloc ?_ _)); refine blk_far ?_ NB110_116.out _; (with_reducible repeat (first | refine blk_drewN ?_ _ | refine blk_drew ?_ | refine blk_alloc ?_ _)); exact BK110.out⟩, ⟨by repeat (first | (with_reducible first | exact HB.out | apply below_alloc | apply pw_below_drewN | apply below_drew1 | refine below_set ?_ GE110.out | refine below_set ?_ GE116.out) | exact HB.out)⟩⟩
                    · rw [if_neg c14] at H
                      exact absurd H (by simp)
                  · rw [if_neg c13] at H
                    exact absurd H (by simp)
                · rw [if_neg c12] at H
                  have c12b0 : decide (x20_2 < (t112.length : Int)) = false := decide_eq_false c12
                  clear c12
                  by_cases c24 : x3_1.length < 8796093022208
                  · rw [if_pos c24] at H
                    have LMc24 := Aside0.mk c24
                    clear c24
                    obtain ⟨y117, hy117⟩ : ∃ y_ : List ByteArray, y_ = (x3_1 ++ [x6_2]) := ⟨_, rfl⟩
                    replace H : (lex_Show.l0 k2 y117 l0 (l0.length : Int) (wrap64 (x11_1 + 1))) = some r := by first | (rw [hy117]; with_reducible exact H) | (have H2_ := (Option.bind_some _ _).symm.trans H; rw [hy117]; with_reducible exact H2_) | (have H2_ := (Option.bind_some _ _).symm.trans H; with_reducible exact H2_) | with_reducible exact H | (rw [hy117]; exact H) | exact H
                    have Ny117 := Aside0.mk hy117
                    clear hy117
                    have H' := Aside0.mk H
                    clear H
                    go_wp2_with (first | ((with_reducible refine gate_builtin (b := .append) (xs := #[.tmp 32, .tmp 34]) rfl ?_); at_builtin; refine Kd.R_append Kd.string (w0 := w) w.heap.size rfl (.tmp 32) (.tmp 34) 37 9 (.string ⟨#[]⟩) 16 rfl Tryd.underlying37 info9 rfl (by decide) (by omega) u3 x3_1 x6_2 [.string x6_2] (fun _ => True) (fun _ => False) rfl rfl ?aP (fun _ hk => hk.elim) ?aF ?aO ?aB ?aS ?aL ?_; (case aP => exact rfl); (case aB => exact (by repeat (first | (with_reducible first | exact HB.out | apply below_alloc | apply pw_below_drewN | apply below_drew1 | refine below_set ?_ GE110.out) | exact HB.out))); (case aF => exact (fun _ _ => trivial)); (case aO => exact (by (with_reducible repeat (first | apply Kd.R_alloc | apply Kd.R_drewN | apply Kd.R_drew)); (first | exact HO_3.out | (first | refine Kd.R_mono HO_3.out (fun _ hk => ?_) | refine Kd.S_mono HO_3.out (fun _ hk => ?_) | refine Kd.Q_mono HO_3.out (fun _ hk => ?_)); simp only [ownBlock_slice] at hk ⊢; exact hk))); (case aS => exact (below_size (by repeat (first | (with_reducible first | exact HB.out | apply below_alloc | apply pw_below_drewN | apply below_drew1 | refine below_set ?_ GE110.out) | exact HB.out)))); (case aL => have := LMc24.out; omega); intro v118 w25 ho hb hg hat; rw [← Ny117.out] at ho; have n0_ := Aside0.mk (Kd.R_over' (by (with_reducible repeat (first | apply Kd.R_alloc | apply Kd.R_drewN | apply Kd.R_drew)); (first | exact HO_18.out | (first | refine Kd.R_mono HO_18.out (fun _ hk => ?_) | refine Kd.S_mono HO_18.out (fun _ hk => ?_) | refine Kd.Q_mono HO_18.out (fun _ hk => ?_)); simp only [ownBlock_slice] at hk ⊢; exact hk)) (Kd.R_typed (by (with_reducible repeat (first | apply Kd.R_alloc | apply Kd.R_drewN | apply Kd.R_drew)); (first | exact HO_3.out | (first | refine Kd.R_mono HO_3.out (fun _ hk => ?_) | refine Kd.S_mono HO_3.out (fun _ hk => ?_) | refine Kd.Q_mono HO_3.out (fun _ hk => ?_)); simp only [ownBlock_slice] at hk ⊢; exact hk))) (by decide) hg); have n1_ := Aside0.mk (blk_grown (g := gb110) (o := .cells #[.int .i64 ((rd_T66 l0 x11_1).f0), .string ((rd_T66 l0 x11_1).f1)] 66 (0, 0)) (by (with_reducible repeat (first | refine blk_drewN ?_ _ | refine blk_drew ?_ | refine blk_alloc ?_ _)); exact BK110.out) hg (Kd.R_ne HO_3.out BK110.out (by decide))); have n2_ := Aside0.mk (hb); have n3_ := Aside0.mk (ho); clear HO_18; clear BK110; clear HB; clear HO_3; have HO_18 := n0_; have BK110 := n1_; have HB := n2_; have HO119 := n3_; clear n0_ n1_ n2_ n3_; clear ho hb hg hat))
                    go_roundg k2
                    case measure => have := HK1.out; have := HK2.out; omega
                    case rel => exact ⟨(y117), (wrap64 (x11_1 + 1)), (by first | rfl | (simp; done) | (simp [*]; done)), H', ⟨by have := HK1.out; have := HK2.out; omega⟩, ⟨by (with_reducible repeat (first | apply Kd.R_alloc | apply Kd.R_drewN | apply Kd.R_drew)); (first | exact HO119.out | (first | refine Kd.R_mono HO119.out (fun _ hk => ?_) | refine Kd.S_mono HO119.out (fun _ hk => ?_) | refine Kd.Q_mono HO119.out (fun _ hk => ?_)); simp only [ownBlock_slice] at hk ⊢; exact hk)⟩, ⟨by repeat (first | (with_reducible first | exact HB.out | apply below_alloc | apply pw_below_drewN | apply below_drew1 | refine below_set ?_ GE110.out) | exact HB.out)⟩⟩
                  · rw [if_neg c24] at H
                    exact absurd H (by simp)
          · rw [if_neg c4] at H
            exact absurd H (by simp)
        · rw [if_neg c3] at H
          exact absurd H (by simp)
      · rw [if_neg c2] at H
        have c2b0 : decide (x11_1 < (l0.length : Int)) = false := decide_eq_false c2
        clear c2
        replace H := Option.bind_eq_some_iff.mp H
        obtain ⟨t108, A260, H⟩ := H
        replace H : (some t108) = some r := H
        have A26 := Aside0.mk A260
        clear A260
        obtain rfl := Option.some.inj H
        obtain ⟨Ao27, co27, eo27⟩ := Kd.R_slice HO_3.out
        subst eo27
        go_wp2_with (first | ((with_reducible refine gate_callee (f := 50) rfl ?_); refine goesL_ (some 38) rfl rfl Tryd.func50 (by kernel_rfl) rfl #[.slice Ao27 x3_1.length co27, .string (⟨#[32]⟩ : ByteArray)] rfl (by (try simp only [List.map_toArray, List.map_cons, List.map_nil]); first | done | rfl | (simp only [List.length_drop, List.length_take]; rfl)) ?_; (with_reducible refine (strings_Join.calls _ _ x3_1 (⟨#[32]⟩ : ByteArray) t108 _ ?side1 ?side2 A26.out).mono ?_); (case side1 => repeat (first | exact (Kd.R_reads' HO_3.out).2.2 | (with_reducible refine Kd.C_alloc ?_ _) | (with_reducible refine Kd.C_drewN ?_ _) | (with_reducible refine Kd.C_drew ?_))); (case side2 => exact (Kd.R_reads' HO_3.out).2.1); rintro e w28 ⟨rfl, hb⟩; refine ⟨_, rfl, ?_⟩; have n0_ := Aside0.mk (Kd.R_below (by (with_reducible repeat (first | apply Kd.R_alloc | apply Kd.R_drewN | apply Kd.R_drew)); (first | exact HO_3.out | (first | refine Kd.R_mono HO_3.out (fun _ hk => ?_) | refine Kd.S_mono HO_3.out (fun _ hk => ?_) | refine Kd.Q_mono HO_3.out (fun _ hk => ?_)); simp only [ownBlock_slice] at hk ⊢; exact hk)) hb); have n1_ := Aside0.mk (below_step (by repeat (first | (with_reducible first | exact HB.out | apply below_alloc | apply pw_below_drewN | apply below_drew1) | exact HB.out)) hb); clear HO_3; clear HB; have HO_3 := n0_; have HB := n1_; clear n0_ n1_; (try clear hb); (try clear hb2); (try clear hk); (try clear hi)))
        go_ret
        exact ⟨by first | rfl | (simp [errW_none, errW_some] <;> rfl) | (simp [*, errW_none, errW_some] <;> rfl), by repeat (first | (with_reducible first | exact HB.out | apply below_alloc | apply pw_below_drewN | apply below_drew1) | exact HB.out)⟩

/-! ### lex_mark: function 41 -/
def lex_mark.l0 : Nat → ByteArray → List (S118) → Int → Int → Option (Int × Int)
  | 0, _, _, _, _ => none
  | k + 1, x0, x6, x7, x8 => if x8 < x7 then (if 0 ≤ x8 then (if x8 < (x6.length : Int) then ((strings_HasPrefix.f x0 ((rd_T118 x6 x8).f0)).bind fun t125 => (if t125 = true then (some ((rd_T118 x6 x8).f1, (((rd_T118 x6 x8).f0).size : Int))) else (lex_mark.l0 k x0 x6 x7 (wrap64 (x8 + 1))))) else (none)) else (none)) else (some (0, 0))
def lex_mark.f (k : Nat) (a0 : ByteArray) : Option (Int × Int) := (lex_marks.f).bind fun t120 => (lex_mark.l0 k a0 t120 (t120.length : Int) 0)
theorem lex_mark.mono_l : ∀ k, (∀ y0 y1 y2 y3, LeO (lex_mark.l0 k y0 y1 y2 y3) (lex_mark.l0 (k + 1) y0 y1 y2 y3))
  | 0 => fun _ _ _ _ r h => by simp [lex_mark.l0] at h
  | k + 1 => by
    have ih0 := lex_mark.mono_l k
    · intro y0 y1 y2 y3
      unfold lex_mark.l0
      repeat' first
      | (with_reducible exact ih0 _ _ _ _)
      | (with_reducible exact LeO.refl _)
      | (with_reducible exact LeO.none _)
      | (with_reducible refine LeO.ite ?_ ?_)
      | (with_reducible refine LeO.bind ?_ (fun _ => ?_))
      | exact ih0 _ _ _ _
      | exact LeO.none _
      | refine LeO.ite ?_ ?_
      | refine LeO.bind ?_ (fun _ => ?_)
theorem lex_mark.mono : ∀ a0 k, LeO (lex_mark.f k a0) (lex_mark.f (k + 1) a0) := by
  intro a0 k
  have ih0 := lex_mark.mono_l k
  unfold lex_mark.f
  repeat' first
      | (with_reducible exact ih0 _ _ _ _)
      | (with_reducible exact LeO.refl _)
      | (with_reducible exact LeO.none _)
      | (with_reducible refine LeO.ite ?_ ?_)
      | (with_reducible refine LeO.bind ?_ (fun _ => ?_))
      | exact ih0 _ _ _ _
      | exact LeO.none _
      | refine LeO.ite ?_ ?_
      | refine LeO.bind ?_ (fun _ => ?_)
set_option maxHeartbeats 8000000 in
set_option maxRecDepth 100000 in
theorem lex_mark.calls (k : Nat) (a0 : ByteArray) (r1 : Int) (r2 : Int) (w : World) (h : lex_mark.f k a0 = some (r1, r2)) :
    Calls Tryd.prog 41 #[.string a0] w fun e w' => e = .returned (.tuple #[.int .i64 r1, .int .i64 r2]) ∧ Below w.heap.size w w' := by
  have hu118 := Tryd.underlying118
  have HB := Aside0.mk (Below.refl w.heap.size w)
  have H : ((lex_marks.f).bind fun t120 => (lex_mark.l0 k a0 t120 (t120.length : Int) 0)) = some (r1, r2) := h
  clear h
  replace H := Option.bind_eq_some_iff.mp H
  obtain ⟨t120, A20, H⟩ := H
  replace H : (lex_mark.l0 k a0 t120 (t120.length : Int) 0) = some (r1, r2) := H
  have A2 := Aside0.mk A20
  clear A20
  have H' := Aside0.mk H
  clear H
  go_enter Tryd.func41, Tryd.ntmps41
  go_wp2_with (first | (go_at_call 49; (with_reducible refine (lex_marks.calls  t120 _ A2.out).mono ?_); rintro e w3 ⟨v121, rfl, ho0, hb⟩; have n0_ := Aside0.mk (Kd.R_lower ho0 (below_size (by repeat (first | (with_reducible first | exact HB.out | apply below_alloc | apply pw_below_drewN | apply below_drew1) | exact HB.out)))); have n1_ := Aside0.mk (below_step (by repeat (first | (with_reducible first | exact HB.out | apply below_alloc | apply pw_below_drewN | apply below_drew1) | exact HB.out)) hb); clear HB; have HO122 := n0_; have HB := n1_; clear n0_ n1_; (try clear hb); (try clear hb2); (try clear hk); (try clear hi); (try clear ho0); obtain ⟨Ao4, co4, eo4⟩ := Kd.R_slice HO122.out; subst eo4))
  repeat (go_quiet (first | (go_at_call 49; (with_reducible refine (lex_marks.calls  t120 _ A2.out).mono ?_); rintro e w3 ⟨v121, rfl, ho0, hb⟩; have n0_ := Aside0.mk (Kd.R_lower ho0 (below_size (by repeat (first | (with_reducible first | exact HB.out | apply below_alloc | apply pw_below_drewN | apply below_drew1) | exact HB.out)))); have n1_ := Aside0.mk (below_step (by repeat (first | (with_reducible first | exact HB.out | apply below_alloc | apply pw_below_drewN | apply below_drew1) | exact HB.out)) hb); clear HB; have HO122 := n0_; have HB := n1_; clear n0_ n1_; (try clear hb); (try clear hb2); (try clear hk); (try clear hi); (try clear ho0); obtain ⟨Ao4, co4, eo4⟩ := Kd.R_slice HO122.out; subst eo4)); try go_wp2_with (first | (go_at_call 49; (with_reducible refine (lex_marks.calls  t120 _ A2.out).mono ?_); rintro e w3 ⟨v121, rfl, ho0, hb⟩; have n0_ := Aside0.mk (Kd.R_lower ho0 (below_size (by repeat (first | (with_reducible first | exact HB.out | apply below_alloc | apply pw_below_drewN | apply below_drew1) | exact HB.out)))); have n1_ := Aside0.mk (below_step (by repeat (first | (with_reducible first | exact HB.out | apply below_alloc | apply pw_below_drewN | apply below_drew1) | exact HB.out)) hb); clear HB; have HO122 := n0_; have HB := n1_; clear n0_ n1_; (try clear hb); (try clear hb2); (try clear hk); (try clear hi); (try clear ho0); obtain ⟨Ao4, co4, eo4⟩ := Kd.R_slice HO122.out; subst eo4)))
  go_loopg [8] k (fun kq v8 w' => ∃ (x8_1 : Int), v8 = .int .i64 x8_1 ∧ Aside0 (lex_mark.l0 kq a0 t120 (t120.length : Int) x8_1 = some (r1, r2)) ∧ Aside0 (kq ≤ k) ∧ Aside0 (Kd.R k118 118 w' w.heap.size (fun _ => True) (.slice Ao4 t120.length co4) t120) ∧ Aside0 (Below w.heap.size w w'))
  case atStart => exact ⟨(0), (by first | rfl | (simp; done) | (simp [*]; done)), H', ⟨Nat.le_refl _⟩, ⟨by (with_reducible repeat (first | apply Kd.R_alloc | apply Kd.R_drewN | apply Kd.R_drew)); (first | exact HO122.out | (first | refine Kd.R_mono HO122.out (fun _ hk => ?_) | refine Kd.S_mono HO122.out (fun _ hk => ?_) | refine Kd.Q_mono HO122.out (fun _ hk => ?_)); simp only [ownBlock_slice] at hk ⊢; exact hk)⟩, ⟨by repeat (first | (with_reducible first | exact HB.out | apply below_alloc | apply pw_below_drewN | apply below_drew1) | exact HB.out)⟩⟩
  case round =>
    clear H'
    try clear p2
    try clear c4
    obtain ⟨x8_1, rfl, HA, HK1, HO_6, HB⟩ := hrel
    cases gk with
    | zero => exact absurd HA.out (by simp [lex_mark.l0])
    | succ k1 =>
      have H := HA.out
      clear HA
      simp only [lex_mark.l0] at H
      by_cases c5 : x8_1 < (t120.length : Int)
      · rw [if_pos c5] at H
        have c5b0 : decide (x8_1 < (t120.length : Int)) = true := decide_eq_true c5
        clear c5
        by_cases c6 : 0 ≤ x8_1
        · rw [if_pos c6] at H
          have c6b0 : decide (0 ≤ x8_1) = true := decide_eq_true c6
          clear c6
          by_cases c7 : x8_1 < (t120.length : Int)
          · rw [if_pos c7] at H
            have c7b0 : decide (x8_1 < (t120.length : Int)) = true := decide_eq_true c7
            clear c7
            replace H := Option.bind_eq_some_iff.mp H
            obtain ⟨t125, A80, H⟩ := H
            replace H : (if t125 = true then (some ((rd_T118 t120 x8_1).f1, (((rd_T118 t120 x8_1).f0).size : Int))) else (lex_mark.l0 k1 a0 t120 (t120.length : Int) (wrap64 (x8_1 + 1)))) = some (r1, r2) := H
            have A8 := Aside0.mk A80
            clear A80
            by_cases c9 : t125 = true
            · subst c9
              have H1 : (some ((rd_T118 t120 x8_1).f1, (((rd_T118 t120 x8_1).f0).size : Int))) = some (r1, r2) := by rw [if_pos rfl] at H; exact H
              clear H
              have H := H1
              clear H1
              simp only [Option.some.injEq, Prod.mk.injEq] at H
              obtain ⟨rfl, rfl⟩ := H
              have p123 : 0 ≤ (x8_1 : Int) := of_decide_eq_true (by first | (with_reducible assumption) | assumption)
              have q123 : x8_1 < (t120.length : Int) := of_decide_eq_true (by first | (with_reducible assumption) | assumption)
              obtain ⟨ad123, e123, hx123_0, hx123_1⟩ := at_T118 (Kd.R_reads' HO_6.out).2.2 x8_1 p123 q123
              cases e123
              replace p123 := eq_true p123
              replace q123 := eq_true q123
              go_wp2_with (first | ((with_reducible refine gate_dst (N := 5) rfl ?_); refine box_event ?hg (N := 5) ?hd (cs := #[.string (⟨#[]⟩ : ByteArray), .int .i64 0]) (t := 118) ?hr ?_; (case hd => rfl); (case hg => rfl); (case hr => first | (go_simp; done) | (go_simp; rfl)); intro gb124 hg w10 hbox hb; have n0_ := Aside0.mk (Kd.R_below (Kd.R_elderB (by (with_reducible repeat (first | apply Kd.R_alloc | apply Kd.R_drewN | apply Kd.R_drew)); (first | exact HO_6.out | (first | refine Kd.R_mono HO_6.out (fun _ hk => ?_) | refine Kd.S_mono HO_6.out (fun _ hk => ?_) | refine Kd.Q_mono HO_6.out (fun _ hk => ?_)); simp only [ownBlock_slice] at hk ⊢; exact hk)) gb124 (Nat.le_of_eq hg.symm)) hb); have n1_ := Aside0.mk (below_step (by repeat (first | (with_reducible first | exact HB.out | apply below_alloc | apply pw_below_drewN | apply below_drew1) | exact HB.out)) hb); have n2_ := Aside0.mk (hbox); have n3_ := Aside0.mk ((by rw [hg]; exact (below_size (by repeat (first | (with_reducible first | exact HB.out | apply below_alloc | apply pw_below_drewN | apply below_drew1) | exact HB.out))) : w.heap.size ≤ gb124)); have n4_ := Aside0.mk ((by rw [hg]; exact (below_size (by repeat (first | (with_reducible first | exact HB.out | apply below_alloc | apply pw_below_drewN | apply below_drew1) | exact HB.out))) : w.heap.size ≤ gb124)); clear HO_6; clear HB; have HO_6 := n0_; have HB := n1_; have BK124 := n2_; have GW124 := n3_; have GE124 := n4_; clear n0_ n1_ n2_ n3_ n4_; clear hb hbox hg; have hcz11_0 : w10.cell? ⟨gb124, 0, none⟩ = some (.string (⟨#[]⟩ : ByteArray)) := (blk_cell BK124.out 0).trans rfl; have hcz11_1 : w10.cell? ⟨gb124, 1, none⟩ = some (.int .i64 0) := (blk_cell BK124.out 1).trans rfl; have hfz11_0 := blk_frozen BK124.out 0; have hfz11_1 := blk_frozen BK124.out 1) | (go_at_call 56; (with_reducible refine (strings_HasPrefix.calls a0 ((rd_T118 t120 x8_1).f0) true _ A8.out).mono ?_); rintro e w' ⟨rfl, ⟨nd, rfl⟩⟩; (try first | exact ⟨rfl, _, World.drewN_drewN _ _ _⟩ | exact ⟨rfl, _, Eq.trans (World.drewN_drewN _ _ _) (congrArg (World.drewN _) (Nat.add_assoc _ _ _))⟩)))
              repeat (go_quiet (first | ((with_reducible refine gate_dst (N := 5) rfl ?_); refine box_event ?hg (N := 5) ?hd (cs := #[.string (⟨#[]⟩ : ByteArray), .int .i64 0]) (t := 118) ?hr ?_; (case hd => rfl); (case hg => rfl); (case hr => first | (go_simp; done) | (go_simp; rfl)); intro gb124 hg w10 hbox hb; have n0_ := Aside0.mk (Kd.R_below (Kd.R_elderB (by (with_reducible repeat (first | apply Kd.R_alloc | apply Kd.R_drewN | apply Kd.R_drew)); (first | exact HO_6.out | (first | refine Kd.R_mono HO_6.out (fun _ hk => ?_) | refine Kd.S_mono HO_6.out (fun _ hk => ?_) | refine Kd.Q_mono HO_6.out (fun _ hk => ?_)); simp only [ownBlock_slice] at hk ⊢; exact hk)) gb124 (Nat.le_of_eq hg.symm)) hb); have n1_ := Aside0.mk (below_step (by repeat (first | (with_reducible first | exact HB.out | apply below_alloc | apply pw_below_drewN | apply below_drew1) | exact HB.out)) hb); have n2_ := Aside0.mk (hbox); have n3_ := Aside0.mk ((by rw [hg]; exact (below_size (by repeat (first | (with_reducible first | exact HB.out | apply below_alloc | apply pw_below_drewN | apply below_drew1) | exact HB.out))) : w.heap.size ≤ gb124)); have n4_ := Aside0.mk ((by rw [hg]; exact (below_size (by repeat (first | (with_reducible first | exact HB.out | apply below_alloc | apply pw_below_drewN | apply below_drew1) | exact HB.out))) : w.heap.size ≤ gb124)); clear HO_6; clear HB; have HO_6 := n0_; have HB := n1_; have BK124 := n2_; have GW124 := n3_; have GE124 := n4_; clear n0_ n1_ n2_ n3_ n4_; clear hb hbox hg; have hcz11_0 : w10.cell? ⟨gb124, 0, none⟩ = some (.string (⟨#[]⟩ : ByteArray)) := (blk_cell BK124.out 0).trans rfl; have hcz11_1 : w10.cell? ⟨gb124, 1, none⟩ = some (.int .i64 0) := (blk_cell BK124.out 1).trans rfl; have hfz11_0 := blk_frozen BK124.out 0; have hfz11_1 := blk_frozen BK124.out 1) | (go_at_call 56; (with_reducible refine (strings_HasPrefix.calls a0 ((rd_T118 t120 x8_1).f0) true _ A8.out).mono ?_); rintro e w' ⟨rfl, ⟨nd, rfl⟩⟩; (try first | exact ⟨rfl, _, World.drewN_drewN _ _ _⟩ | exact ⟨rfl, _, Eq.trans (World.drewN_drewN _ _ _) (congrArg (World.drewN _) (Nat.add_assoc _ _ _))⟩))); try go_wp2_with (first | ((with_reducible refine gate_dst (N := 5) rfl ?_); refine box_event ?hg (N := 5) ?hd (cs := #[.string (⟨#[]⟩ : ByteArray), .int .i64 0]) (t := 118) ?hr ?_; (case hd => rfl); (case hg => rfl); (case hr => first | (go_simp; done) | (go_simp; rfl)); intro gb124 hg w10 hbox hb; have n0_ := Aside0.mk (Kd.R_below (Kd.R_elderB (by (with_reducible repeat (first | apply Kd.R_alloc | apply Kd.R_drewN | apply Kd.R_drew)); (first | exact HO_6.out | (first | refine Kd.R_mono HO_6.out (fun _ hk => ?_) | refine Kd.S_mono HO_6.out (fun _ hk => ?_) | refine Kd.Q_mono HO_6.out (fun _ hk => ?_)); simp only [ownBlock_slice] at hk ⊢; exact hk)) gb124 (Nat.le_of_eq hg.symm)) hb); have n1_ := Aside0.mk (below_step (by repeat (first | (with_reducible first | exact HB.out | apply below_alloc | apply pw_below_drewN | apply below_drew1) | exact HB.out)) hb); have n2_ := Aside0.mk (hbox); have n3_ := Aside0.mk ((by rw [hg]; exact (below_size (by repeat (first | (with_reducible first | exact HB.out | apply below_alloc | apply pw_below_drewN | apply below_drew1) | exact HB.out))) : w.heap.size ≤ gb124)); have n4_ := Aside0.mk ((by rw [hg]; exact (below_size (by repeat (first | (with_reducible first | exact HB.out | apply below_alloc | apply pw_below_drewN | apply below_drew1) | exact HB.out))) : w.heap.size ≤ gb124)); clear HO_6; clear HB; have HO_6 := n0_; have HB := n1_; have BK124 := n2_; have GW124 := n3_; have GE124 := n4_; clear n0_ n1_ n2_ n3_ n4_; clear hb hbox hg; have hcz11_0 : w10.cell? ⟨gb124, 0, none⟩ = some (.string (⟨#[]⟩ : ByteArray)) := (blk_cell BK124.out 0).trans rfl; have hcz11_1 : w10.cell? ⟨gb124, 1, none⟩ = some (.int .i64 0) := (blk_cell BK124.out 1).trans rfl; have hfz11_0 := blk_frozen BK124.out 0; have hfz11_1 := blk_frozen BK124.out 1) | (go_at_call 56; (with_reducible refine (strings_HasPrefix.calls a0 ((rd_T118 t120 x8_1).f0) true _ A8.out).mono ?_); rintro e w' ⟨rfl, ⟨nd, rfl⟩⟩; (try first | exact ⟨rfl, _, World.drewN_drewN _ _ _⟩ | exact ⟨rfl, _, Eq.trans (World.drewN_drewN _ _ _) (congrArg (World.drewN _) (Nat.add_assoc _ _ _))⟩))))
              go_ret2
              exact ⟨by first | rfl | (simp [errW_none, errW_some] <;> rfl) | (simp [*, errW_none, errW_some] <;> rfl), by repeat (first | (with_reducible first | exact HB.out | apply below_alloc | apply pw_below_drewN | apply below_drew1 | refine below_set ?_ GE124.out) | exact HB.out)⟩
            · replace c9 := Bool.eq_false_iff.mpr c9
              subst c9
              have H1 : (lex_mark.l0 k1 a0 t120 (t120.length : Int) (wrap64 (x8_1 + 1))) = some (r1, r2) := by rw [if_neg (show ¬ (false = true) by decide)] at H; exact H
              clear H
              have H := H1
              clear H1
              have H' := Aside0.mk H
              clear H
              have p123 : 0 ≤ (x8_1 : Int) := of_decide_eq_true (by first | (with_reducible assumption) | assumption)
              have q123 : x8_1 < (t120.length : Int) := of_decide_eq_true (by first | (with_reducible assumption) | assumption)
              obtain ⟨ad123, e123, hx123_0, hx123_1⟩ := at_T118 (Kd.R_reads' HO_6.out).2.2 x8_1 p123 q123
              cases e123
              replace p123 := eq_true p123
              replace q123 := eq_true q123
              go_wp2_with (first | ((with_reducible refine gate_dst (N := 5) rfl ?_); refine box_event ?hg (N := 5) ?hd (cs := #[.string (⟨#[]⟩ : ByteArray), .int .i64 0]) (t := 118) ?hr ?_; (case hd => rfl); (case hg => rfl); (case hr => first | (go_simp; done) | (go_simp; rfl)); intro gb124 hg w12 hbox hb; have n0_ := Aside0.mk (Kd.R_below (Kd.R_elderB (by (with_reducible repeat (first | apply Kd.R_alloc | apply Kd.R_drewN | apply Kd.R_drew)); (first | exact HO_6.out | (first | refine Kd.R_mono HO_6.out (fun _ hk => ?_) | refine Kd.S_mono HO_6.out (fun _ hk => ?_) | refine Kd.Q_mono HO_6.out (fun _ hk => ?_)); simp only [ownBlock_slice] at hk ⊢; exact hk)) gb124 (Nat.le_of_eq hg.symm)) hb); have n1_ := Aside0.mk (below_step (by repeat (first | (with_reducible first | exact HB.out | apply below_alloc | apply pw_below_drewN | apply below_drew1) | exact HB.out)) hb); have n2_ := Aside0.mk (hbox); have n3_ := Aside0.mk ((by rw [hg]; exact (below_size (by repeat (first | (with_reducible first | exact HB.out | apply below_alloc | apply pw_below_drewN | apply below_drew1) | exact HB.out))) : w.heap.size ≤ gb124)); have n4_ := Aside0.mk ((by rw [hg]; exact (below_size (by repeat (first | (with_reducible first | exact HB.out | apply below_alloc | apply pw_below_drewN | apply below_drew1) | exact HB.out))) : w.heap.size ≤ gb124)); clear HO_6; clear HB; have HO_6 := n0_; have HB := n1_; have BK124 := n2_; have GW124 := n3_; have GE124 := n4_; clear n0_ n1_ n2_ n3_ n4_; clear hb hbox hg; have hcz13_0 : w12.cell? ⟨gb124, 0, none⟩ = some (.string (⟨#[]⟩ : ByteArray)) := (blk_cell BK124.out 0).trans rfl; have hcz13_1 : w12.cell? ⟨gb124, 1, none⟩ = some (.int .i64 0) := (blk_cell BK124.out 1).trans rfl; have hfz13_0 := blk_frozen BK124.out 0; have hfz13_1 := blk_frozen BK124.out 1) | (go_at_call 56; (with_reducible refine (strings_HasPrefix.calls a0 ((rd_T118 t120 x8_1).f0) false _ A8.out).mono ?_); rintro e w' ⟨rfl, ⟨nd, rfl⟩⟩; (try first | exact ⟨rfl, _, World.drewN_drewN _ _ _⟩ | exact ⟨rfl, _, Eq.trans (World.drewN_drewN _ _ _) (congrArg (World.drewN _) (Nat.add_assoc _ _ _))⟩)))
              repeat (go_quiet (first | ((with_reducible refine gate_dst (N := 5) rfl ?_); refine box_event ?hg (N := 5) ?hd (cs := #[.string (⟨#[]⟩ : ByteArray), .int .i64 0]) (t := 118) ?hr ?_; (case hd => rfl); (case hg => rfl); (case hr => first | (go_simp; done) | (go_simp; rfl)); intro gb124 hg w12 hbox hb; have n0_ := Aside0.mk (Kd.R_below (Kd.R_elderB (by (with_reducible repeat (first | apply Kd.R_alloc | apply Kd.R_drewN | apply Kd.R_drew)); (first | exact HO_6.out | (first | refine Kd.R_mono HO_6.out (fun _ hk => ?_) | refine Kd.S_mono HO_6.out (fun _ hk => ?_) | refine Kd.Q_mono HO_6.out (fun _ hk => ?_)); simp only [ownBlock_slice] at hk ⊢; exact hk)) gb124 (Nat.le_of_eq hg.symm)) hb); have n1_ := Aside0.mk (below_step (by repeat (first | (with_reducible first | exact HB.out | apply below_alloc | apply pw_below_drewN | apply below_drew1) | exact HB.out)) hb); have n2_ := Aside0.mk (hbox); have n3_ := Aside0.mk ((by rw [hg]; exact (below_size (by repeat (first | (with_reducible first | exact HB.out | apply below_alloc | apply pw_below_drewN | apply below_drew1) | exact HB.out))) : w.heap.size ≤ gb124)); have n4_ := Aside0.mk ((by rw [hg]; exact (below_size (by repeat (first | (with_reducible first | exact HB.out | apply below_alloc | apply pw_below_drewN | apply below_drew1) | exact HB.out))) : w.heap.size ≤ gb124)); clear HO_6; clear HB; have HO_6 := n0_; have HB := n1_; have BK124 := n2_; have GW124 := n3_; have GE124 := n4_; clear n0_ n1_ n2_ n3_ n4_; clear hb hbox hg; have hcz13_0 : w12.cell? ⟨gb124, 0, none⟩ = some (.string (⟨#[]⟩ : ByteArray)) := (blk_cell BK124.out 0).trans rfl; have hcz13_1 : w12.cell? ⟨gb124, 1, none⟩ = some (.int .i64 0) := (blk_cell BK124.out 1).trans rfl; have hfz13_0 := blk_frozen BK124.out 0; have hfz13_1 := blk_frozen BK124.out 1) | (go_at_call 56; (with_reducible refine (strings_HasPrefix.calls a0 ((rd_T118 t120 x8_1).f0) false _ A8.out).mono ?_); rintro e w' ⟨rfl, ⟨nd, rfl⟩⟩; (try first | exact ⟨rfl, _, World.drewN_drewN _ _ _⟩ | exact ⟨rfl, _, Eq.trans (World.drewN_drewN _ _ _) (congrArg (World.drewN _) (Nat.add_assoc _ _ _))⟩))); try go_wp2_with (first | ((with_reducible refine gate_dst (N := 5) rfl ?_); refine box_event ?hg (N := 5) ?hd (cs := #[.string (⟨#[]⟩ : ByteArray), .int .i64 0]) (t := 118) ?hr ?_; (case hd => rfl); (case hg => rfl); (case hr => first | (go_simp; done) | (go_simp; rfl)); intro gb124 hg w12 hbox hb; have n0_ := Aside0.mk (Kd.R_below (Kd.R_elderB (by (with_reducible repeat (first | apply Kd.R_alloc | apply Kd.R_drewN | apply Kd.R_drew)); (first | exact HO_6.out | (first | refine Kd.R_mono HO_6.out (fun _ hk => ?_) | refine Kd.S_mono HO_6.out (fun _ hk => ?_) | refine Kd.Q_mono HO_6.out (fun _ hk => ?_)); simp only [ownBlock_slice] at hk ⊢; exact hk)) gb124 (Nat.le_of_eq hg.symm)) hb); have n1_ := Aside0.mk (below_step (by repeat (first | (with_reducible first | exact HB.out | apply below_alloc | apply pw_below_drewN | apply below_drew1) | exact HB.out)) hb); have n2_ := Aside0.mk (hbox); have n3_ := Aside0.mk ((by rw [hg]; exact (below_size (by repeat (first | (with_reducible first | exact HB.out | apply below_alloc | apply pw_below_drewN | apply below_drew1) | exact HB.out))) : w.heap.size ≤ gb124)); have n4_ := Aside0.mk ((by rw [hg]; exact (below_size (by repeat (first | (with_reducible first | exact HB.out | apply below_alloc | apply pw_below_drewN | apply below_drew1) | exact HB.out))) : w.heap.size ≤ gb124)); clear HO_6; clear HB; have HO_6 := n0_; have HB := n1_; have BK124 := n2_; have GW124 := n3_; have GE124 := n4_; clear n0_ n1_ n2_ n3_ n4_; clear hb hbox hg; have hcz13_0 : w12.cell? ⟨gb124, 0, none⟩ = some (.string (⟨#[]⟩ : ByteArray)) := (blk_cell BK124.out 0).trans rfl; have hcz13_1 : w12.cell? ⟨gb124, 1, none⟩ = some (.int .i64 0) := (blk_cell BK124.out 1).trans rfl; have hfz13_0 := blk_frozen BK124.out 0; have hfz13_1 := blk_frozen BK124.out 1) | (go_at_call 56; (with_reducible refine (strings_HasPrefix.calls a0 ((rd_T118 t120 x8_1).f0) false _ A8.out).mono ?_); rintro e w' ⟨rfl, ⟨nd, rfl⟩⟩; (try first | exact ⟨rfl, _, World.drewN_drewN _ _ _⟩ | exact ⟨rfl, _, Eq.trans (World.drewN_drewN _ _ _) (congrArg (World.drewN _) (Nat.add_assoc _ _ _))⟩))))
              go_roundg k1
              case measure => have := HK1.out; omega
              case rel => exact ⟨(wrap64 (x8_1 + 1)), (by first | rfl | (simp; done) | (simp [*]; done)), H', ⟨by have := HK1.out; omega⟩, ⟨by (with_reducible repeat (first | apply Kd.R_alloc | apply Kd.R_drewN | apply Kd.R_drew)); exact Kd.R_mono (Kd.R_far (p := ⟨gb124, 1, none⟩) (Kd.R_far (p := ⟨gb124, 0, none⟩) (Kd.R_mono HO_6.out (fun k_ hk => (⟨hk, hk.2⟩ : _ ∧ k_ ≠ gb124))) (fun _ hk => hk.2) (.string ((rd_T118 t120 x8_1).f0))) (fun _ hk => hk.2) (.int .i64 ((rd_T118 t120 x8_1).f1))) (fun _ hk => trivial)⟩, ⟨by repeat (first | (with_reducible first | exact HB.out | apply below_alloc | apply pw_below_drewN | apply below_drew1 | refine below_set ?_ GE124.out) | exact HB.out)⟩⟩
          · rw [if_neg c7] at H
            exact absurd H (by simp)
        · rw [if_neg c6] at H
          exact absurd H (by simp)
      · rw [if_neg c5] at H
        have c5b0 : decide (x8_1 < (t120.length : Int)) = false := decide_eq_false c5
        clear c5
        simp only [Option.some.injEq, Prod.mk.injEq] at H
        obtain ⟨rfl, rfl⟩ := H
        go_wp2
        repeat (go_quiet (fail); try go_wp2)
        go_ret2
        exact ⟨by first | rfl | (simp [errW_none, errW_some] <;> rfl) | (simp [*, errW_none, errW_some] <;> rfl), by repeat (first | (with_reducible first | exact HB.out | apply below_alloc | apply pw_below_drewN | apply below_drew1) | exact HB.out)⟩

end Go.Proofs.YtogbdjboblfokaaDoor.XW05
