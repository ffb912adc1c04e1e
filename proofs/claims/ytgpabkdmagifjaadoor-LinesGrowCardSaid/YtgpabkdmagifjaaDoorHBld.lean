/- strings.Builder's WriteByte, WriteString and String at this translation, as contracts on lists of bytes; condition: a text of at most 2^47 bytes. -/
import Derived.Shelf.Strings.BuilderK
import Derived.Lib.UnsafeStr
import Derived.Lib.OthersKept
import Derived.Test.YtgpabkdmagifjaaDoorHBase
import Derived.Test.YtgpabkdmagifjaaDoorShelf
namespace Go.Proofs.YtgpabkdmagifjaaDoor.X
open Go.RowKit Go.Shelf Go.Proofs.YtgpabkdmagifjaaDoorW.PrintWords

def bldR : Go.Shelf.Ren := ⟨fun | 166 => 114 | 167 => 115 | 169 => 116 | 240 => 151 | 276 => 170 | n => n,
  fun | 0 => 0 | 3 => 3 | 4 => 4 | 5 => 5 | 9 => 9 | 20 => 20 | 37 => 155 | 70 => 154 | 72 => 157 | 75 => 161 | 80 => 165 | 164 => 199 | n => n, fun | n => n⟩
theorem bldWB : Go.Proofs.Lays.n167 Tryd.prog bldR where
  mixed := by kernel_rfl
  f167 := Tryd.func115.trans (congrArg some (by kernel_rfl))
  f240 := Tryd.func151.trans (congrArg some (by kernel_rfl))
  f276 := Tryd.func170.trans (congrArg some (by kernel_rfl))
  t0 := by kernel_rfl
  a0 := fun w => by kernel_rfl
  z0 := fun w => by kernel_rfl
  v0 := fun w => by kernel_rfl
  t4 := by kernel_rfl
  a4 := fun w => by kernel_rfl
  z4 := fun w => by kernel_rfl
  v4 := fun w => by kernel_rfl
  t5 := by kernel_rfl
  a5 := fun w => by kernel_rfl
  z5 := fun w => by kernel_rfl
  v5 := fun w => by kernel_rfl
  t9 := by kernel_rfl
  a9 := fun w => by kernel_rfl
  z9 := fun w => by kernel_rfl
  v9 := fun w => by kernel_rfl
  t20 := by kernel_rfl
  a20 := fun w => by kernel_rfl
  z20 := fun w => by kernel_rfl
  v20 := fun w => by kernel_rfl
  t37 := by kernel_rfl
  a37 := fun w => by kernel_rfl
  z37 := fun w => by kernel_rfl
  v37 := fun w => by kernel_rfl
  t70 := by kernel_rfl
  a70 := fun w => by kernel_rfl
  z70 := fun w => by kernel_rfl
  v70 := fun w => by kernel_rfl
  t72 := by kernel_rfl
  a72 := fun w => by kernel_rfl
  z72 := fun w => by kernel_rfl
  v72 := fun w => by kernel_rfl
  t75 := by kernel_rfl
  a75 := fun w => by kernel_rfl
  z75 := fun w => by kernel_rfl
  v75 := fun w => by kernel_rfl
  t164 := by kernel_rfl
  a164 := fun w => by kernel_rfl
  z164 := fun w => by kernel_rfl
  v164 := fun w => by kernel_rfl
theorem bldWS : Go.Proofs.Lays.n166 Tryd.prog bldR where
  mixed := by kernel_rfl
  f166 := Tryd.func114.trans (congrArg some (by kernel_rfl))
  f240 := Tryd.func151.trans (congrArg some (by kernel_rfl))
  f276 := Tryd.func170.trans (congrArg some (by kernel_rfl))
  t0 := by kernel_rfl
  a0 := fun w => by kernel_rfl
  z0 := fun w => by kernel_rfl
  v0 := fun w => by kernel_rfl
  t3 := by kernel_rfl
  a3 := fun w => by kernel_rfl
  z3 := fun w => by kernel_rfl
  v3 := fun w => by kernel_rfl
  t4 := by kernel_rfl
  a4 := fun w => by kernel_rfl
  z4 := fun w => by kernel_rfl
  v4 := fun w => by kernel_rfl
  t9 := by kernel_rfl
  a9 := fun w => by kernel_rfl
  z9 := fun w => by kernel_rfl
  v9 := fun w => by kernel_rfl
  t20 := by kernel_rfl
  a20 := fun w => by kernel_rfl
  z20 := fun w => by kernel_rfl
  v20 := fun w => by kernel_rfl
  t37 := by kernel_rfl
  a37 := fun w => by kernel_rfl
  z37 := fun w => by kernel_rfl
  v37 := fun w => by kernel_rfl
  t70 := by kernel_rfl
  a70 := fun w => by kernel_rfl
  z70 := fun w => by kernel_rfl
  v70 := fun w => by kernel_rfl
  t72 := by kernel_rfl
  a72 := fun w => by kernel_rfl
  z72 := fun w => by kernel_rfl
  v72 := fun w => by kernel_rfl
  t75 := by kernel_rfl
  a75 := fun w => by kernel_rfl
  z75 := fun w => by kernel_rfl
  v75 := fun w => by kernel_rfl
  t164 := by kernel_rfl
  a164 := fun w => by kernel_rfl
  z164 := fun w => by kernel_rfl
  v164 := fun w => by kernel_rfl
theorem bldX : Go.Proofs.Builder.Extra Tryd.prog bldR where
  sizeBuilder := by kernel_rfl
  liesBuilder := by kernel_rfl
  t5 := by kernel_rfl
  a5 := fun w => by kernel_rfl
  z5 := fun w => by kernel_rfl
  v5 := fun w => by kernel_rfl
  infoByte := by kernel_rfl
  cellsByte := by kernel_rfl
  sizeByte := by kernel_rfl
  neB5 := by decide

/-- A builder of the call's own, in block b, that holds the bytes l. -/
def Bld (b : Nat) (l : List UInt8) (w : World) : Prop := Lib.IsBuilderF 157 5 b b (Lib.byteCells l) w
theorem Bld.lt {b : Nat} {l : List UInt8} {w : World} (h : Bld b l w) : b < w.heap.size := by
  rcases h with ⟨_, v, hb, _⟩ | ⟨_, v, hb, _⟩
  · exact (Array.getElem?_eq_some_iff.1 hb).1
  · exact (Array.getElem?_eq_some_iff.1 hb).1
theorem Bld.fresh (w : World) : Bld w.heap.size [] (w.alloc (.cells #[.pointer none, .slice none 0 0] 157)) :=
  Lib.IsBuilderF.of (Lib.fresh_isBuilder 157 5 w)
theorem writeByte (b : Nat) (l : List UInt8) (c : UInt8) (w : World) (h : Bld b l w) (hl : l.length + 1 ≤ 140737488355328) :
    Calls Tryd.prog 115 #[.pointer (some ⟨b, 0, none⟩), .int .u8 (c.toNat : Int)] w fun e w' => e = .returned .nilIface ∧ Bld b (l ++ [c]) w' ∧ Below b w w' ∧ Lib.OthersKept 5 (some b) w w' := by
  refine (Any.Builder_WriteByte_k bldWB bldX b b (Lib.byteCells l) (c.toNat : Int) w h (by rw [Lib.byteCells_length]; exact hl) (Nat.le_of_lt (Bld.lt h))).mono fun e w' hh => ⟨hh.1, .inr ?_, hh.2.2⟩
  rw [Lib.byteCells_append]
  exact hh.2.1
theorem writeString (b : Nat) (l m : List UInt8) (w : World) (h : Bld b l w) (hl : l.length + m.length ≤ 140737488355328) :
    Calls Tryd.prog 114 #[.pointer (some ⟨b, 0, none⟩), .string (B m)] w fun e w' => e = .returned (.tuple #[.int .i64 (m.length : Int), .nilIface]) ∧ Bld b (l ++ m) w' ∧ Below b w w' ∧ Lib.OthersKept 5 (some b) w w' := by
  refine (Any.Builder_WriteString_k bldWS bldX b b (Lib.byteCells l) (B m) w h (by rw [Lib.byteCells_length, B_size]; exact hl) (Nat.le_of_lt (Bld.lt h))).mono fun e w' hh => ⟨by rw [← B_size m]; exact hh.1, .inr ?_, hh.2.2⟩
  rw [Lib.byteCells_append]
  exact hh.2.1
theorem bldString (b : Nat) (l : List UInt8) (w : World) (h : Bld b l w) :
    Calls Tryd.prog 116 #[.pointer (some ⟨b, 0, none⟩)] w fun e w' => e = .returned (.string (B l)) ∧ Bld b l w' ∧ Below b w w' ∧ Lib.OthersKept 5 (some b) w w' :=
  Tryd.Builder_String_any_k b b l w h (Nat.le_of_lt (Bld.lt h))
end Go.Proofs.YtgpabkdmagifjaaDoor.X
