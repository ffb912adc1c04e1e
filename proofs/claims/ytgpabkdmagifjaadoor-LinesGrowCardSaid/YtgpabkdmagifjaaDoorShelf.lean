/- Contracts of Go's library functions at this translation, laid by the kit's shelf tool in plain words: each says what a call returns; the conditions stand in each theorem. -/
import Derived.Shelf.Strings.Builder1
import Derived.Shelf.Strings.Builder2
import Derived.Shelf.Strings.OnBuilder
import Derived.Shelf.Strings.Trim
import Derived.Shelf.Small.Utf8
import Derived.Shelf.Small.Strs
import Derived.Shelf.Strings.BuilderF
import Derived.Shelf.Strings.BuilderK
import Derived.Shelf.Strings.Search1
import Derived.Shelf.Strings.Search2
import Derived.Shelf.Strings.Search3
import Derived.Shelf.Strings.Count
import Derived.Shelf.LaysM
import Derived.Shelf.Strings.Shaped
import Derived.Shelf.Strings.Prefix
import Derived.Shelf.Strings.Split
import Derived.Shelf.Strings.Replace
import Derived.Shelf.Strings.SplitShaped
import Derived.Shelf.Unicode.Decode
import Derived.Shelf.Strings.Runes
import Derived.Shelf.Strings.RuneCount
import Derived.Shelf.Strings.IndexAny
import Derived.Shelf.Strings.AsciiSet
import Derived.Shelf.Strings.IndexAnyAll
import Derived.Shelf.Strings.Explode
import Derived.Shelf.Unicode.DecodeSlow
import Derived.Shelf.Slices.Equal
import Derived.Shelf.Slices.Empties2
import Derived.Ground.SlgnProg
import Derived.Shelf.SlicesE.Equal
import Derived.Ground.SlgfProg
import Derived.Shelf.SlicesE.IndexFunc
import Derived.Shelf.SlicesE.DeleteFunc
import Derived.Shelf.Strings.SlTrimAscii
import Derived.Shelf.SlicesE.DeleteFunc
import Derived.Ground.SlgfProg
import Derived.Test.YtgpabkdmagifjaaDoorProg
namespace Go.Proofs
open Go.Shelf
def Tryd.lays169_ren : Go.Shelf.Ren := ⟨fun | 169 => 116 | n => n, fun | 70 => 154 | 9 => 9 | 0 => 0 | 72 => 157 | 37 => 155 | 127 => 189 | 3 => 3 | 5 => 5 | n => n, fun | n => n⟩
theorem Tryd.lays169 : Go.Proofs.Lays.n169 Tryd.prog Tryd.lays169_ren := {
  mixed := by kernel_rfl
  f169 := Tryd.func116.trans (congrArg some (by kernel_rfl))
  t0 := Tryd.underlying0
  a0 := Tryd.isAgg0
  z0 := Tryd.sizeOf0
  v0 := Tryd.zeroValue0
  t3 := Tryd.underlying3
  a3 := Tryd.isAgg3
  z3 := Tryd.sizeOf3
  v3 := Tryd.zeroValue3
  t9 := Tryd.underlying9
  a9 := Tryd.isAgg9
  z9 := Tryd.sizeOf9
  v9 := Tryd.zeroValue9
  t37 := Tryd.underlying155
  a37 := Tryd.isAgg155
  z37 := Tryd.sizeOf155
  v37 := Tryd.zeroValue155
  t70 := Tryd.underlying154
  a70 := Tryd.isAgg154
  z70 := Tryd.sizeOf154
  v70 := Tryd.zeroValue154
  t72 := Tryd.underlying157
  a72 := Tryd.isAgg157
  z72 := Tryd.sizeOf157
  v72 := Tryd.zeroValue157
  t127 := Tryd.underlying189
  a127 := Tryd.isAgg189
  z127 := Tryd.sizeOf189
  v127 := Tryd.zeroValue189 }
theorem Tryd.Builder_Extra_169 : Builder.Extra Tryd.prog Tryd.lays169_ren := {
  sizeBuilder := by kernel_rfl
  liesBuilder := by kernel_rfl
  t5 := Tryd.underlying5
  a5 := Tryd.isAgg5
  z5 := Tryd.sizeOf5
  v5 := Tryd.zeroValue5
  infoByte := by kernel_rfl
  cellsByte := by kernel_rfl
  sizeByte := by kernel_rfl
  neB5 := by decide }
def Tryd.lays156_ren : Go.Shelf.Ren := ⟨fun | 156 => 57 | 165 => 119 | 166 => 114 | 169 => 116 | 240 => 151 | 241 => 153 | 276 => 170 | 277 => 171 | n => n, fun | 31 => 56 | 9 => 9 | 3 => 3 | 4 => 4 | 0 => 0 | 20 => 20 | 72 => 157 | 76 => 162 | 70 => 154 | 37 => 155 | 75 => 161 | 127 => 189 | 164 => 199 | 5 => 5 | 80 => 165 | n => n, fun | n => n⟩
theorem Tryd.lays156 : Go.Proofs.Lays.n156 Tryd.prog Tryd.lays156_ren := {
  mixed := by kernel_rfl
  f156 := Tryd.func57.trans (congrArg some (by kernel_rfl))
  f165 := Tryd.func119.trans (congrArg some (by kernel_rfl))
  f166 := Tryd.func114.trans (congrArg some (by kernel_rfl))
  f169 := Tryd.func116.trans (congrArg some (by kernel_rfl))
  f240 := Tryd.func151.trans (congrArg some (by kernel_rfl))
  f241 := Tryd.func153.trans (congrArg some (by kernel_rfl))
  f276 := Tryd.func170.trans (congrArg some (by kernel_rfl))
  f277 := Tryd.func171.trans (congrArg some (by kernel_rfl))
  t0 := Tryd.underlying0
  a0 := Tryd.isAgg0
  z0 := Tryd.sizeOf0
  v0 := Tryd.zeroValue0
  t3 := Tryd.underlying3
  a3 := Tryd.isAgg3
  z3 := Tryd.sizeOf3
  v3 := Tryd.zeroValue3
  t4 := Tryd.underlying4
  a4 := Tryd.isAgg4
  z4 := Tryd.sizeOf4
  v4 := Tryd.zeroValue4
  t9 := Tryd.underlying9
  a9 := Tryd.isAgg9
  z9 := Tryd.sizeOf9
  v9 := Tryd.zeroValue9
  t20 := Tryd.underlying20
  a20 := Tryd.isAgg20
  z20 := Tryd.sizeOf20
  v20 := Tryd.zeroValue20
  t31 := Tryd.underlying56
  a31 := Tryd.isAgg56
  z31 := Tryd.sizeOf56
  v31 := Tryd.zeroValue56
  t37 := Tryd.underlying155
  a37 := Tryd.isAgg155
  z37 := Tryd.sizeOf155
  v37 := Tryd.zeroValue155
  t70 := Tryd.underlying154
  a70 := Tryd.isAgg154
  z70 := Tryd.sizeOf154
  v70 := Tryd.zeroValue154
  t72 := Tryd.underlying157
  a72 := Tryd.isAgg157
  z72 := Tryd.sizeOf157
  v72 := Tryd.zeroValue157
  t75 := Tryd.underlying161
  a75 := Tryd.isAgg161
  z75 := Tryd.sizeOf161
  v75 := Tryd.zeroValue161
  t76 := Tryd.underlying162
  a76 := Tryd.isAgg162
  z76 := Tryd.sizeOf162
  v76 := Tryd.zeroValue162
  t127 := Tryd.underlying189
  a127 := Tryd.isAgg189
  z127 := Tryd.sizeOf189
  v127 := Tryd.zeroValue189
  t164 := Tryd.underlying199
  a164 := Tryd.isAgg199
  z164 := Tryd.sizeOf199
  v164 := Tryd.zeroValue199 }
theorem Tryd.Builder_Extra_156 : Builder.Extra Tryd.prog Tryd.lays156_ren := {
  sizeBuilder := by kernel_rfl
  liesBuilder := by kernel_rfl
  t5 := Tryd.underlying5
  a5 := Tryd.isAgg5
  z5 := Tryd.sizeOf5
  v5 := Tryd.zeroValue5
  infoByte := by kernel_rfl
  cellsByte := by kernel_rfl
  sizeByte := by kernel_rfl
  neB5 := by decide }
open Go.RowKit in
theorem Tryd.strings_Join_none (a : Option Addr) (c : Nat) (sep : ByteArray) (w : World) :
    Calls Tryd.prog 57 #[.slice a 0 c, .string sep] w fun e w' => e = .returned (.string ⟨#[]⟩) ∧ w' = w := Any.strings_Join_none Tryd.lays156 Tryd.Builder_Extra_156 a c sep w
open Go.RowKit in
theorem Tryd.strings_Join (bk o c : Nat) (xs : List ByteArray) (sep : ByteArray) (w : World) (hcells : ∀ (j : Nat) x, xs[j]? = some x → w.cell? ⟨bk, o + j, none⟩ = some (.string x)) (hbk : bk < w.heap.size) (hN : xs.length ≤ 140737488355328) (hcap : xs.length ≤ c) (hlen : (Lib.join (xs.map (·.data.toList)) sep.data.toList).length ≤ 140737488355328) :
    Calls Tryd.prog 57 #[.slice (some ⟨bk, o, none⟩) xs.length c, .string sep] w fun e w' => e = .returned (.string ⟨(Lib.join (xs.map (·.data.toList)) sep.data.toList).toArray⟩) ∧ Below w.heap.size w w' := Any.strings_Join Tryd.lays156 Tryd.Builder_Extra_156 bk o c xs sep w hcells hbk hN hcap hlen
def Tryd.lays119_ren : Go.Shelf.Ren := ⟨fun | 119 => 158 | n => n, fun | 21 => 21 | 4 => 4 | n => n, fun | n => n⟩
theorem Tryd.lays119 : Go.Proofs.Lays.n119 Tryd.prog Tryd.lays119_ren := {
  mixed := by kernel_rfl
  f119 := Tryd.func158.trans (congrArg some (by kernel_rfl))
  t4 := Tryd.underlying4
  a4 := Tryd.isAgg4
  z4 := Tryd.sizeOf4
  v4 := Tryd.zeroValue4
  t21 := Tryd.underlying21
  a21 := Tryd.isAgg21
  z21 := Tryd.sizeOf21
  v21 := Tryd.zeroValue21 }
theorem Tryd.utf8_ValidRune (r : Int) (w : World) :
    Calls Tryd.prog 158 #[.int .i32 r] w fun e w' => e = .returned (.bool (Lib.validRune r)) ∧ w' = w := Any.utf8_ValidRune Tryd.lays119 r w
def Tryd.lays137_ren : Go.Shelf.Ren := ⟨fun | 137 => 48 | 217 => 111 | 266 => 150 | n => n, fun | 9 => 9 | 5 => 5 | 3 => 3 | n => n, fun | n => n⟩
theorem Tryd.lays137 : Go.Proofs.Lays.n137 Tryd.prog Tryd.lays137_ren := {
  mixed := by kernel_rfl
  f137 := Tryd.func48.trans (congrArg some (by kernel_rfl))
  f217 := Tryd.func111.trans (congrArg some (by kernel_rfl))
  f266 := Tryd.func150.trans (congrArg some (by kernel_rfl))
  t3 := Tryd.underlying3
  a3 := Tryd.isAgg3
  z3 := Tryd.sizeOf3
  v3 := Tryd.zeroValue3
  t5 := Tryd.underlying5
  a5 := Tryd.isAgg5
  z5 := Tryd.sizeOf5
  v5 := Tryd.zeroValue5
  t9 := Tryd.underlying9
  a9 := Tryd.isAgg9
  z9 := Tryd.sizeOf9
  v9 := Tryd.zeroValue9 }
open Go.RowKit in
theorem Tryd.strings_IndexByte (s : ByteArray) (c : Int) (w : World) :
    Calls Tryd.prog 48 #[.string s, .int .u8 c] w fun e w' => e = .returned (.int .i64 (Lib.indexByte s.data.toList c.toNat.toUInt8)) ∧ w' = w := Any.strings_IndexByte Tryd.lays137 s c w
open Go.RowKit in
theorem Tryd.Builder_String_any_k (B b : Nat) (l : List UInt8) (w : World) (h : Lib.IsBuilderF 157 5 B b (Lib.byteCells l) w) (hBw : B ≤ w.heap.size) :
    Calls Tryd.prog 116 #[.pointer (some ⟨b, 0, none⟩)] w fun e w' => e = .returned (.string ⟨l.toArray⟩) ∧ (Lib.IsBuilderF 157 5 B b (Lib.byteCells l) w' ∧ Below B w w' ∧ Lib.OthersKept 5 (some b) w w') := Any.Builder_String_any_k Tryd.lays169 Tryd.Builder_Extra_169 B b l w h hBw
def Tryd.lays219_ren : Go.Shelf.Ren := ⟨fun | 219 => 124 | 217 => 111 | 225 => 155 | 224 => 156 | 267 => 157 | 266 => 150 | 314 => 172 | n => n, fun | 9 => 9 | 3 => 3 | 4 => 4 | 5 => 5 | 46 => 192 | 146 => 203 | 51 => 202 | n => n, fun | 1 => 0 | n => n⟩
theorem Tryd.lays219 : Go.Proofs.Lays.n219 Tryd.prog Tryd.lays219_ren := {
  mixed := by kernel_rfl
  f217 := Tryd.func111.trans (congrArg some (by kernel_rfl))
  f219 := Tryd.func124.trans (congrArg some (by kernel_rfl))
  f224 := Tryd.func156.trans (congrArg some (by kernel_rfl))
  f225 := Tryd.func155.trans (congrArg some (by kernel_rfl))
  f266 := Tryd.func150.trans (congrArg some (by kernel_rfl))
  f267 := Tryd.func157.trans (congrArg some (by kernel_rfl))
  f314 := Tryd.func172.trans (congrArg some (by kernel_rfl))
  t3 := Tryd.underlying3
  a3 := Tryd.isAgg3
  z3 := Tryd.sizeOf3
  v3 := Tryd.zeroValue3
  t4 := Tryd.underlying4
  a4 := Tryd.isAgg4
  z4 := Tryd.sizeOf4
  v4 := Tryd.zeroValue4
  t5 := Tryd.underlying5
  a5 := Tryd.isAgg5
  z5 := Tryd.sizeOf5
  v5 := Tryd.zeroValue5
  t9 := Tryd.underlying9
  a9 := Tryd.isAgg9
  z9 := Tryd.sizeOf9
  v9 := Tryd.zeroValue9
  t46 := Tryd.underlying192
  a46 := Tryd.isAgg192
  z46 := Tryd.sizeOf192
  v46 := Tryd.zeroValue192
  t51 := Tryd.underlying202
  a51 := Tryd.isAgg202
  z51 := Tryd.sizeOf202
  v51 := Tryd.zeroValue202
  t146 := Tryd.underlying203
  a146 := Tryd.isAgg203
  z146 := Tryd.sizeOf203
  v146 := Tryd.zeroValue203
  g1 := by kernel_rfl }
open Go.RowKit Go.Lib in
theorem Tryd.stringslite_Index (s sub : ByteArray) (m : Int) (w : World) (hs : s.size < 4294967281) (hm : w.cell? ⟨0, 0, none⟩ = some (.int .i64 m)) :
    Calls Tryd.prog 124 #[.string s, .string sub] w fun e w' => e = .returned (.int .i64 (Lib.index s.data.toList sub.data.toList)) ∧ w' = w := Any.stringslite_Index Tryd.lays219 s sub m w hs hm
def Tryd.lays144_ren : Go.Shelf.Ren := ⟨fun | 144 => 45 | 143 => 70 | 219 => 124 | 217 => 111 | 225 => 155 | 224 => 156 | 267 => 157 | 266 => 150 | 314 => 172 | n => n, fun | 9 => 9 | 4 => 4 | 3 => 3 | 5 => 5 | 46 => 192 | 146 => 203 | 51 => 202 | n => n, fun | 1 => 0 | n => n⟩
theorem Tryd.lays144 : Go.Proofs.Lays.n144 Tryd.prog Tryd.lays144_ren := {
  mixed := by kernel_rfl
  f143 := Tryd.func70.trans (congrArg some (by kernel_rfl))
  f144 := Tryd.func45.trans (congrArg some (by kernel_rfl))
  f217 := Tryd.func111.trans (congrArg some (by kernel_rfl))
  f219 := Tryd.func124.trans (congrArg some (by kernel_rfl))
  f224 := Tryd.func156.trans (congrArg some (by kernel_rfl))
  f225 := Tryd.func155.trans (congrArg some (by kernel_rfl))
  f266 := Tryd.func150.trans (congrArg some (by kernel_rfl))
  f267 := Tryd.func157.trans (congrArg some (by kernel_rfl))
  f314 := Tryd.func172.trans (congrArg some (by kernel_rfl))
  t3 := Tryd.underlying3
  a3 := Tryd.isAgg3
  z3 := Tryd.sizeOf3
  v3 := Tryd.zeroValue3
  t4 := Tryd.underlying4
  a4 := Tryd.isAgg4
  z4 := Tryd.sizeOf4
  v4 := Tryd.zeroValue4
  t5 := Tryd.underlying5
  a5 := Tryd.isAgg5
  z5 := Tryd.sizeOf5
  v5 := Tryd.zeroValue5
  t9 := Tryd.underlying9
  a9 := Tryd.isAgg9
  z9 := Tryd.sizeOf9
  v9 := Tryd.zeroValue9
  t46 := Tryd.underlying192
  a46 := Tryd.isAgg192
  z46 := Tryd.sizeOf192
  v46 := Tryd.zeroValue192
  t51 := Tryd.underlying202
  a51 := Tryd.isAgg202
  z51 := Tryd.sizeOf202
  v51 := Tryd.zeroValue202
  t146 := Tryd.underlying203
  a146 := Tryd.isAgg203
  z146 := Tryd.sizeOf203
  v146 := Tryd.zeroValue203
  g1 := by kernel_rfl }
open Go.RowKit Go.Lib in
theorem Tryd.strings_Contains (s sub : ByteArray) (m : Int) (w : World) (hs : s.size < 4294967281) (hm : w.cell? ⟨0, 0, none⟩ = some (.int .i64 m)) :
    Calls Tryd.prog 45 #[.string s, .string sub] w fun e w' => e = .returned (.bool (Lib.contains s.data.toList sub.data.toList)) ∧ w' = w := Any.strings_Contains Tryd.lays144 s sub m w hs hm
def Tryd.lays138_ren : Go.Shelf.Ren := ⟨fun | 138 => 22 | 195 => 68 | 218 => 69 | 143 => 70 | 219 => 124 | 217 => 111 | 225 => 155 | 224 => 156 | 267 => 157 | 266 => 150 | 314 => 172 | n => n, fun | 9 => 9 | 3 => 3 | 4 => 4 | 5 => 5 | 0 => 0 | 46 => 192 | 146 => 203 | 51 => 202 | n => n, fun | 1 => 0 | n => n⟩
theorem Tryd.lays138 : Go.Proofs.Lays.n138 Tryd.prog Tryd.lays138_ren := {
  mixed := by kernel_rfl
  f138 := Tryd.func22.trans (congrArg some (by kernel_rfl))
  f143 := Tryd.func70.trans (congrArg some (by kernel_rfl))
  f195 := Tryd.func68.trans (congrArg some (by kernel_rfl))
  f217 := Tryd.func111.trans (congrArg some (by kernel_rfl))
  f218 := Tryd.func69.trans (congrArg some (by kernel_rfl))
  f219 := Tryd.func124.trans (congrArg some (by kernel_rfl))
  f224 := Tryd.func156.trans (congrArg some (by kernel_rfl))
  f225 := Tryd.func155.trans (congrArg some (by kernel_rfl))
  f266 := Tryd.func150.trans (congrArg some (by kernel_rfl))
  f267 := Tryd.func157.trans (congrArg some (by kernel_rfl))
  f314 := Tryd.func172.trans (congrArg some (by kernel_rfl))
  t0 := Tryd.underlying0
  a0 := Tryd.isAgg0
  z0 := Tryd.sizeOf0
  v0 := Tryd.zeroValue0
  t3 := Tryd.underlying3
  a3 := Tryd.isAgg3
  z3 := Tryd.sizeOf3
  v3 := Tryd.zeroValue3
  t4 := Tryd.underlying4
  a4 := Tryd.isAgg4
  z4 := Tryd.sizeOf4
  v4 := Tryd.zeroValue4
  t5 := Tryd.underlying5
  a5 := Tryd.isAgg5
  z5 := Tryd.sizeOf5
  v5 := Tryd.zeroValue5
  t9 := Tryd.underlying9
  a9 := Tryd.isAgg9
  z9 := Tryd.sizeOf9
  v9 := Tryd.zeroValue9
  t46 := Tryd.underlying192
  a46 := Tryd.isAgg192
  z46 := Tryd.sizeOf192
  v46 := Tryd.zeroValue192
  t51 := Tryd.underlying202
  a51 := Tryd.isAgg202
  z51 := Tryd.sizeOf202
  v51 := Tryd.zeroValue202
  t146 := Tryd.underlying203
  a146 := Tryd.isAgg203
  z146 := Tryd.sizeOf203
  v146 := Tryd.zeroValue203
  g1 := by kernel_rfl }
open Go.RowKit Go.Lib in
theorem Tryd.strings_Count_one (s : ByteArray) (c : UInt8) (w : World) :
    Calls Tryd.prog 22 #[.string s, .string ⟨#[c]⟩] w fun e w' => e = .returned (.int .i64 (Lib.countByte s.data.toList c)) ∧ w' = w := Any.strings_Count_one Tryd.lays138 s c w
open Go.RowKit Go.Lib in
theorem Tryd.strings_Count (s sub : ByteArray) (m : Int) (w : World) (hs : s.size < 4294967281) (hm : w.cell? ⟨0, 0, none⟩ = some (.int .i64 m)) (h2 : 2 ≤ sub.size) :
    Calls Tryd.prog 22 #[.string s, .string sub] w fun e w' => e = .returned (.int .i64 (Lib.countB s sub)) ∧ w' = w := Any.strings_Count Tryd.lays138 s sub m w hs hm h2
def Tryd.lays99_ren : Go.Shelf.Ren := ⟨fun | 99 => 60 | 206 => 121 | n => n, fun | 9 => 9 | 4 => 4 | 3 => 3 | n => n, fun | n => n⟩
theorem Tryd.lays99 : Go.Proofs.Lays.n99 Tryd.prog Tryd.lays99_ren := {
  mixed := by kernel_rfl
  f99 := Tryd.func60.trans (congrArg some (by kernel_rfl))
  f206 := Tryd.func121.trans (congrArg some (by kernel_rfl))
  t3 := Tryd.underlying3
  a3 := Tryd.isAgg3
  z3 := Tryd.sizeOf3
  v3 := Tryd.zeroValue3
  t4 := Tryd.underlying4
  a4 := Tryd.isAgg4
  z4 := Tryd.sizeOf4
  v4 := Tryd.zeroValue4
  t9 := Tryd.underlying9
  a9 := Tryd.isAgg9
  z9 := Tryd.sizeOf9
  v9 := Tryd.zeroValue9 }
open Go.RowKit Go.Lib in
theorem Tryd.strings_HasPrefix (s p : ByteArray) (w : World) :
    Calls Tryd.prog 60 #[.string s, .string p] w fun e w' => e = .returned (.bool (Lib.hasPrefix s.data.toList p.data.toList)) ∧ w' = w := Any.strings_HasPrefix Tryd.lays99 s p w
def Tryd.lays100_ren : Go.Shelf.Ren := ⟨fun | 100 => 21 | 207 => 67 | n => n, fun | 9 => 9 | 4 => 4 | 3 => 3 | n => n, fun | n => n⟩
theorem Tryd.lays100 : Go.Proofs.Lays.n100 Tryd.prog Tryd.lays100_ren := {
  mixed := by kernel_rfl
  f100 := Tryd.func21.trans (congrArg some (by kernel_rfl))
  f207 := Tryd.func67.trans (congrArg some (by kernel_rfl))
  t3 := Tryd.underlying3
  a3 := Tryd.isAgg3
  z3 := Tryd.sizeOf3
  v3 := Tryd.zeroValue3
  t4 := Tryd.underlying4
  a4 := Tryd.isAgg4
  z4 := Tryd.sizeOf4
  v4 := Tryd.zeroValue4
  t9 := Tryd.underlying9
  a9 := Tryd.isAgg9
  z9 := Tryd.sizeOf9
  v9 := Tryd.zeroValue9 }
open Go.RowKit Go.Lib in
theorem Tryd.strings_HasSuffix (s p : ByteArray) (w : World) (hs : s.size ≤ 9223372036854775807) :
    Calls Tryd.prog 21 #[.string s, .string p] w fun e w' => e = .returned (.bool (Lib.hasSuffix s.data.toList p.data.toList)) ∧ w' = w := Any.strings_HasSuffix Tryd.lays100 s p w hs
def Tryd.lays101_ren : Go.Shelf.Ren := ⟨fun | 101 => 161 | 208 => 173 | 206 => 121 | n => n, fun | 9 => 9 | 4 => 4 | 3 => 3 | n => n, fun | n => n⟩
theorem Tryd.lays101 : Go.Proofs.Lays.n101 Tryd.prog Tryd.lays101_ren := {
  mixed := by kernel_rfl
  f101 := Tryd.func161.trans (congrArg some (by kernel_rfl))
  f206 := Tryd.func121.trans (congrArg some (by kernel_rfl))
  f208 := Tryd.func173.trans (congrArg some (by kernel_rfl))
  t3 := Tryd.underlying3
  a3 := Tryd.isAgg3
  z3 := Tryd.sizeOf3
  v3 := Tryd.zeroValue3
  t4 := Tryd.underlying4
  a4 := Tryd.isAgg4
  z4 := Tryd.sizeOf4
  v4 := Tryd.zeroValue4
  t9 := Tryd.underlying9
  a9 := Tryd.isAgg9
  z9 := Tryd.sizeOf9
  v9 := Tryd.zeroValue9 }
open Go.RowKit Go.Lib in
theorem Tryd.strings_TrimPrefix (s p : ByteArray) (w : World) :
    Calls Tryd.prog 161 #[.string s, .string p] w fun e w' => e = .returned (.string ⟨(Lib.trimPrefix s.data.toList p.data.toList).toArray⟩) ∧ w' = w := Any.strings_TrimPrefix Tryd.lays101 s p w
def Tryd.lays102_ren : Go.Shelf.Ren := ⟨fun | 102 => 169 | 209 => 177 | 207 => 67 | n => n, fun | 9 => 9 | 4 => 4 | 3 => 3 | n => n, fun | n => n⟩
theorem Tryd.lays102 : Go.Proofs.Lays.n102 Tryd.prog Tryd.lays102_ren := {
  mixed := by kernel_rfl
  f102 := Tryd.func169.trans (congrArg some (by kernel_rfl))
  f207 := Tryd.func67.trans (congrArg some (by kernel_rfl))
  f209 := Tryd.func177.trans (congrArg some (by kernel_rfl))
  t3 := Tryd.underlying3
  a3 := Tryd.isAgg3
  z3 := Tryd.sizeOf3
  v3 := Tryd.zeroValue3
  t4 := Tryd.underlying4
  a4 := Tryd.isAgg4
  z4 := Tryd.sizeOf4
  v4 := Tryd.zeroValue4
  t9 := Tryd.underlying9
  a9 := Tryd.isAgg9
  z9 := Tryd.sizeOf9
  v9 := Tryd.zeroValue9 }
open Go.RowKit Go.Lib in
theorem Tryd.strings_TrimSuffix (s p : ByteArray) (w : World) (hs : s.size ≤ 9223372036854775807) :
    Calls Tryd.prog 169 #[.string s, .string p] w fun e w' => e = .returned (.string ⟨(Lib.trimSuffix s.data.toList p.data.toList).toArray⟩) ∧ w' = w := Any.strings_TrimSuffix Tryd.lays102 s p w hs
def Tryd.lays146_ren : Go.Shelf.Ren := ⟨fun | 146 => 93 | 221 => 138 | 268 => 163 | 138 => 22 | 143 => 70 | 195 => 68 | 197 => 128 | 218 => 69 | 219 => 124 | 260 => 159 | 217 => 111 | 225 => 155 | 224 => 156 | 267 => 157 | 266 => 150 | 314 => 172 | n => n, fun | 9 => 9 | 31 => 56 | 3 => 3 | 4 => 4 | 0 => 0 | 105 => 172 | 21 => 21 | 5 => 5 | 46 => 192 | 119 => 205 | 139 => 208 | 138 => 207 | 146 => 203 | 51 => 202 | n => n, fun | 1 => 0 | 3 => 1 | 4 => 2 | n => n⟩
theorem Tryd.lays146 : Go.Proofs.Lays.n146 Tryd.prog Tryd.lays146_ren := {
  mixed := by kernel_rfl
  f138 := Tryd.func22.trans (congrArg some (by kernel_rfl))
  f143 := Tryd.func70.trans (congrArg some (by kernel_rfl))
  f146 := Tryd.func93.trans (congrArg some (by kernel_rfl))
  f195 := Tryd.func68.trans (congrArg some (by kernel_rfl))
  f197 := Tryd.func128.trans (congrArg some (by kernel_rfl))
  f217 := Tryd.func111.trans (congrArg some (by kernel_rfl))
  f218 := Tryd.func69.trans (congrArg some (by kernel_rfl))
  f219 := Tryd.func124.trans (congrArg some (by kernel_rfl))
  f221 := Tryd.func138.trans (congrArg some (by kernel_rfl))
  f224 := Tryd.func156.trans (congrArg some (by kernel_rfl))
  f225 := Tryd.func155.trans (congrArg some (by kernel_rfl))
  f260 := Tryd.func159.trans (congrArg some (by kernel_rfl))
  f266 := Tryd.func150.trans (congrArg some (by kernel_rfl))
  f267 := Tryd.func157.trans (congrArg some (by kernel_rfl))
  f268 := Tryd.func163.trans (congrArg some (by kernel_rfl))
  f314 := Tryd.func172.trans (congrArg some (by kernel_rfl))
  t0 := Tryd.underlying0
  a0 := Tryd.isAgg0
  z0 := Tryd.sizeOf0
  v0 := Tryd.zeroValue0
  t3 := Tryd.underlying3
  a3 := Tryd.isAgg3
  z3 := Tryd.sizeOf3
  v3 := Tryd.zeroValue3
  t4 := Tryd.underlying4
  a4 := Tryd.isAgg4
  z4 := Tryd.sizeOf4
  v4 := Tryd.zeroValue4
  t5 := Tryd.underlying5
  a5 := Tryd.isAgg5
  z5 := Tryd.sizeOf5
  v5 := Tryd.zeroValue5
  t9 := Tryd.underlying9
  a9 := Tryd.isAgg9
  z9 := Tryd.sizeOf9
  v9 := Tryd.zeroValue9
  t21 := Tryd.underlying21
  a21 := Tryd.isAgg21
  z21 := Tryd.sizeOf21
  v21 := Tryd.zeroValue21
  t31 := Tryd.underlying56
  a31 := Tryd.isAgg56
  z31 := Tryd.sizeOf56
  v31 := Tryd.zeroValue56
  t46 := Tryd.underlying192
  a46 := Tryd.isAgg192
  z46 := Tryd.sizeOf192
  v46 := Tryd.zeroValue192
  t51 := Tryd.underlying202
  a51 := Tryd.isAgg202
  z51 := Tryd.sizeOf202
  v51 := Tryd.zeroValue202
  t105 := Tryd.underlying172
  a105 := Tryd.isAgg172
  z105 := Tryd.sizeOf172
  v105 := Tryd.zeroValue172
  t119 := Tryd.underlying205
  a119 := Tryd.isAgg205
  z119 := Tryd.sizeOf205
  t138 := Tryd.underlying207
  a138 := Tryd.isAgg207
  z138 := Tryd.sizeOf207
  v138 := Tryd.zeroValue207
  t139 := Tryd.underlying208
  a139 := Tryd.isAgg208
  z139 := Tryd.sizeOf208
  v139 := Tryd.zeroValue208
  t146 := Tryd.underlying203
  a146 := Tryd.isAgg203
  z146 := Tryd.sizeOf203
  v146 := Tryd.zeroValue203
  g1 := by kernel_rfl
  g3 := by kernel_rfl
  g4 := by kernel_rfl }
open Go.RowKit Go.Lib in
theorem Tryd.strings_Split (s sep : ByteArray) (m : Int) (w : World) (hs : s.size < 4294967281) (hm : w.cell? ⟨0, 0, none⟩ = some (.int .i64 m)) (h1 : 1 ≤ sep.size) :
    Calls Tryd.prog 93 #[.string s, .string sep] w fun e w' =>
      e = .returned (.slice (some ⟨w.heap.size, 0, none⟩) (Lib.countB s sep + 1) (Lib.countB s sep + 1)) ∧ w' = w.alloc (.cells ((Lib.splitB sep 0 (Lib.countB s sep) s).map Value.string).toArray 9) := Any.strings_Split Tryd.lays146 (by kernel_rfl) s sep m w hs hm h1
def Tryd.lays154_ren : Go.Shelf.Ren := ⟨fun | 154 => 152 | 138 => 22 | 165 => 119 | 143 => 70 | 166 => 114 | 197 => 128 | 169 => 116 | 195 => 68 | 218 => 69 | 240 => 151 | 241 => 153 | 219 => 124 | 260 => 159 | 276 => 170 | 277 => 171 | 217 => 111 | 225 => 155 | 224 => 156 | 267 => 157 | 266 => 150 | 314 => 172 | n => n, fun | 9 => 9 | 3 => 3 | 4 => 4 | 72 => 157 | 0 => 0 | 76 => 162 | 105 => 172 | 21 => 21 | 5 => 5 | 70 => 154 | 20 => 20 | 37 => 155 | 75 => 161 | 127 => 189 | 164 => 199 | 46 => 192 | 119 => 205 | 139 => 208 | 138 => 207 | 146 => 203 | 51 => 202 | 80 => 165 | n => n, fun | 1 => 0 | 3 => 1 | 4 => 2 | n => n⟩
theorem Tryd.lays154 : Go.Proofs.Lays.n154 Tryd.prog Tryd.lays154_ren := {
  mixed := by kernel_rfl
  f138 := Tryd.func22.trans (congrArg some (by kernel_rfl))
  f143 := Tryd.func70.trans (congrArg some (by kernel_rfl))
  f154 := Tryd.func152.trans (congrArg some (by kernel_rfl))
  f165 := Tryd.func119.trans (congrArg some (by kernel_rfl))
  f166 := Tryd.func114.trans (congrArg some (by kernel_rfl))
  f169 := Tryd.func116.trans (congrArg some (by kernel_rfl))
  f195 := Tryd.func68.trans (congrArg some (by kernel_rfl))
  f197 := Tryd.func128.trans (congrArg some (by kernel_rfl))
  f217 := Tryd.func111.trans (congrArg some (by kernel_rfl))
  f218 := Tryd.func69.trans (congrArg some (by kernel_rfl))
  f219 := Tryd.func124.trans (congrArg some (by kernel_rfl))
  f224 := Tryd.func156.trans (congrArg some (by kernel_rfl))
  f225 := Tryd.func155.trans (congrArg some (by kernel_rfl))
  f240 := Tryd.func151.trans (congrArg some (by kernel_rfl))
  f241 := Tryd.func153.trans (congrArg some (by kernel_rfl))
  f260 := Tryd.func159.trans (congrArg some (by kernel_rfl))
  f266 := Tryd.func150.trans (congrArg some (by kernel_rfl))
  f267 := Tryd.func157.trans (congrArg some (by kernel_rfl))
  f276 := Tryd.func170.trans (congrArg some (by kernel_rfl))
  f277 := Tryd.func171.trans (congrArg some (by kernel_rfl))
  f314 := Tryd.func172.trans (congrArg some (by kernel_rfl))
  t0 := Tryd.underlying0
  a0 := Tryd.isAgg0
  z0 := Tryd.sizeOf0
  v0 := Tryd.zeroValue0
  t3 := Tryd.underlying3
  a3 := Tryd.isAgg3
  z3 := Tryd.sizeOf3
  v3 := Tryd.zeroValue3
  t4 := Tryd.underlying4
  a4 := Tryd.isAgg4
  z4 := Tryd.sizeOf4
  v4 := Tryd.zeroValue4
  t5 := Tryd.underlying5
  a5 := Tryd.isAgg5
  z5 := Tryd.sizeOf5
  v5 := Tryd.zeroValue5
  t9 := Tryd.underlying9
  a9 := Tryd.isAgg9
  z9 := Tryd.sizeOf9
  v9 := Tryd.zeroValue9
  t20 := Tryd.underlying20
  a20 := Tryd.isAgg20
  z20 := Tryd.sizeOf20
  v20 := Tryd.zeroValue20
  t21 := Tryd.underlying21
  a21 := Tryd.isAgg21
  z21 := Tryd.sizeOf21
  v21 := Tryd.zeroValue21
  t37 := Tryd.underlying155
  a37 := Tryd.isAgg155
  z37 := Tryd.sizeOf155
  v37 := Tryd.zeroValue155
  t46 := Tryd.underlying192
  a46 := Tryd.isAgg192
  z46 := Tryd.sizeOf192
  v46 := Tryd.zeroValue192
  t51 := Tryd.underlying202
  a51 := Tryd.isAgg202
  z51 := Tryd.sizeOf202
  v51 := Tryd.zeroValue202
  t70 := Tryd.underlying154
  a70 := Tryd.isAgg154
  z70 := Tryd.sizeOf154
  v70 := Tryd.zeroValue154
  t72 := Tryd.underlying157
  a72 := Tryd.isAgg157
  z72 := Tryd.sizeOf157
  v72 := Tryd.zeroValue157
  t75 := Tryd.underlying161
  a75 := Tryd.isAgg161
  z75 := Tryd.sizeOf161
  v75 := Tryd.zeroValue161
  t76 := Tryd.underlying162
  a76 := Tryd.isAgg162
  z76 := Tryd.sizeOf162
  v76 := Tryd.zeroValue162
  t105 := Tryd.underlying172
  a105 := Tryd.isAgg172
  z105 := Tryd.sizeOf172
  v105 := Tryd.zeroValue172
  t119 := Tryd.underlying205
  a119 := Tryd.isAgg205
  z119 := Tryd.sizeOf205
  t127 := Tryd.underlying189
  a127 := Tryd.isAgg189
  z127 := Tryd.sizeOf189
  v127 := Tryd.zeroValue189
  t138 := Tryd.underlying207
  a138 := Tryd.isAgg207
  z138 := Tryd.sizeOf207
  v138 := Tryd.zeroValue207
  t139 := Tryd.underlying208
  a139 := Tryd.isAgg208
  z139 := Tryd.sizeOf208
  v139 := Tryd.zeroValue208
  t146 := Tryd.underlying203
  a146 := Tryd.isAgg203
  z146 := Tryd.sizeOf203
  v146 := Tryd.zeroValue203
  t164 := Tryd.underlying199
  a164 := Tryd.isAgg199
  z164 := Tryd.sizeOf199
  v164 := Tryd.zeroValue199
  g1 := by kernel_rfl
  g3 := by kernel_rfl
  g4 := by kernel_rfl }
theorem Tryd.Builder_Extra_154 : Builder.Extra Tryd.prog Tryd.lays154_ren := {
  sizeBuilder := by kernel_rfl
  liesBuilder := by kernel_rfl
  t5 := Tryd.underlying5
  a5 := Tryd.isAgg5
  z5 := Tryd.sizeOf5
  v5 := Tryd.zeroValue5
  infoByte := by kernel_rfl
  cellsByte := by kernel_rfl
  sizeByte := by kernel_rfl
  neB5 := by decide }
open Go.RowKit Go.Lib in
theorem Tryd.strings_Replace (s old new : ByteArray) (n : Int) (m : Int) (w : World) (hs : s.size < 4294967281) (hm : w.cell? ⟨0, 0, none⟩ = some (.int .i64 m)) (h1 : 1 ≤ old.size) (hlen : s.size + Lib.countB s old * new.size ≤ 140737488355328) :
    Calls Tryd.prog 152 #[.string s, .string old, .string new, .int .i64 n] w fun e w' =>
      e = .returned (.string ⟨(Lib.replace s.data.toList old.data.toList new.data.toList n).toArray⟩) ∧ Below w.heap.size w w' := Any.strings_Replace Tryd.lays154 Tryd.Builder_Extra_154 s old new n m w hs hm h1 hlen
def Tryd.lays155_ren : Go.Shelf.Ren := ⟨fun | 155 => 118 | 154 => 152 | 138 => 22 | 165 => 119 | 143 => 70 | 166 => 114 | 197 => 128 | 169 => 116 | 195 => 68 | 218 => 69 | 240 => 151 | 241 => 153 | 219 => 124 | 260 => 159 | 276 => 170 | 277 => 171 | 217 => 111 | 225 => 155 | 224 => 156 | 267 => 157 | 266 => 150 | 314 => 172 | n => n, fun | 9 => 9 | 3 => 3 | 4 => 4 | 72 => 157 | 0 => 0 | 76 => 162 | 105 => 172 | 21 => 21 | 5 => 5 | 70 => 154 | 20 => 20 | 37 => 155 | 75 => 161 | 127 => 189 | 164 => 199 | 46 => 192 | 119 => 205 | 139 => 208 | 138 => 207 | 146 => 203 | 51 => 202 | 80 => 165 | n => n, fun | 1 => 0 | 3 => 1 | 4 => 2 | n => n⟩
theorem Tryd.lays155 : Go.Proofs.Lays.n155 Tryd.prog Tryd.lays155_ren := {
  mixed := by kernel_rfl
  f138 := Tryd.func22.trans (congrArg some (by kernel_rfl))
  f143 := Tryd.func70.trans (congrArg some (by kernel_rfl))
  f154 := Tryd.func152.trans (congrArg some (by kernel_rfl))
  f155 := Tryd.func118.trans (congrArg some (by kernel_rfl))
  f165 := Tryd.func119.trans (congrArg some (by kernel_rfl))
  f166 := Tryd.func114.trans (congrArg some (by kernel_rfl))
  f169 := Tryd.func116.trans (congrArg some (by kernel_rfl))
  f195 := Tryd.func68.trans (congrArg some (by kernel_rfl))
  f197 := Tryd.func128.trans (congrArg some (by kernel_rfl))
  f217 := Tryd.func111.trans (congrArg some (by kernel_rfl))
  f218 := Tryd.func69.trans (congrArg some (by kernel_rfl))
  f219 := Tryd.func124.trans (congrArg some (by kernel_rfl))
  f224 := Tryd.func156.trans (congrArg some (by kernel_rfl))
  f225 := Tryd.func155.trans (congrArg some (by kernel_rfl))
  f240 := Tryd.func151.trans (congrArg some (by kernel_rfl))
  f241 := Tryd.func153.trans (congrArg some (by kernel_rfl))
  f260 := Tryd.func159.trans (congrArg some (by kernel_rfl))
  f266 := Tryd.func150.trans (congrArg some (by kernel_rfl))
  f267 := Tryd.func157.trans (congrArg some (by kernel_rfl))
  f276 := Tryd.func170.trans (congrArg some (by kernel_rfl))
  f277 := Tryd.func171.trans (congrArg some (by kernel_rfl))
  f314 := Tryd.func172.trans (congrArg some (by kernel_rfl))
  t0 := Tryd.underlying0
  a0 := Tryd.isAgg0
  z0 := Tryd.sizeOf0
  v0 := Tryd.zeroValue0
  t3 := Tryd.underlying3
  a3 := Tryd.isAgg3
  z3 := Tryd.sizeOf3
  v3 := Tryd.zeroValue3
  t4 := Tryd.underlying4
  a4 := Tryd.isAgg4
  z4 := Tryd.sizeOf4
  v4 := Tryd.zeroValue4
  t5 := Tryd.underlying5
  a5 := Tryd.isAgg5
  z5 := Tryd.sizeOf5
  v5 := Tryd.zeroValue5
  t9 := Tryd.underlying9
  a9 := Tryd.isAgg9
  z9 := Tryd.sizeOf9
  v9 := Tryd.zeroValue9
  t20 := Tryd.underlying20
  a20 := Tryd.isAgg20
  z20 := Tryd.sizeOf20
  v20 := Tryd.zeroValue20
  t21 := Tryd.underlying21
  a21 := Tryd.isAgg21
  z21 := Tryd.sizeOf21
  v21 := Tryd.zeroValue21
  t37 := Tryd.underlying155
  a37 := Tryd.isAgg155
  z37 := Tryd.sizeOf155
  v37 := Tryd.zeroValue155
  t46 := Tryd.underlying192
  a46 := Tryd.isAgg192
  z46 := Tryd.sizeOf192
  v46 := Tryd.zeroValue192
  t51 := Tryd.underlying202
  a51 := Tryd.isAgg202
  z51 := Tryd.sizeOf202
  v51 := Tryd.zeroValue202
  t70 := Tryd.underlying154
  a70 := Tryd.isAgg154
  z70 := Tryd.sizeOf154
  v70 := Tryd.zeroValue154
  t72 := Tryd.underlying157
  a72 := Tryd.isAgg157
  z72 := Tryd.sizeOf157
  v72 := Tryd.zeroValue157
  t75 := Tryd.underlying161
  a75 := Tryd.isAgg161
  z75 := Tryd.sizeOf161
  v75 := Tryd.zeroValue161
  t76 := Tryd.underlying162
  a76 := Tryd.isAgg162
  z76 := Tryd.sizeOf162
  v76 := Tryd.zeroValue162
  t105 := Tryd.underlying172
  a105 := Tryd.isAgg172
  z105 := Tryd.sizeOf172
  v105 := Tryd.zeroValue172
  t119 := Tryd.underlying205
  a119 := Tryd.isAgg205
  z119 := Tryd.sizeOf205
  t127 := Tryd.underlying189
  a127 := Tryd.isAgg189
  z127 := Tryd.sizeOf189
  v127 := Tryd.zeroValue189
  t138 := Tryd.underlying207
  a138 := Tryd.isAgg207
  z138 := Tryd.sizeOf207
  v138 := Tryd.zeroValue207
  t139 := Tryd.underlying208
  a139 := Tryd.isAgg208
  z139 := Tryd.sizeOf208
  v139 := Tryd.zeroValue208
  t146 := Tryd.underlying203
  a146 := Tryd.isAgg203
  z146 := Tryd.sizeOf203
  v146 := Tryd.zeroValue203
  t164 := Tryd.underlying199
  a164 := Tryd.isAgg199
  z164 := Tryd.sizeOf199
  v164 := Tryd.zeroValue199
  g1 := by kernel_rfl
  g3 := by kernel_rfl
  g4 := by kernel_rfl }
theorem Tryd.Builder_Extra_155 : Builder.Extra Tryd.prog Tryd.lays155_ren := {
  sizeBuilder := by kernel_rfl
  liesBuilder := by kernel_rfl
  t5 := Tryd.underlying5
  a5 := Tryd.isAgg5
  z5 := Tryd.sizeOf5
  v5 := Tryd.zeroValue5
  infoByte := by kernel_rfl
  cellsByte := by kernel_rfl
  sizeByte := by kernel_rfl
  neB5 := by decide }
open Go.RowKit Go.Lib in
theorem Tryd.strings_ReplaceAll (s old new : ByteArray) (m : Int) (w : World) (hs : s.size < 4294967281) (hm : w.cell? ⟨0, 0, none⟩ = some (.int .i64 m)) (h1 : 1 ≤ old.size) (hlen : s.size + Lib.countB s old * new.size ≤ 140737488355328) :
    Calls Tryd.prog 118 #[.string s, .string old, .string new] w fun e w' =>
      e = .returned (.string ⟨(Lib.replaceAll s.data.toList old.data.toList new.data.toList).toArray⟩) ∧ Below w.heap.size w w' := Any.strings_ReplaceAll Tryd.lays155 Tryd.Builder_Extra_155 s old new m w hs hm h1 hlen
def Tryd.lays152_ren : Go.Shelf.Ren := ⟨fun | 152 => 125 | 137 => 48 | 119 => 158 | 224 => 156 | 225 => 155 | 217 => 111 | 266 => 150 | n => n, fun | 9 => 9 | 21 => 21 | 3 => 3 | 4 => 4 | 5 => 5 | 0 => 0 | 46 => 192 | n => n, fun | n => n⟩
theorem Tryd.lays152 : Go.Proofs.Lays.n152 Tryd.prog Tryd.lays152_ren := {
  mixed := by kernel_rfl
  f119 := Tryd.func158.trans (congrArg some (by kernel_rfl))
  f137 := Tryd.func48.trans (congrArg some (by kernel_rfl))
  f152 := Tryd.func125.trans (congrArg some (by kernel_rfl))
  f217 := Tryd.func111.trans (congrArg some (by kernel_rfl))
  f224 := Tryd.func156.trans (congrArg some (by kernel_rfl))
  f225 := Tryd.func155.trans (congrArg some (by kernel_rfl))
  f266 := Tryd.func150.trans (congrArg some (by kernel_rfl))
  t0 := Tryd.underlying0
  a0 := Tryd.isAgg0
  z0 := Tryd.sizeOf0
  v0 := Tryd.zeroValue0
  t3 := Tryd.underlying3
  a3 := Tryd.isAgg3
  z3 := Tryd.sizeOf3
  v3 := Tryd.zeroValue3
  t4 := Tryd.underlying4
  a4 := Tryd.isAgg4
  z4 := Tryd.sizeOf4
  v4 := Tryd.zeroValue4
  t5 := Tryd.underlying5
  a5 := Tryd.isAgg5
  z5 := Tryd.sizeOf5
  v5 := Tryd.zeroValue5
  t9 := Tryd.underlying9
  a9 := Tryd.isAgg9
  z9 := Tryd.sizeOf9
  v9 := Tryd.zeroValue9
  t21 := Tryd.underlying21
  a21 := Tryd.isAgg21
  z21 := Tryd.sizeOf21
  v21 := Tryd.zeroValue21
  t46 := Tryd.underlying192
  a46 := Tryd.isAgg192
  z46 := Tryd.sizeOf192
  v46 := Tryd.zeroValue192 }
open Go.RowKit Go.Lib in
theorem Tryd.strings_IndexRune_ascii (s : ByteArray) (r : Int) (w : World) (h0 : 0 ≤ r) (h1 : r < 128) :
    Calls Tryd.prog 125 #[.string s, .int .i32 r] w fun e w' => e = .returned (.int .i64 (Lib.indexByte s.data.toList r.toNat.toUInt8)) ∧ w' = w := Any.strings_IndexRune_ascii Tryd.lays152 s r w h0 h1
def Tryd.lays226_ren : Go.Shelf.Ren := ⟨fun | 226 => 126 | n => n, fun | 3 => 3 | 4 => 4 | n => n, fun | n => n⟩
theorem Tryd.lays226 : Go.Proofs.Lays.n226 Tryd.prog Tryd.lays226_ren := {
  mixed := by kernel_rfl
  f226 := Tryd.func126.trans (congrArg some (by kernel_rfl))
  t3 := Tryd.underlying3
  a3 := Tryd.isAgg3
  z3 := Tryd.sizeOf3
  v3 := Tryd.zeroValue3
  t4 := Tryd.underlying4
  a4 := Tryd.isAgg4
  z4 := Tryd.sizeOf4
  v4 := Tryd.zeroValue4 }
open Go.RowKit Go.Lib in
theorem Tryd.strings_shouldUseASCIISet (n : Int) (w : World) :
    Calls Tryd.prog 126 #[.int .i64 n] w fun e w' => e = .returned (.bool (decide (8 < n))) ∧ w' = w := Any.strings_shouldUseASCIISet Tryd.lays226 n w
def Tryd.lays153_ren : Go.Shelf.Ren := ⟨fun | 153 => 71 | 152 => 125 | 226 => 126 | 227 => 74 | 228 => 127 | 137 => 48 | 119 => 158 | 224 => 156 | 225 => 155 | 217 => 111 | 266 => 150 | n => n, fun | 9 => 9 | 3 => 3 | 4 => 4 | 5 => 5 | 21 => 21 | 117 => 103 | 116 => 102 | 0 => 0 | 46 => 192 | 124 => 106 | n => n, fun | n => n⟩
theorem Tryd.lays153 : Go.Proofs.Lays.n153 Tryd.prog Tryd.lays153_ren := {
  mixed := by kernel_rfl
  f119 := Tryd.func158.trans (congrArg some (by kernel_rfl))
  f137 := Tryd.func48.trans (congrArg some (by kernel_rfl))
  f152 := Tryd.func125.trans (congrArg some (by kernel_rfl))
  f153 := Tryd.func71.trans (congrArg some (by kernel_rfl))
  f217 := Tryd.func111.trans (congrArg some (by kernel_rfl))
  f224 := Tryd.func156.trans (congrArg some (by kernel_rfl))
  f225 := Tryd.func155.trans (congrArg some (by kernel_rfl))
  f226 := Tryd.func126.trans (congrArg some (by kernel_rfl))
  f227 := Tryd.func74.trans (congrArg some (by kernel_rfl))
  f228 := Tryd.func127.trans (congrArg some (by kernel_rfl))
  f266 := Tryd.func150.trans (congrArg some (by kernel_rfl))
  t0 := Tryd.underlying0
  a0 := Tryd.isAgg0
  z0 := Tryd.sizeOf0
  v0 := Tryd.zeroValue0
  t3 := Tryd.underlying3
  a3 := Tryd.isAgg3
  z3 := Tryd.sizeOf3
  v3 := Tryd.zeroValue3
  t4 := Tryd.underlying4
  a4 := Tryd.isAgg4
  z4 := Tryd.sizeOf4
  v4 := Tryd.zeroValue4
  t5 := Tryd.underlying5
  a5 := Tryd.isAgg5
  z5 := Tryd.sizeOf5
  v5 := Tryd.zeroValue5
  t9 := Tryd.underlying9
  a9 := Tryd.isAgg9
  z9 := Tryd.sizeOf9
  v9 := Tryd.zeroValue9
  t21 := Tryd.underlying21
  a21 := Tryd.isAgg21
  z21 := Tryd.sizeOf21
  v21 := Tryd.zeroValue21
  t46 := Tryd.underlying192
  a46 := Tryd.isAgg192
  z46 := Tryd.sizeOf192
  v46 := Tryd.zeroValue192
  t116 := Tryd.underlying102
  a116 := Tryd.isAgg102
  z116 := Tryd.sizeOf102
  t117 := Tryd.underlying103
  a117 := Tryd.isAgg103
  z117 := Tryd.sizeOf103
  v117 := Tryd.zeroValue103
  t124 := Tryd.underlying106
  a124 := Tryd.isAgg106
  z124 := Tryd.sizeOf106
  v124 := Tryd.zeroValue106 }
open Go.RowKit Go.Lib in
theorem Tryd.strings_IndexAny_none (s chars : ByteArray) (w : World) (h0 : chars.size = 0) :
    Calls Tryd.prog 71 #[.string s, .string chars] w fun e w' => e = .returned (.int .i64 (Lib.indexAny s.data.toList chars.data.toList)) ∧ w' = w := Any.strings_IndexAny_none Tryd.lays153 s chars w h0
open Go.RowKit Go.Lib in
theorem Tryd.strings_IndexAny_one (s chars : ByteArray) (w : World) (h1 : chars.size = 1) (hascii : ∀ (j : Nat) b, chars.data.toList[j]? = some b → b.toNat < 128) :
    Calls Tryd.prog 71 #[.string s, .string chars] w fun e w' => e = .returned (.int .i64 (Lib.indexAny s.data.toList chars.data.toList)) ∧ w' = w := Any.strings_IndexAny_one Tryd.lays153 s chars w h1 hascii
open Go.RowKit Go.Lib in
theorem Tryd.strings_IndexAny_long (hv116 : ∀ w, (zeroValue 102).run Tryd.prog w = .ok (.agg (Array.replicate 256 (.bool false))) w) (s chars : ByteArray) (w : World) (h2 : 2 ≤ chars.size) (h8 : 8 < s.size) (hs : s.size < 4294967281) (hcs : chars.size < 4294967281) (hascii : ∀ (j : Nat) b, chars.data.toList[j]? = some b → b.toNat < 128) :
    Calls Tryd.prog 71 #[.string s, .string chars] w fun e w' => e = .returned (.int .i64 (Lib.indexAny s.data.toList chars.data.toList)) ∧ w' = ((w.alloc (.cells (Lib.setCells chars.data.toList) 102)).alloc (.cells (Lib.setCells chars.data.toList) 102)) := Any.strings_IndexAny_long Tryd.lays153 hv116 (by kernel_rfl) s chars w h2 h8 hs hcs hascii
def Tryd.lays160t_ren : Go.Shelf.Ren := ⟨fun | 160 => 24 | 232 => 73 | 231 => 72 | 227 => 74 | 234 => 76 | 233 => 75 | 236 => 78 | 235 => 77 | 228 => 127 | 271 => 130 | 151 => 129 | 197 => 128 | 120 => 160 | 152 => 125 | 260 => 159 | 137 => 48 | 119 => 158 | 224 => 156 | 225 => 155 | 217 => 111 | 266 => 150 | n => n, fun | 9 => 9 | 4 => 4 | 3 => 3 | 5 => 5 | 117 => 103 | 116 => 102 | 0 => 0 | 124 => 106 | 21 => 21 | 105 => 172 | 46 => 192 | 119 => 205 | 139 => 208 | 138 => 207 | n => n, fun | 3 => 1 | 4 => 2 | n => n⟩
theorem Tryd.lays160t : Go.Proofs.Lays.n160 Tryd.prog Tryd.lays160t_ren := {
  mixed := by kernel_rfl
  f119 := Tryd.func158.trans (congrArg some (by kernel_rfl))
  f120 := Tryd.func160.trans (congrArg some (by kernel_rfl))
  f137 := Tryd.func48.trans (congrArg some (by kernel_rfl))
  f151 := Tryd.func129.trans (congrArg some (by kernel_rfl))
  f152 := Tryd.func125.trans (congrArg some (by kernel_rfl))
  f160 := Tryd.func24.trans (congrArg some (by kernel_rfl))
  f197 := Tryd.func128.trans (congrArg some (by kernel_rfl))
  f217 := Tryd.func111.trans (congrArg some (by kernel_rfl))
  f224 := Tryd.func156.trans (congrArg some (by kernel_rfl))
  f225 := Tryd.func155.trans (congrArg some (by kernel_rfl))
  f227 := Tryd.func74.trans (congrArg some (by kernel_rfl))
  f228 := Tryd.func127.trans (congrArg some (by kernel_rfl))
  f231 := Tryd.func72.trans (congrArg some (by kernel_rfl))
  f232 := Tryd.func73.trans (congrArg some (by kernel_rfl))
  f233 := Tryd.func75.trans (congrArg some (by kernel_rfl))
  f234 := Tryd.func76.trans (congrArg some (by kernel_rfl))
  f235 := Tryd.func77.trans (congrArg some (by kernel_rfl))
  f236 := Tryd.func78.trans (congrArg some (by kernel_rfl))
  f260 := Tryd.func159.trans (congrArg some (by kernel_rfl))
  f266 := Tryd.func150.trans (congrArg some (by kernel_rfl))
  f271 := Tryd.func130.trans (congrArg some (by kernel_rfl))
  t0 := Tryd.underlying0
  a0 := Tryd.isAgg0
  z0 := Tryd.sizeOf0
  v0 := Tryd.zeroValue0
  t3 := Tryd.underlying3
  a3 := Tryd.isAgg3
  z3 := Tryd.sizeOf3
  v3 := Tryd.zeroValue3
  t4 := Tryd.underlying4
  a4 := Tryd.isAgg4
  z4 := Tryd.sizeOf4
  v4 := Tryd.zeroValue4
  t5 := Tryd.underlying5
  a5 := Tryd.isAgg5
  z5 := Tryd.sizeOf5
  v5 := Tryd.zeroValue5
  t9 := Tryd.underlying9
  a9 := Tryd.isAgg9
  z9 := Tryd.sizeOf9
  v9 := Tryd.zeroValue9
  t21 := Tryd.underlying21
  a21 := Tryd.isAgg21
  z21 := Tryd.sizeOf21
  v21 := Tryd.zeroValue21
  t46 := Tryd.underlying192
  a46 := Tryd.isAgg192
  z46 := Tryd.sizeOf192
  v46 := Tryd.zeroValue192
  t105 := Tryd.underlying172
  a105 := Tryd.isAgg172
  z105 := Tryd.sizeOf172
  v105 := Tryd.zeroValue172
  t116 := Tryd.underlying102
  a116 := Tryd.isAgg102
  z116 := Tryd.sizeOf102
  t117 := Tryd.underlying103
  a117 := Tryd.isAgg103
  z117 := Tryd.sizeOf103
  v117 := Tryd.zeroValue103
  t119 := Tryd.underlying205
  a119 := Tryd.isAgg205
  z119 := Tryd.sizeOf205
  t124 := Tryd.underlying106
  a124 := Tryd.isAgg106
  z124 := Tryd.sizeOf106
  v124 := Tryd.zeroValue106
  t138 := Tryd.underlying207
  a138 := Tryd.isAgg207
  z138 := Tryd.sizeOf207
  v138 := Tryd.zeroValue207
  t139 := Tryd.underlying208
  a139 := Tryd.isAgg208
  z139 := Tryd.sizeOf208
  v139 := Tryd.zeroValue208
  g3 := by kernel_rfl
  g4 := by kernel_rfl }
open Go.RowKit Go.Lib in
theorem Tryd.strings_Trim_laid (s cutset : ByteArray) (w : World) (hs : s.size ≤ 9223372036854775807) (hcs : cutset.size < 4294967281)
    (hascii : ∀ (j : Nat) b, cutset.data.toList[j]? = some b → b.toNat < 128) :
    Calls Tryd.prog 24 #[.string s, .string cutset] w fun e w' => e = .returned (.string ⟨(Lib.trimS s.data.toList cutset.data.toList).toArray⟩) ∧ Below w.heap.size w w' := Any.strings_Trim_laid Tryd.lays160t (by kernel_rfl) s cutset w hs hcs hascii
def Tryd.laysH10_ren : Go.Shelf.Ren := ⟨fun | 10 => 174 | 6 => 178 | n => n, fun | 22 => 56 | 23 => 9 | 25 => 33 | 3 => 3 | 4 => 4 | 0 => 0 | n => n, fun | n => n⟩
theorem Tryd.laysH10 : Go.Proofs.SlLaysH.n10 Tryd.prog Tryd.laysH10_ren := {
  mixed := by kernel_rfl
  f6 := ⟨Tryd.f178.name, by decide, Tryd.func178.trans (congrArg some (by kernel_rfl))⟩
  f10 := ⟨Tryd.f174.name, by decide, Tryd.func174.trans (congrArg some (by kernel_rfl))⟩
  t0 := Tryd.underlying0
  a0 := Tryd.isAgg0
  z0 := Tryd.sizeOf0
  v0 := Tryd.zeroValue0
  t3 := Tryd.underlying3
  a3 := Tryd.isAgg3
  z3 := Tryd.sizeOf3
  v3 := Tryd.zeroValue3
  t4 := Tryd.underlying4
  a4 := Tryd.isAgg4
  z4 := Tryd.sizeOf4
  v4 := Tryd.zeroValue4
  t22 := Tryd.underlying56
  a22 := Tryd.isAgg56
  z22 := Tryd.sizeOf56
  v22 := Tryd.zeroValue56
  a23 := Tryd.isAgg9
  z23 := Tryd.sizeOf9
  t25 := Tryd.underlying33
  a25 := Tryd.isAgg33
  z25 := Tryd.sizeOf33
  v25 := Tryd.zeroValue33 }
def Tryd.laysH6_ren : Go.Shelf.Ren := ⟨fun | 6 => 178 | n => n, fun | 22 => 56 | 23 => 9 | 25 => 33 | 3 => 3 | 0 => 0 | 4 => 4 | n => n, fun | n => n⟩
theorem Tryd.laysH6 : Go.Proofs.SlLaysH.n6 Tryd.prog Tryd.laysH6_ren := {
  mixed := by kernel_rfl
  f6 := ⟨Tryd.f178.name, by decide, Tryd.func178.trans (congrArg some (by kernel_rfl))⟩
  t0 := Tryd.underlying0
  a0 := Tryd.isAgg0
  z0 := Tryd.sizeOf0
  v0 := Tryd.zeroValue0
  t3 := Tryd.underlying3
  a3 := Tryd.isAgg3
  z3 := Tryd.sizeOf3
  v3 := Tryd.zeroValue3
  t4 := Tryd.underlying4
  a4 := Tryd.isAgg4
  z4 := Tryd.sizeOf4
  v4 := Tryd.zeroValue4
  t22 := Tryd.underlying56
  a22 := Tryd.isAgg56
  z22 := Tryd.sizeOf56
  v22 := Tryd.zeroValue56
  a23 := Tryd.isAgg9
  z23 := Tryd.sizeOf9
  t25 := Tryd.underlying33
  a25 := Tryd.isAgg33
  z25 := Tryd.sizeOf33
  v25 := Tryd.zeroValue33 }
end Go.Proofs
