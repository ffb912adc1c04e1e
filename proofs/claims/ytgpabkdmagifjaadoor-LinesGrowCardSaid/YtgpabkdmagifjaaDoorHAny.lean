/- strings.IndexAny, ContainsAny at any text, of a set of ASCII bytes, as plain Lean functions with contracts. Conditions: texts of fewer than 4294967281 bytes; the set's bytes below 128. -/
import Derived.Lib.OthersKept
import Derived.Laws.Runes
import Derived.Laws.RangeAny
import Derived.Deep.LoopGhost
import Derived.Deep.QuietTactic
import Derived.BigQuiet
import Derived.WalkKit
import Derived.Lib.Hide
import Derived.Test.YtgpabkdmagifjaaDoorHBase
import Derived.Test.YtgpabkdmagifjaaDoorHStr
namespace Go.Proofs.YtgpabkdmagifjaaDoor.X
open Go.RowKit Go.Proofs.YtgpabkdmagifjaaDoorW.PrintWords

theorem decode_bytes (s : ByteArray) (pos : Nat) (h : pos < s.size) (ha : 128 ≤ (s[pos]'h).toNat) :
    1 ≤ (Utf8.decode s pos).2 ∧ ∀ j, pos ≤ j → j < pos + (Utf8.decode s pos).2 → ∃ hj : j < s.size, 128 ≤ (s[j]'hj).toNat := by
  have h0 : s.get! (pos + 0) = s[pos]'h := get_at s pos h
  have key : ∀ k, (decide (pos + k < s.size) && (s.get! (pos + k)).toNat / 64 == 2) = true → ∃ hj : pos + k < s.size, 128 ≤ (s[pos + k]'hj).toNat := by
    intro k hk
    simp only [Bool.and_eq_true, decide_eq_true_eq, beq_iff_eq] at hk
    refine ⟨hk.1, ?_⟩
    have e : s.get! (pos + k) = s[pos + k]'hk.1 := get_at s (pos + k) hk.1
    rw [e] at hk
    omega
  have base : ∃ hj : pos < s.size, 128 ≤ (s[pos]'hj).toNat := ⟨h, ha⟩
  have one : 1 ≤ 1 ∧ ∀ j, pos ≤ j → j < pos + 1 → ∃ hj : j < s.size, 128 ≤ (s[j]'hj).toNat := ⟨Nat.le_refl _, fun j h1 h2 => by
    obtain rfl : j = pos := by omega
    exact base⟩
  simp only [Utf8.decode, h0]
  split
  · omega
  · split
    · rename_i hc
      simp only [Bool.and_eq_true] at hc
      have k1 := key 1 (by simpa using hc.2)
      split
      · refine ⟨by omega, fun j h1 h2 => ?_⟩
        rcases (by omega : j = pos ∨ j = pos + 1) with rfl | rfl
        · exact base
        · exact k1
      · exact one
    · split
      · rename_i hc
        simp only [Bool.and_eq_true] at hc
        have k1 := key 1 (by simpa using hc.1.2)
        have k2 := key 2 (by simpa using hc.2)
        split
        · refine ⟨by omega, fun j h1 h2 => ?_⟩
          rcases (by omega : j = pos ∨ j = pos + 1 ∨ j = pos + 2) with rfl | rfl | rfl
          · exact base
          · exact k1
          · exact k2
        · exact one
      · split
        · rename_i hc
          simp only [Bool.and_eq_true] at hc
          have k1 := key 1 (by simpa using hc.1.1.2)
          have k2 := key 2 (by simpa using hc.1.2)
          have k3 := key 3 (by simpa using hc.2)
          split
          · refine ⟨by omega, fun j h1 h2 => ?_⟩
            rcases (by omega : j = pos ∨ j = pos + 1 ∨ j = pos + 2 ∨ j = pos + 3) with rfl | rfl | rfl | rfl
            · exact base
            · exact k1
            · exact k2
            · exact k3
          · exact one
        · exact one

theorem iterAt_heap (w : World) (k : Nat) (s : ByteArray) (p : Nat) (h : k < w.heap.size) : (w.iterAt k s p).heap[k]? = some (.stringIter s p) := by
  simp [World.iterAt, h]
theorem iterAt_below {base : Nat} {w W : World} {k : Nat} (h : Below base w W) (hk : base ≤ k) (s : ByteArray) (p : Nat) : Below base w (W.iterAt k s p) :=
  ⟨h.os, h.tape, h.output, by have := h.size; simpa [World.iterAt] using this, fun j hj => by
    rw [← h.block j hj]
    simp only [World.iterAt, Array.getElem?_setIfInBounds, if_neg (show ¬ k = j by omega)]⟩
theorem data_get (s : ByteArray) (j : Nat) (h : j < s.size) : s.data.toList[j]? = some (s[j]'h) := Lib.data_getElem? s j h

theorem quiet_add_same {P : Program} {f : FuncId} {args : Array Value} {w : World} {a n : Nat} {v : Value}
    (h : Calls P f args (w.drewN (a + n)) fun e w' => e = .returned v ∧ w' = w.drewN (a + n)) :
    Calls P f args (w.drewN (a + n)) fun e w'' => e = .returned v ∧ ∃ m, w'' = w.drewN (a + m) :=
  h.mono fun _ _ ⟨he, hm⟩ => ⟨he, n, hm⟩
theorem validRune_yes (r : Int) (w : World) (h : Lib.validRune r = true) : Calls Tryd.prog 158 #[.int .i32 r] w fun e w' => e = .returned (.bool true) ∧ w' = w := by
  rw [← h]; exact Tryd.utf8_ValidRune r w
theorem indexByte_no (t : ByteArray) (c : Int) (w : World) (h : ∀ b ∈ t.data.toList, b.toNat < 128) (hc : 128 ≤ c) (hc' : c < 256) :
    Calls Tryd.prog 48 #[.string t, .int .u8 c] w fun e w' => e = .returned (.int .i64 (-1)) ∧ w' = w := by
  have e : Lib.indexByte t.data.toList c.toNat.toUInt8 = -1 := by
    rcases Int.lt_or_le (Lib.indexByte t.data.toList c.toNat.toUInt8) 0 with hlt | hge
    · have := Lib.indexAny_ge [c.toNat.toUInt8] t.data.toList
      rw [Lib.indexAny_one] at this
      omega
    · have hcon := Lib.contains_iff_indexByte t.data.toList c.toNat.toUInt8
      rw [decide_eq_true hge] at hcon
      have hm := h _ (List.contains_iff_mem.1 hcon)
      rw [show (c.toNat.toUInt8).toNat = c.toNat % 256 from rfl] at hm
      omega
  rw [← e]; exact Tryd.strings_IndexByte t c w

set_option maxRecDepth 100000 in
set_option maxHeartbeats 2000000 in
/-- strings.IndexRune: no rune beyond ASCII stands in a text of ASCII bytes. -/
theorem indexRune_high (s : ByteArray) (r : Int) (w : World) (h0 : 128 ≤ r) (h1 : r ≤ 2147483647) (_hs : s.size ≤ 4294967281) (ha : ∀ (j : Nat) b, s.data.toList[j]? = some b → b.toNat < 128) :
    Calls Tryd.prog 125 #[.string s, .int .i32 r] w fun e w' => e = .returned (.int .i64 (-1)) ∧ Below w.heap.size w w' := by
  have hmem : ∀ b ∈ s.data.toList, b.toNat < 128 := fun b hb => by
    obtain ⟨j, hj, rfl⟩ := List.getElem_of_mem hb
    exact ha j _ (List.getElem?_eq_getElem hj)
  have HA : Aside0 (∀ (j : Nat) b, s.data.toList[j]? = some b → b.toNat < 128) := ⟨ha⟩
  have HM : Aside0 (∀ b ∈ s.data.toList, b.toNat < 128) := ⟨hmem⟩
  clear ha hmem
  by_cases he : r = 65533
  · subst he
    go_enter Tryd.func125, Tryd.ntmps125
    go_wp2
    go_loopg [5, 6] s.size (fun g _ _ wx => ∃ i : Nat, i + g = s.size ∧ wx = w.iter s i)
    case atStart => exact ⟨0, by omega, rfl⟩
    case round =>
      obtain ⟨i, hig, rfl⟩ := hrel
      cases gk with
      | zero =>
        obtain rfl : i = s.size := by omega
        have hnx := run_next_end (P := Tryd.prog) w s s.size
        go_wp2
        go_ret
        exact ⟨rfl, (Below.refl _ w).alloc (Nat.le_refl _) _⟩
      | succ g =>
        have hi : i < s.size := by omega
        have hx128 : (s[i]'hi).toNat < 128 := HA.out i _ (data_get s i hi)
        have hnx := fun ty => run_next_ascii (P := Tryd.prog) w s i ty hi hx128
        have hne : (((s[i]'hi).toNat : Int) == 65533) = false := beq_false_of_ne (by omega)
        go_wp2
        go_roundg g
        case measure => omega
        case rel => exact ⟨i + 1, by omega, rfl⟩
  · have hne : (r == 65533) = false := beq_false_of_ne he
    have hlt : decide (r < 128) = false := decide_eq_false (by omega)
    have hge : decide (0 ≤ r) = true := decide_eq_true (by omega)
    cases hv : Lib.validRune r with
    | false =>
      go_enter Tryd.func125, Tryd.ntmps125
      go_wp2_with (go_at_call 158; refine (Tryd.utf8_ValidRune _ _).mono ?_; rintro e w' ⟨rfl, rfl⟩)
      go_ret
      exact ⟨rfl, Below.refl _ _⟩
    | true =>
      have hval : Utf8.valid r = true := by
        rw [validRune_eq]; exact hv
      obtain ⟨f2, f4, f8⟩ := encode_facts r hval h0
      obtain ⟨rs, hrs⟩ : ∃ rs, Utf8.encode r = rs := ⟨_, rfl⟩
      rw [hrs] at f2 f4 f8
      obtain ⟨x, hx⟩ : ∃ x : UInt8, rs[rs.size - 1]'(by omega) = x := ⟨_, rfl⟩
      have hx8 : 128 ≤ x.toNat := by rw [← hx]; exact f8 (by omega)
      obtain ⟨n, hn⟩ : ∃ n, rs.size = n + 1 := ⟨rs.size - 1, by omega⟩
      have hnx : n < rs.size := by omega
      have hrx : rs[n]'hnx = x := by rw [← hx]; congr 1; omega
      have hn4 : n ≤ 3 := by omega
      clear hx f2 f4 f8 hval
      go_enter Tryd.func125, Tryd.ntmps125
      go_wp2_with (go_at_call 158; refine (validRune_yes _ _ (by assumption)).mono ?_; rintro e w' ⟨rfl, rfl⟩)
      go_step3
      go_wp2
      go_loop [9] (fun i => i = .int .i64 (n : Int)) (fun _ => 0)
      case atStart => rfl
      case round =>
        obtain rfl := hrel
        by_cases hns : n < s.size
        · have hb1 : (s[n]'hns).toNat < 128 := HA.out n _ (data_get s n hns)
          have hneq : (((s[n]'hns).toNat : Int) != (x.toNat : Int)) = true := by rw [bne_iff_ne]; omega
          have hx256 := x.toNat_lt
          go_wp2
          go_step3
          go_wp2
          go_quiet (fail)
          go_wp2
          have hw : IntKind.i64.wrap ((n : Int) + 1) = (n : Int) + 1 := wrap_small _ (by omega) (by omega)
          have hw3 : (n : Int) < (n : Int) + 1 := by omega
          have hw0 : 0 ≤ (n : Int) + 1 := by omega
          have hw1 : ((n : Int) + 1).toNat = n + 1 := by omega
          have hw2 : (n : Int) + 1 ≤ (s.size : Int) := by omega
          go_quiet ((go_at_call 48; exact quiet_add_same (indexByte_no _ _ _ (fun b hb => HM.out b (mem_extract hb)) (by omega) (by omega))))
          go_wp2
          rw [Exit.noGoto_ret]
          dsimp only [Exit.inBlock]
          rename_i Q7 _ _ _ _ _ _
          simp only [Q7]
          simp only [Exit.then, Exit.noGoto, Exit.inBlock]
          go_ret
          exact ⟨rfl, pw_below_drewN (Below.refl _ _) _⟩
        · go_wp2
          go_ret
          exact ⟨rfl, Below.refl _ _⟩

set_option maxRecDepth 100000 in
set_option maxHeartbeats 4000000 in
/-- strings.IndexAny at a short text. -/
theorem indexAny_short (s chars : ByteArray) (w : World) (h2 : 2 ≤ chars.size) (h8 : s.size ≤ 8) (hcs : chars.size ≤ 4294967281) (hac : ∀ (j : Nat) b, chars.data.toList[j]? = some b → b.toNat < 128) :
    Calls Tryd.prog 71 #[.string s, .string chars] w fun e w' => e = .returned (.int .i64 (Lib.indexAny s.data.toList chars.data.toList)) ∧ Below w.heap.size w w' := by
  have HA : Aside0 (∀ (j : Nat) b, chars.data.toList[j]? = some b → b.toNat < 128) := ⟨hac⟩
  have hnc : ∀ c : UInt8, 128 ≤ c.toNat → chars.data.toList.contains c = false := by
    intro c hc
    rw [Bool.eq_false_iff]
    intro h
    obtain ⟨j, hj, e⟩ := List.getElem_of_mem (List.contains_iff_mem.1 h)
    have := hac j c (by rw [List.getElem?_eq_getElem hj, e])
    omega
  have HC : Aside0 (∀ c : UInt8, 128 ≤ c.toNat → chars.data.toList.contains c = false) := ⟨hnc⟩
  clear hac hnc
  have hemp : chars.toList.isEmpty = false := by
    rw [Lib.toList_data]
    cases h : chars.data.toList with
    | nil => have := Lib.size_eq chars; rw [h, List.length_nil] at this; omega
    | cons _ _ => rfl
  have hn1 : ((chars.size : Int) == 1) = false := beq_eq_false_iff_ne.2 (by omega)
  have h8z : decide ((8 : Int) < (s.size : Int)) = false := decide_eq_false (by omega)
  go_enter Tryd.func71, Tryd.ntmps71
  go_wp2_with (go_at_call 126; refine (Tryd.strings_shouldUseASCIISet _ _).mono ?_; rintro e w' ⟨rfl, hw⟩; rw [hw, h8z])
  go_loopg [9, 10] s.size (fun g _ _ wx => ∃ i : Nat, i ≤ s.size ∧ s.size - i = g ∧ Aside0 (wx.heap[w.heap.size]? = some (.stringIter s i)) ∧ Aside0 (Below w.heap.size w wx) ∧ Aside0 (Lib.NoAny s.data.toList chars.data.toList i))
  case atStart => exact ⟨0, by omega, by omega, ⟨World.iter_heap _ _ _⟩, ⟨(Below.refl _ w).alloc (Nat.le_refl _) _⟩, ⟨Lib.NoAny.zero _ _⟩⟩
  case round =>
    obtain ⟨i, hi, hig, HI, HB, HN⟩ := hrel
    have hksz : w.heap.size < wr.heap.size := (Array.getElem?_eq_some_iff.1 HI.out).1
    have HSz := Aside0.mk hksz
    by_cases hlt : i < s.size
    · obtain ⟨x, hx⟩ : ∃ x : UInt8, s[i]'hlt = x := ⟨_, rfl⟩
      have hxl := Aside0.mk (data_get s i hlt)
      rw [hx] at hxl
      by_cases hx128 : x.toNat < 128
      · have hnx := fun ty => Lib.run_next_ascii_at (P := Tryd.prog) wr w.heap.size s i ty HI.out hlt (by rw [hx]; exact hx128)
        rw [hx] at hnx
        clear hx
        obtain ⟨W1, hW1⟩ : ∃ W1, wr.iterAt w.heap.size s (i + 1) = W1 := ⟨_, rfl⟩
        rw [hW1] at hnx
        have HW := Aside0.mk hW1
        clear hW1 hksz
        have hcon := Lib.contains_iff_indexByte chars.data.toList x
        have hback : ((x.toNat : Int)).toNat.toUInt8 = x := by simp
        have hI1 : W1.heap[w.heap.size]? = some (.stringIter s (i + 1)) := by rw [← HW.out]; exact iterAt_heap _ _ _ _ HSz.out
        have hB1 : Below w.heap.size w W1 := by rw [← HW.out]; exact iterAt_below HB.out (Nat.le_refl _) _ _
        replace hI1 := Aside0.mk hI1; replace hB1 := Aside0.mk hB1
        cases hin : chars.data.toList.contains x
        · rw [hin] at hcon
          have hneg : ¬ ((0 : Int) ≤ Lib.indexByte chars.data.toList x) := of_decide_eq_false hcon.symm
          clear hcon
          go_wp2_with (go_at_call 125; refine (Tryd.strings_IndexRune_ascii _ _ _ (by omega) (by omega)).mono ?_; rintro e w' ⟨rfl, hw⟩; rw [hw, hback])
          go_roundg (s.size - (i + 1))
          case measure => omega
          case rel => exact ⟨i + 1, by omega, rfl, hI1, hB1, ⟨HN.out.succ hxl.out hin⟩⟩
        · rw [hin] at hcon
          have hge : (0 : Int) ≤ Lib.indexByte chars.data.toList x := of_decide_eq_true hcon.symm
          clear hcon
          go_wp2_with (go_at_call 125; refine (Tryd.strings_IndexRune_ascii _ _ _ (by omega) (by omega)).mono ?_; rintro e w' ⟨rfl, hw⟩; rw [hw, hback])
          go_ret
          exact ⟨by rw [Lib.indexAny_hit HN.out hxl.out hin]; rfl, hB1.out⟩
      · have hxx : 128 ≤ (s[i]'hlt).toNat := by rw [hx]; omega
        have hnx := fun ty => Lib.run_next_any_at (P := Tryd.prog) wr w.heap.size s i ty HI.out hlt
        have hdb := decode_bytes s i hlt hxx
        have hdh := (decode_high s i hlt hxx).1
        have hdl := decode_le s i
        obtain ⟨d, hd⟩ : ∃ d, Utf8.decode s i = d := ⟨_, rfl⟩
        rw [hd] at hnx hdb hdh hdl
        obtain ⟨W1, hW1⟩ : ∃ W1, wr.iterAt w.heap.size s (i + d.2) = W1 := ⟨_, rfl⟩
        rw [hW1] at hnx
        have HW := Aside0.mk hW1
        have hI1 : W1.heap[w.heap.size]? = some (.stringIter s (i + d.2)) := by rw [← HW.out]; exact iterAt_heap _ _ _ _ HSz.out
        have hB1 : Below w.heap.size w W1 := by rw [← HW.out]; exact iterAt_below HB.out (Nat.le_refl _) _ _
        have hS1 : w.heap.size < W1.heap.size := (Array.getElem?_eq_some_iff.1 hI1).1
        have HB2 := Aside0.mk hdb
        replace hI1 := Aside0.mk hI1; replace hB1 := Aside0.mk hB1; replace hS1 := Aside0.mk hS1
        have hd1 : (128 : Int) ≤ (d.1 : Int) := by omega
        have hd2 : (d.1 : Int) ≤ 2147483647 := by omega
        clear hW1 hksz hdb hx hd hdh hdl
        go_wp2_with (go_at_call 125; refine (indexRune_high _ _ _ hd1 hd2 hcs HA.out).mono ?_; rintro e w3 ⟨rfl, hb3⟩)
        have hlast : i + d.2 ≤ s.size := by
          obtain ⟨q1, q2⟩ := HB2.out
          obtain ⟨hj, _⟩ := q2 (i + d.2 - 1) (by omega) (by omega)
          omega
        go_roundg (s.size - (i + d.2))
        case measure => have := HB2.out.1; omega
        case rel =>
          refine ⟨i + d.2, hlast, rfl, ⟨(hb3.block _ hS1.out).trans hI1.out⟩, ⟨hB1.out.trans (hb3.mono (Nat.le_of_lt hS1.out))⟩, ⟨fun j b hj hb => ?_⟩⟩
          by_cases hji : j < i
          · exact HN.out j b hji hb
          · obtain ⟨hj2, hj3⟩ := HB2.out.2 j (by omega) hj
            have := data_get s j hj2
            rw [this] at hb
            obtain rfl := Option.some.inj hb
            exact HC.out _ hj3
    · have hnx := fun ty => Lib.run_next_end_at (P := Tryd.prog) wr w.heap.size s i ty HI.out hlt
      go_wp2
      go_ret
      obtain rfl : i = s.size := by omega
      exact ⟨by rw [Lib.indexAny_none (by rw [← Lib.size_eq]; exact HN.out)]; rfl, HB.out⟩

/-- strings.IndexAny -/
def strings_IndexAny.f (a0 a1 : ByteArray) : Option Int :=
  if a0.size < 4294967281 ∧ a1.size < 4294967281 ∧ a1.data.toList.all (fun b => decide (b.toNat < 128)) = true then some (Lib.indexAny a0.data.toList a1.data.toList) else none
theorem strings_IndexAny.calls (a0 a1 : ByteArray) (r : Int) (w : World) (h : strings_IndexAny.f a0 a1 = some r) :
    Calls Tryd.prog 71 #[.string a0, .string a1] w fun e w' => e = .returned (.int .i64 r) ∧ Below w.heap.size w w' := by
  unfold strings_IndexAny.f at h
  split at h
  · rename_i hb
    obtain ⟨h1, h2, h3⟩ := hb
    obtain rfl := Option.some.inj h
    have hac : ∀ (j : Nat) b, a1.data.toList[j]? = some b → b.toNat < 128 := fun j b hj => by
      have := List.all_eq_true.1 h3 b (List.mem_of_getElem? hj)
      simpa using this
    by_cases e0 : a1.size = 0
    · exact (Tryd.strings_IndexAny_none a0 a1 w e0).mono fun e w' ⟨h1, h2⟩ => ⟨h1, h2 ▸ Below.refl _ _⟩
    by_cases e1 : a1.size = 1
    · exact (Tryd.strings_IndexAny_one a0 a1 w e1 hac).mono fun e w' ⟨h1, h2⟩ => ⟨h1, h2 ▸ Below.refl _ _⟩
    by_cases e8 : a0.size ≤ 8
    · exact indexAny_short a0 a1 w (by omega) e8 (by omega) hac
    · refine (Tryd.strings_IndexAny_long (fun w => by kernel_rfl) a0 a1 w (by omega) (by omega) h1 h2 hac).mono fun e w' ⟨h1, h2⟩ => ⟨h1, ?_⟩
      rw [h2]
      exact ((Below.refl _ _).alloc (Nat.le_refl _) _).alloc (by simp) _
  · exact absurd h (by simp)

/-- strings.ContainsAny -/
def strings_ContainsAny.f (a0 a1 : ByteArray) : Option Bool := (strings_IndexAny.f a0 a1).map fun i => decide (0 ≤ i)
theorem strings_ContainsAny.calls (a0 a1 : ByteArray) (r : Bool) (w : World) (h : strings_ContainsAny.f a0 a1 = some r) :
    Calls Tryd.prog 23 #[.string a0, .string a1] w fun e w' => e = .returned (.bool r) ∧ Below w.heap.size w w' := by
  unfold strings_ContainsAny.f at h
  obtain ⟨i, hi, rfl⟩ := Option.map_eq_some_iff.1 h
  have c := strings_IndexAny.calls a0 a1 i
  replace hi := Aside0.mk hi
  go_enter Tryd.func23, Tryd.ntmps23
  go_wp2_with (go_at_call 71; refine (c _ hi.out).mono ?_; rintro e w' ⟨rfl, hw⟩)
  go_ret
  exact ⟨rfl, hw⟩
end Go.Proofs.YtgpabkdmagifjaaDoor.X
