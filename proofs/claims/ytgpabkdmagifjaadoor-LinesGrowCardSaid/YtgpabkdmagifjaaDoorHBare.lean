/- lines.bare as a plain function on lists of bytes, with its contract; condition: a text of fewer than 4294967281 bytes. -/
import Derived.Test.YtgpabkdmagifjaaDoorHBld
import Derived.Test.YtgpabkdmagifjaaDoorHStr
import Derived.Test.YtgpabkdmagifjaaDoorHBase
import Derived.WalkKit
import Derived.Lib.Hide
import Derived.Deep.LoopGhost
namespace Go.Proofs.YtgpabkdmagifjaaDoor.X
open Go.RowKit Go.Proofs.YtgpabkdmagifjaaDoorW.PrintWords Go.Proofs.YtgpabkdmagifjaaDoorW.PrintLast Go.Proofs.YtgpabkdmagifjaaDoorW.PrintMore

theorem beqK (b : UInt8) (n : Nat) (hn : n < 256) : (((b.toNat : Int)) == (n : Int)) = decide (b = UInt8.ofNat n) := by
  have e := u8_num b n hn
  rw [Bool.eq_iff_iff, beq_iff_eq, decide_eq_true_eq, e]
theorem getK (l : List UInt8) (j : Nat) (_ : j < l.length) (h' : j < (B l).size) : (B l)[j]'h' = l[j] := by simp [B, ByteArray.getElem_eq_getElem_data]; try rfl

/-- What is ahead of the first # that has no backslash ahead. -/
def bareA (l : List UInt8) (i : Nat) (acc : List UInt8) : List UInt8 :=
  if h : i < l.length then
    (if h2 : l[i] = 92 ∧ i + 1 < l.length then (if l[i + 1]'h2.2 = 35 then bareA l (i + 2) (acc ++ [35]) else bareA l (i + 1) (acc ++ [l[i]]))
     else if l[i] = 35 then acc else bareA l (i + 1) (acc ++ [l[i]]))
  else acc
  termination_by l.length - i
theorem bareA_end (l : List UInt8) (i : Nat) (acc : List UInt8) (h : l.length ≤ i) : bareA l i acc = acc := by rw [bareA, dif_neg (by omega)]
theorem bareA_esc (l : List UInt8) (i : Nat) (acc : List UInt8) (h : i < l.length) (h1 : l[i] = 92) (h2 : i + 1 < l.length) (h3 : l[i + 1] = 35) : bareA l i acc = bareA l (i + 2) (acc ++ [35]) := by
  conv => lhs; rw [bareA, dif_pos h, dif_pos ⟨h1, h2⟩, if_pos h3]
theorem bareA_hit (l : List UInt8) (i : Nat) (acc : List UInt8) (h : i < l.length) (h1 : l[i] = 35) : bareA l i acc = acc := by
  rw [bareA, dif_pos h, dif_neg (fun h2 => by rw [h1] at h2; exact absurd h2.1 (by decide)), if_pos h1]
theorem bareA_one (l : List UInt8) (i : Nat) (acc : List UInt8) (h : i < l.length) (h1 : ¬ l[i] = 35) (h2 : ¬ (l[i] = 92 ∧ ∃ h4 : i + 1 < l.length, l[i + 1] = 35)) : bareA l i acc = bareA l (i + 1) (acc ++ [l[i]]) := by
  conv => lhs; rw [bareA, dif_pos h]
  split
  · rename_i h3
    rw [if_neg (fun h5 => h2 ⟨h3.1, h3.2, h5⟩)]
  · first | rfl | rw [if_neg h1]

set_option maxRecDepth 100000 in
set_option maxHeartbeats 4000000 in
theorem bare_calls (l : List UInt8) (hl : l.length < 4294967281) (w : World) :
    Calls Tryd.prog 63 #[.string (B l)] w fun en w' => en = .returned (.string (B (bareA l 0 []))) ∧ Below w.heap.size w w' := by
  obtain ⟨R, hR⟩ : ∃ R, bareA l 0 [] = R := ⟨_, rfl⟩
  rw [hR]
  have HR0 := Aside0.mk hR
  clear hR
  go_enter Tryd.func63, Tryd.ntmps63
  go_wp2
  go_loopg [4] (l.length + 1) (fun g v wr => ∃ (i : Nat) (acc : List UInt8), v = .int .i64 (i : Int) ∧ i ≤ l.length ∧ l.length - i < g ∧ Aside0 (acc.length ≤ i) ∧ Aside0 (bareA l i acc = R) ∧ Aside0 (Bld w.heap.size acc wr) ∧ Aside0 (Below w.heap.size w wr))
  case atStart => exact ⟨0, [], rfl, by omega, by omega, ⟨by simp⟩, HR0, ⟨Bld.fresh w⟩, ⟨(Below.refl _ w).alloc (Nat.le_refl _) _⟩⟩
  case round =>
    obtain ⟨i, acc, rfl, hi, hg, HL, HR, HB, HW⟩ := hrel
    have hsz : (B l).size = l.length := B_size l
    by_cases hlt : i < l.length
    · have hiB : i < (B l).size := by rw [hsz]; exact hlt
      obtain ⟨x, hx⟩ : ∃ x, (B l)[i]'hiB = x := ⟨_, rfl⟩
      have Hx := Aside0.mk ((getK l i hlt hiB).symm.trans hx)
      by_cases x92 : x = 92
      · have q3 : (((x.toNat : Int)) == 92) = true := by rw [show (92 : Int) = ((92 : Nat) : Int) from rfl, beqK x 92 (by decide)]; exact decide_eq_true x92
        have q35 : (((x.toNat : Int)) == 35) = false := by rw [show (35 : Int) = ((35 : Nat) : Int) from rfl, beqK x 35 (by decide), x92]; rfl
        have X92 := Aside0.mk x92
        clear x92
        by_cases h3 : i + 1 < l.length
        · have H3 := Aside0.mk h3
          have h3B : i + 1 < (B l).size := by rw [hsz]; exact h3
          obtain ⟨y, hy⟩ : ∃ y, (B l)[i + 1]'h3B = y := ⟨_, rfl⟩
          have Hy := Aside0.mk ((getK l (i + 1) h3 h3B).symm.trans hy)
          have h3i : (i : Int) + 1 < (l.length : Int) := by omega
          by_cases y35 : y = 35
          · have q4 : (((y.toNat : Int)) == 35) = true := by rw [show (35 : Int) = ((35 : Nat) : Int) from rfl, beqK y 35 (by decide)]; exact decide_eq_true y35
            have Y35 := Aside0.mk y35
            clear y35
            go_wp2_with (go_at_call 115; refine (writeByte _ _ 35 _ HB.out (by have := HL.out; omega)).mono ?_; rintro e1 w1 ⟨rfl, hb1, hbl1, _⟩)
            go_roundg (gk - 1)
            case measure => omega
            case rel => exact ⟨i + 2, acc ++ [35], by go_num, by omega, by omega, ⟨by have := HL.out; simp; omega⟩, ⟨(bareA_esc l i acc hlt (Hx.out.trans X92.out) H3.out (Hy.out.trans Y35.out)).symm.trans HR.out⟩, ⟨hb1⟩, ⟨HW.out.trans hbl1⟩⟩
          · have q4 : (((y.toNat : Int)) == 35) = false := by rw [show (35 : Int) = ((35 : Nat) : Int) from rfl, beqK y 35 (by decide)]; exact decide_eq_false y35
            have Y35 := Aside0.mk y35
            clear y35
            go_wp2_with (go_at_call 115; refine (writeByte _ _ _ _ HB.out (by have := HL.out; omega)).mono ?_; rintro e1 w1 ⟨rfl, hb1, hbl1, _⟩)
            go_roundg (gk - 1)
            case measure => omega
            case rel => exact ⟨i + 1, acc ++ [x], by go_num, by omega, by omega, ⟨by have := HL.out; simp; omega⟩, ⟨by rw [← Hx.out]; exact (bareA_one l i acc hlt (fun h => absurd (X92.out.symm.trans (Hx.out.symm.trans h)) (by decide)) (by rintro ⟨_, _, h5⟩; exact Y35.out (Hy.out.symm.trans h5))).symm.trans HR.out⟩, ⟨hb1⟩, ⟨HW.out.trans hbl1⟩⟩
        · have H3 := Aside0.mk h3
          have h3i : ¬ (i : Int) + 1 < (l.length : Int) := by omega
          clear h3
          go_wp2_with (go_at_call 115; refine (writeByte _ _ _ _ HB.out (by have := HL.out; omega)).mono ?_; rintro e1 w1 ⟨rfl, hb1, hbl1, _⟩)
          go_roundg (gk - 1)
          case measure => omega
          case rel => exact ⟨i + 1, acc ++ [x], by go_num, by omega, by omega, ⟨by have := HL.out; simp; omega⟩, ⟨by rw [← Hx.out]; exact (bareA_one l i acc hlt (fun h => absurd (X92.out.symm.trans (Hx.out.symm.trans h)) (by decide)) (by rintro ⟨_, h4, _⟩; exact H3.out h4)).symm.trans HR.out⟩, ⟨hb1⟩, ⟨HW.out.trans hbl1⟩⟩
      · have q3 : (((x.toNat : Int)) == 92) = false := by rw [show (92 : Int) = ((92 : Nat) : Int) from rfl, beqK x 92 (by decide)]; exact decide_eq_false x92
        have X92 := Aside0.mk x92
        clear x92
        by_cases x35 : x = 35
        · have q35 : (((x.toNat : Int)) == 35) = true := by rw [show (35 : Int) = ((35 : Nat) : Int) from rfl, beqK x 35 (by decide)]; exact decide_eq_true x35
          have X35 := Aside0.mk x35
          clear x35
          go_wp2_with (go_at_call 116; refine (bldString _ _ _ HB.out).mono ?_; rintro e1 w1 ⟨rfl, hb1, hbl1, _⟩)
          go_ret
          have hR : R = acc := by rw [← HR.out, bareA_hit l i acc hlt (Hx.out.trans X35.out)]
          subst hR
          exact ⟨rfl, HW.out.trans hbl1⟩
        · have q35 : (((x.toNat : Int)) == 35) = false := by rw [show (35 : Int) = ((35 : Nat) : Int) from rfl, beqK x 35 (by decide)]; exact decide_eq_false x35
          have X35 := Aside0.mk x35
          clear x35
          go_wp2_with (go_at_call 115; refine (writeByte _ _ _ _ HB.out (by have := HL.out; omega)).mono ?_; rintro e1 w1 ⟨rfl, hb1, hbl1, _⟩)
          go_roundg (gk - 1)
          case measure => omega
          case rel => exact ⟨i + 1, acc ++ [x], by go_num, by omega, by omega, ⟨by have := HL.out; simp; omega⟩, ⟨by rw [← Hx.out]; exact (bareA_one l i acc hlt (fun h => X35.out (Hx.out.symm.trans h)) (fun h => X92.out (Hx.out.symm.trans h.1))).symm.trans HR.out⟩, ⟨hb1⟩, ⟨HW.out.trans hbl1⟩⟩
    · go_wp2_with (go_at_call 116; refine (bldString _ _ _ HB.out).mono ?_; rintro e1 w1 ⟨rfl, hb1, hbl1, _⟩)
      go_ret
      have hR : R = acc := by rw [← HR.out, bareA_end l i acc (by omega)]
      subst hR
      exact ⟨rfl, HW.out.trans hbl1⟩
end Go.Proofs.YtgpabkdmagifjaaDoor.X
