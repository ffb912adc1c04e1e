/- lex.quoted and lex.word as plain functions on lists of bytes, with contracts; condition: a text of fewer than 4294967281 bytes. -/
import Derived.Test.YtgpabkdmagifjaaDoorHBld
import Derived.Test.YtgpabkdmagifjaaDoorHStr
import Derived.WalkKit
import Derived.Lib.Hide
import Derived.Deep.LoopGhost
namespace Go.Proofs.YtgpabkdmagifjaaDoor.X
open Go.RowKit Go.Proofs.YtgpabkdmagifjaaDoorW.PrintWords Go.Proofs.YtgpabkdmagifjaaDoorW.PrintLast Go.Proofs.YtgpabkdmagifjaaDoorW.PrintMore

theorem beqN (b : UInt8) (n : Nat) (hn : n < 256) : (((b.toNat : Int)) == (n : Int)) = decide (b = UInt8.ofNat n) := by
  have e := u8_num b n hn
  rw [Bool.eq_iff_iff, beq_iff_eq, decide_eq_true_eq, e]
theorem beqNN (a b : UInt8) : (((a.toNat : Int)) == (b.toNat : Int)) = decide (a = b) := by
  rw [Bool.eq_iff_iff, beq_iff_eq, decide_eq_true_eq, u8_toNat_eq]
theorem getB' (l : List UInt8) (j : Nat) (_ : j < l.length) (h' : j < (B l).size) : (B l)[j]'h' = l[j] := by simp [B, ByteArray.getElem_eq_getElem_data]; try rfl

/-- What stands up to a quote's end, from the place i on, and where that is. -/
def qA (l : List UInt8) (e : UInt8) (i : Nat) (acc : List UInt8) : Option (List UInt8 × Nat) :=
  if h : i < l.length then
    (if l[i] = e then some (acc, i + 1)
     else if h2 : e = 34 ∧ l[i] = 92 ∧ i + 1 < l.length then (if l[i + 1]'h2.2.2 = 34 ∨ l[i + 1]'h2.2.2 = 92 then qA l e (i + 2) (acc ++ [l[i + 1]'h2.2.2]) else qA l e (i + 1) (acc ++ [l[i]]))
     else qA l e (i + 1) (acc ++ [l[i]]))
  else none
  termination_by l.length - i
theorem qA_end (l : List UInt8) (e : UInt8) (i : Nat) (acc : List UInt8) (h : l.length ≤ i) : qA l e i acc = none := by rw [qA, dif_neg (by omega)]
theorem qA_hit (l : List UInt8) (e : UInt8) (i : Nat) (acc : List UInt8) (h : i < l.length) (h1 : l[i] = e) : qA l e i acc = some (acc, i + 1) := by rw [qA, dif_pos h, if_pos h1]
theorem qA_esc (l : List UInt8) (e : UInt8) (i : Nat) (acc : List UInt8) (h : i < l.length) (h1 : ¬ l[i] = e) (h2 : e = 34) (h3 : l[i] = 92) (h4 : i + 1 < l.length) (h5 : l[i + 1] = 34 ∨ l[i + 1] = 92) :
    qA l e i acc = qA l e (i + 2) (acc ++ [l[i + 1]]) := by
  conv => lhs; rw [qA, dif_pos h, if_neg h1, dif_pos ⟨h2, h3, h4⟩, if_pos h5]
theorem qA_one (l : List UInt8) (e : UInt8) (i : Nat) (acc : List UInt8) (h : i < l.length) (h1 : ¬ l[i] = e) (h2 : ¬ (e = 34 ∧ l[i] = 92 ∧ ∃ h4 : i + 1 < l.length, (l[i + 1] = 34 ∨ l[i + 1] = 92))) :
    qA l e i acc = qA l e (i + 1) (acc ++ [l[i]]) := by
  conv => lhs; rw [qA, dif_pos h, if_neg h1]
  split
  · rename_i h3
    rw [if_neg (fun h5 => h2 ⟨h3.1, h3.2.1, h3.2.2, h5⟩)]
  · rfl
def resQ (o : Option (List UInt8 × Nat)) : ByteArray × Int := match o with | some (t, n) => (B t, (n : Int)) | none => (B [], -1)

set_option maxRecDepth 100000 in
set_option maxHeartbeats 4000000 in
theorem quoted_calls (l : List UInt8) (e : UInt8) (hl : l.length < 4294967281) (w : World) :
    Calls Tryd.prog 113 #[.string (B l), .int .u8 (e.toNat : Int)] w fun en w' => en = .returned (.tuple #[.string (resQ (qA l e 0 [])).1, .int .i64 (resQ (qA l e 0 [])).2]) ∧ Below w.heap.size w w' := by
  obtain ⟨R, hR⟩ : ∃ R, qA l e 0 [] = R := ⟨_, rfl⟩
  rw [hR]
  have HR0 := Aside0.mk hR
  clear hR
  go_enter Tryd.func113, Tryd.ntmps113
  go_wp2
  go_loopg [7] (l.length + 1) (fun g v wr => ∃ (i : Nat) (acc : List UInt8), v = .int .i64 (i : Int) ∧ i ≤ l.length ∧ l.length - i < g ∧ Aside0 (acc.length ≤ i) ∧ Aside0 (qA l e i acc = R) ∧ Aside0 (Bld w.heap.size acc wr) ∧ Aside0 (Below w.heap.size w wr))
  case atStart => exact ⟨0, [], rfl, by omega, by omega, ⟨by simp⟩, HR0, ⟨Bld.fresh w⟩, ⟨(Below.refl _ w).alloc (Nat.le_refl _) _⟩⟩
  case round =>
    obtain ⟨i, acc, rfl, hi, hg, HL, HR, HB, HW⟩ := hrel
    have hsz : (B l).size = l.length := B_size l
    by_cases hlt : i < l.length
    · have hiB : i < (B l).size := by rw [hsz]; exact hlt
      obtain ⟨x, hx⟩ : ∃ x, (B l)[i]'hiB = x := ⟨_, rfl⟩
      have Hx := Aside0.mk ((getB' l i hlt hiB).symm.trans hx)
      by_cases he : x = e
      · have q1 : (((x.toNat : Int)) == (e.toNat : Int)) = true := by rw [beqNN, decide_eq_true he]
        have He := Aside0.mk he
        clear he
        go_wp2_with (go_at_call 116; refine (bldString _ _ _ HB.out).mono ?_; rintro e1 w1 ⟨rfl, hb1, hbl1, _⟩)
        go_ret2
        have hR : R = some (acc, i + 1) := by rw [← HR.out, qA_hit l e i acc hlt (Hx.out.trans He.out)]
        subst hR
        exact ⟨by simp [resQ], HW.out.trans hbl1⟩
      · have q1 : (((x.toNat : Int)) == (e.toNat : Int)) = false := by rw [beqNN, decide_eq_false he]
        have He := Aside0.mk he
        clear he
        by_cases e34 : e = 34
        · have q2 : (((e.toNat : Int)) == 34) = true := by rw [show (34 : Int) = ((34 : Nat) : Int) from rfl, beqN e 34 (by decide)]; exact decide_eq_true e34
          have E34 := Aside0.mk e34
          clear e34
          by_cases x92 : x = 92
          · have q3 : (((x.toNat : Int)) == 92) = true := by rw [show (92 : Int) = ((92 : Nat) : Int) from rfl, beqN x 92 (by decide)]; exact decide_eq_true x92
            have X92 := Aside0.mk x92
            clear x92
            by_cases h3 : i + 1 < l.length
            · have H3 := Aside0.mk h3
              have h3B : i + 1 < (B l).size := by rw [hsz]; exact h3
              obtain ⟨y, hy⟩ : ∃ y, (B l)[i + 1]'h3B = y := ⟨_, rfl⟩
              have Hy := Aside0.mk ((getB' l (i + 1) h3 h3B).symm.trans hy)
              have h3i : (i : Int) + 1 < (l.length : Int) := by omega
              by_cases y34 : y = 34
              · have q4 : (((y.toNat : Int)) == 34) = true := by rw [show (34 : Int) = ((34 : Nat) : Int) from rfl, beqN y 34 (by decide)]; exact decide_eq_true y34
                have Y34 := Aside0.mk y34
                clear y34
                go_wp2_with (go_at_call 115; refine (writeByte _ _ _ _ HB.out (by have := HL.out; omega)).mono ?_; rintro e1 w1 ⟨rfl, hb1, hbl1, _⟩)
                go_roundg (gk - 1)
                case measure => omega
                case rel => exact ⟨i + 2, acc ++ [y], by go_num, by omega, by omega, ⟨by have := HL.out; simp; omega⟩, ⟨by rw [← Hy.out]; exact (qA_esc l e i acc hlt (fun h => He.out (Hx.out.symm.trans h)) E34.out (Hx.out.trans X92.out) H3.out (.inl (Hy.out.trans Y34.out))).symm.trans HR.out⟩, ⟨hb1⟩, ⟨HW.out.trans hbl1⟩⟩
              · have q4 : (((y.toNat : Int)) == 34) = false := by rw [show (34 : Int) = ((34 : Nat) : Int) from rfl, beqN y 34 (by decide)]; exact decide_eq_false y34
                have Y34 := Aside0.mk y34
                clear y34
                by_cases y92 : y = 92
                · have q5 : (((y.toNat : Int)) == 92) = true := by rw [show (92 : Int) = ((92 : Nat) : Int) from rfl, beqN y 92 (by decide)]; exact decide_eq_true y92
                  have Y92 := Aside0.mk y92
                  clear y92
                  go_wp2_with (go_at_call 115; refine (writeByte _ _ _ _ HB.out (by have := HL.out; omega)).mono ?_; rintro e1 w1 ⟨rfl, hb1, hbl1, _⟩)
                  go_roundg (gk - 1)
                  case measure => omega
                  case rel => exact ⟨i + 2, acc ++ [y], by go_num, by omega, by omega, ⟨by have := HL.out; simp; omega⟩, ⟨by rw [← Hy.out]; exact (qA_esc l e i acc hlt (fun h => He.out (Hx.out.symm.trans h)) E34.out (Hx.out.trans X92.out) H3.out (.inr (Hy.out.trans Y92.out))).symm.trans HR.out⟩, ⟨hb1⟩, ⟨HW.out.trans hbl1⟩⟩
                · have q5 : (((y.toNat : Int)) == 92) = false := by rw [show (92 : Int) = ((92 : Nat) : Int) from rfl, beqN y 92 (by decide)]; exact decide_eq_false y92
                  have Y92 := Aside0.mk y92
                  clear y92
                  go_wp2_with (go_at_call 115; refine (writeByte _ _ _ _ HB.out (by have := HL.out; omega)).mono ?_; rintro e1 w1 ⟨rfl, hb1, hbl1, _⟩)
                  go_roundg (gk - 1)
                  case measure => omega
                  case rel => exact ⟨i + 1, acc ++ [x], by go_num, by omega, by omega, ⟨by have := HL.out; simp; omega⟩, ⟨by rw [← Hx.out]; exact (qA_one l e i acc hlt (fun h => He.out (Hx.out.symm.trans h)) (by rintro ⟨_, _, h4, h5⟩; exact h5.elim (fun h => Y34.out (Hy.out.symm.trans h)) (fun h => Y92.out (Hy.out.symm.trans h)))).symm.trans HR.out⟩, ⟨hb1⟩, ⟨HW.out.trans hbl1⟩⟩
            · have H3 := Aside0.mk h3
              have h3i : ¬ (i : Int) + 1 < (l.length : Int) := by omega
              clear h3
              go_wp2_with (go_at_call 115; refine (writeByte _ _ _ _ HB.out (by have := HL.out; omega)).mono ?_; rintro e1 w1 ⟨rfl, hb1, hbl1, _⟩)
              go_roundg (gk - 1)
              case measure => omega
              case rel => exact ⟨i + 1, acc ++ [x], by go_num, by omega, by omega, ⟨by have := HL.out; simp; omega⟩, ⟨by rw [← Hx.out]; exact (qA_one l e i acc hlt (fun h => He.out (Hx.out.symm.trans h)) (by rintro ⟨_, _, h4, _⟩; exact H3.out h4)).symm.trans HR.out⟩, ⟨hb1⟩, ⟨HW.out.trans hbl1⟩⟩
          · have q3 : (((x.toNat : Int)) == 92) = false := by rw [show (92 : Int) = ((92 : Nat) : Int) from rfl, beqN x 92 (by decide)]; exact decide_eq_false x92
            have X92 := Aside0.mk x92
            clear x92
            go_wp2_with (go_at_call 115; refine (writeByte _ _ _ _ HB.out (by have := HL.out; omega)).mono ?_; rintro e1 w1 ⟨rfl, hb1, hbl1, _⟩)
            go_roundg (gk - 1)
            case measure => omega
            case rel => exact ⟨i + 1, acc ++ [x], by go_num, by omega, by omega, ⟨by have := HL.out; simp; omega⟩, ⟨by rw [← Hx.out]; exact (qA_one l e i acc hlt (fun h => He.out (Hx.out.symm.trans h)) (by rintro ⟨_, h4, _⟩; exact X92.out (Hx.out.symm.trans h4))).symm.trans HR.out⟩, ⟨hb1⟩, ⟨HW.out.trans hbl1⟩⟩
        · have q2 : (((e.toNat : Int)) == 34) = false := by rw [show (34 : Int) = ((34 : Nat) : Int) from rfl, beqN e 34 (by decide)]; exact decide_eq_false e34
          have E34 := Aside0.mk e34
          clear e34
          go_wp2_with (go_at_call 115; refine (writeByte _ _ _ _ HB.out (by have := HL.out; omega)).mono ?_; rintro e1 w1 ⟨rfl, hb1, hbl1, _⟩)
          go_roundg (gk - 1)
          case measure => omega
          case rel => exact ⟨i + 1, acc ++ [x], by go_num, by omega, by omega, ⟨by have := HL.out; simp; omega⟩, ⟨by rw [← Hx.out]; exact (qA_one l e i acc hlt (fun h => He.out (Hx.out.symm.trans h)) (by rintro ⟨h4, _⟩; exact E34.out h4)).symm.trans HR.out⟩, ⟨hb1⟩, ⟨HW.out.trans hbl1⟩⟩
    · go_wp2
      go_ret2
      have hR : R = none := by rw [← HR.out, qA_end l e i acc (by omega)]
      subst hR
      exact ⟨rfl, HW.out⟩

def lex_quoted.f (a0 : ByteArray) (a1 : Int) : Option (ByteArray × Int) := if a0.size < 4294967281 ∧ 0 ≤ a1 ∧ a1 < 256 then some (resQ (qA a0.data.toList a1.toNat.toUInt8 0 [])) else none
theorem lex_quoted.calls (a0 : ByteArray) (a1 : Int) (r1 : ByteArray) (r2 : Int) (w : World) (h : lex_quoted.f a0 a1 = some (r1, r2)) :
    Calls Tryd.prog 113 #[.string a0, .int .u8 a1] w fun e w' => e = .returned (.tuple #[.string r1, .int .i64 r2]) ∧ Below w.heap.size w w' := by
  unfold lex_quoted.f at h
  split at h
  · rename_i hb
    obtain ⟨l, rfl, hl⟩ := ex_B a0
    obtain ⟨c, hc⟩ : ∃ c : UInt8, a1 = (c.toNat : Int) := ⟨a1.toNat.toUInt8, by rw [show (a1.toNat.toUInt8).toNat = a1.toNat % 256 from rfl]; omega⟩
    subst hc
    have h2 := Option.some.inj h
    rw [B_data, u8_back] at h2
    have := quoted_calls l c (by have := hb.1; rw [B_size] at this; exact this) w
    rw [h2] at this
    exact this
  · exact absurd h (by simp)
end Go.Proofs.YtgpabkdmagifjaaDoor.X
