/- slices.Repeat at []string, of one string, at most 2^43 times: as a plain function, with its contract. -/
import Derived.Test.YtcadgnaejjgdnaaDoorHStr
import Derived.Test.YtcadgnaejjgdnaaDoorHBase
import Derived.Laws.CopyOwn
import Derived.Lib.Hide
import Derived.Deep.RegionLaw
import Derived.Deep.LoopGhost
namespace Go.Proofs.YtcadgnaejjgdnaaDoor.X
open Go.RowKit Go.Proofs.YtcadgnaejjgdnaaDoorW.PrintWords Go.Proofs.YtcadgnaejjgdnaaDoorW.PrintLast Go.Proofs.YtcadgnaejjgdnaaDoorW.PrintMore

def slices_Repeat_string.f (l0 : List ByteArray) (a1 : Int) : Option (List ByteArray) :=
  if l0.length = 1 ∧ 0 ≤ a1 ∧ a1 ≤ 8796093022208 then some (List.replicate a1.toNat (l0.getD 0 ByteArray.empty)) else none

theorem info_string : (Tryd.prog.info? 9).map (fun i => (i.zero, i.size, i.bytes)) = some (some (.string ⟨#[]⟩), 1, 16) := by kernel_rfl

theorem splice_rep (x z : Value) (k n m : Nat) (hm : m = Nat.min k (n - k)) : splice (List.replicate k x ++ List.replicate (n - k) z) k (List.replicate m x) = List.replicate (k + m) x ++ List.replicate (n - (k + m)) z := by
  unfold splice
  have hm' : m ≤ n - k := by rw [hm]; exact Nat.min_le_right _ _
  rw [List.take_left' (by simp), List.length_replicate, List.drop_append]
  simp only [List.length_replicate, List.drop_replicate]
  rw [show k - (k + m) = 0 by omega, List.replicate_zero, List.nil_append, ← List.append_assoc, List.replicate_append_replicate]
  congr 2; omega

theorem splice_rep0 (x z : Value) (n m : Nat) (_ : m ≤ n) : splice (List.replicate n z) 0 (List.replicate m x) = List.replicate m x ++ List.replicate (n - m) z := by
  unfold splice
  simp [List.drop_replicate]

theorem rep_wrap (k m : Nat) (h : k + m ≤ 8796093022208) : Value.int .i64 (IntKind.i64.wrap ((k : Int) + (m : Int))) = .int .i64 ((k + m : Nat) : Int) := by
  have : IntKind.i64.wrap ((k : Int) + (m : Int)) = ((k + m : Nat) : Int) := by rw [IntKind.wrap_i64]; omega
  rw [this]

theorem rep_cells {w : World} {g : Nat} {t : TypeId} {x z : Value} {k m j : Nat} (hg : w.heap[g]? = some (.cells (List.replicate k x ++ List.replicate j z).toArray t (0, 0))) (hm : m ≤ k) :
    ∀ i v, (List.replicate m x)[i]? = some v → w.cell? ((⟨g, 0, none⟩ : Addr).add i) = some v := by
  intro i v hv
  have hi : i < m := by simpa using (List.getElem?_eq_some_iff.1 hv).1
  obtain rfl : v = x := List.eq_of_mem_replicate (List.mem_of_getElem? hv)
  have : (⟨g, 0, none⟩ : Addr).add i = ⟨g, i, none⟩ := by simp [Addr.add]; intro h; exact h.symm
  rw [this]
  simp [World.cell?, hg, List.getElem?_append, Nat.lt_of_lt_of_le hi hm]


set_option maxHeartbeats 2000000 in
set_option maxRecDepth 100000 in
theorem slices_Repeat_string.calls (A0 : Option Addr) (c0 : Nat) (l0 : List ByteArray) (a1 : Int) (r : List ByteArray) (w : World) (hr0 : Kd.C Kd.string w A0 l0.length l0) (hc0 : l0.length ≤ c0) (h : slices_Repeat_string.f l0 a1 = some r) :
    Calls Tryd.prog 52 #[.slice A0 l0.length c0, .int .i64 a1] w fun e w' => ∃ v0_ : Value, e = .returned (v0_) ∧ Kd.R Kd.string 9 w' w.heap.size (fun _ => True) v0_ r ∧ Below w.heap.size w w' := by
  unfold slices_Repeat_string.f at h
  by_cases hb : l0.length = 1 ∧ 0 ≤ a1 ∧ a1 ≤ 8796093022208
  case neg => rw [if_neg hb] at h; exact absurd h (by simp)
  rw [if_pos hb] at h
  obtain ⟨hl, h0, hmax⟩ := hb
  obtain rfl := Option.some.inj h
  obtain ⟨x, rfl⟩ : ∃ x, l0 = [x] := List.length_eq_one_iff.1 hl
  obtain ⟨b, o, rfl, hlt, hc⟩ := reads_cells hr0 (by simp)
  have hx := hc 0 x rfl
  obtain ⟨n, rfl⟩ := Int.eq_ofNat_of_zero_le h0
  have hM := Tryd.bits_Mul 1 n (by omega) (by omega)
  have e1 : ((1 * n / 18446744073709551616 : Nat) : Int) = 0 := by omega
  have e2 : ((1 * n % 18446744073709551616 : Nat) : Int) = (n : Int) := by omega
  rw [e1, e2] at hM
  have hmk := print_make_int (P := Tryd.prog) 29 9 (.string ⟨#[]⟩) 16 Tryd.underlying29 info_string rfl (by omega) (n : Int) (by omega) (by omega)
  have HM := Lib.hid hM
  have HX := Lib.hid hx
  clear hM e1 e2 hr0 hc hc0 hl h hx
  have hn1 : decide ((n : Int) < 0) = false := decide_eq_false (by omega)
  have hn2 : decide ((9223372036854775807 : Int) < (n : Int)) = false := decide_eq_false (by omega)
  obtain ⟨m1, hm1⟩ : ∃ m1, m1 = Nat.min 1 n := ⟨_, rfl⟩
  have HM1 := Lib.hid hm1
  have hmle : m1 ≤ n := by rw [hm1]; exact Nat.min_le_right _ _
  clear hm1
  go_enter Tryd.func52, Tryd.ntmps52
  go_wp2_with (first | (go_at_call 74; refine (HM.out _).mono ?_; rintro e w' ⟨rfl, hw⟩; obtain rfl := hw.symm) | (with_reducible refine wpList_copy_splice rfl (.tmp 31) (.tmp 32) 29 29 rfl 9 Tryd.underlying29 (by kernel_rfl) (some ⟨w.heap.size, 0, none⟩) (some ⟨b, o, none⟩) n n 1 c0 rfl rfl w.heap.size 0 (List.replicate n (.string ⟨#[]⟩)) 9 ?hg (List.replicate m1 (.string x)) ?hn ?hpos ?hfit ?h1 w.heap.size w ?hb (Nat.le_refl _) ?_))
  case hg =>
    have e : madeCells #[Value.string ⟨#[]⟩] n = (List.replicate n (Value.string ⟨#[]⟩)).toArray := by
      apply Array.ext'
      simp only [madeCells, Array.toList_map, Array.toList_range]
      apply List.ext_getElem?
      intro i
      by_cases hi : i < n <;> simp [hi, Nat.mod_one]
    rw [heap_alloc_new, e]
  case hn => rw [List.length_replicate]; exact HM1.out
  case hpos =>
    intro hp j v hj
    have hm := HM1.out
    have hj' : j < m1 := by simpa using (List.getElem?_eq_some_iff.1 hj).1
    have h1 : Nat.min 1 n ≤ 1 := Nat.min_le_left _ _
    obtain rfl : j = 0 := by omega
    have hv : v = .string x := by
      have := List.mem_of_getElem? hj
      exact List.eq_of_mem_replicate this
    rw [hv]
    exact HX.out
  case hfit => simp; exact hmle
  case h1 => intro v hv; rw [List.eq_of_mem_replicate hv]; rfl
  case hb => exact (Below.refl _ w).alloc (Nat.le_refl _) _
  intro w1 hg1 hb1
  rw [splice_rep0 _ _ n m1 hmle] at hg1
  have HG1 := hg1
  have HB1 := Lib.hid hb1
  clear hg1 hb1
  go_wp2
  go_loopg [8] n (fun gg s8 wr => ∃ k : Nat, s8 = .int .i64 k ∧ k ≤ n ∧ n - k ≤ gg ∧ (k = 0 → n = 0) ∧ Hid (wr.heap[w.heap.size]? = some (.cells (List.replicate k (Value.string x) ++ List.replicate (n - k) (Value.string ⟨#[]⟩)).toArray 9 (0, 0))) ∧ Hid (Below w.heap.size w wr))
  case atStart => exact ⟨m1, rfl, hmle, by omega, by intro h; have h2 : m1 = min 1 n := HM1.out; omega, HG1, HB1⟩
  case round =>
    obtain ⟨k, rfl, hk, hmeas, hk0, hg, hb⟩ := hrel
    have e0 : decide ((k : Int) < (n : Int)) = decide (k < n) := by simp
    by_cases hkn : k < n
    · have HK := Lib.hid (And.intro hk (And.intro hmeas hk0))
      clear hk hmeas hk0
      go_wp2
      obtain ⟨m2, hm2⟩ : ∃ m2, m2 = Nat.min k (n - k) := ⟨_, rfl⟩
      have HM2 := Lib.hid hm2
      have hk2 : m2 ≤ n - k := by rw [hm2]; exact Nat.min_le_right _ _
      have hHK := HK.out
      have hp2 : 0 < m2 := by rw [hm2]; have : min k (n - k) = Nat.min k (n - k) := rfl; omega
      have em2 : (k : Int) + (m2 : Int) ≤ 8796093022208 := by omega
      have hkle : k ≤ n := Nat.le_of_lt hkn
      have hnk : ¬ n = k := by omega
      have hn0 : ¬ n = 0 := by omega
      have hgd : Hid (wr.drew.heap[w.heap.size]? = some (.cells (List.replicate k (Value.string x) ++ List.replicate (n - k) (Value.string ⟨#[]⟩)).toArray 9 (0, 0))) := hg.out
      have hbd : Hid (Below w.heap.size w wr.drew) := hb.out.drew
      clear hm2 hHK hg hb
      go_region_law (refine step_copy_splice rfl (.tmp 41) (.tmp 44) 29 29 rfl 9 Tryd.underlying29 (by kernel_rfl) (some ⟨w.heap.size, k, none⟩) (some ⟨w.heap.size, 0, none⟩) (n - k) (n - k) k n (by simp [Act.eval, Act.put]) (by simp [Act.eval, Act.put]) w.heap.size k (List.replicate k (.string x) ++ List.replicate (n - k) (.string ⟨#[]⟩)) 9 hgd.out (List.replicate m2 (.string x)) (by rw [List.length_replicate]; exact HM2.out) (fun _ => ⟨rfl, _, rfl, rep_cells hgd.out (by rw [HM2.out]; exact Nat.min_le_left _ _)⟩) (by simp; omega) (by intro v hv; rw [List.eq_of_mem_replicate hv]; rfl) w.heap.size w hbd.out (Nat.le_refl _) ?_; intro w4 hg4 hb4; rw [List.length_replicate])
      rw [splice_rep _ _ k n m2 HM2.out] at hg4
      go_wp2
      go_roundg (n - (k + m2))
      case measure => obtain ⟨h1, h2, h3⟩ := HK.out; omega
      case rel =>
        obtain ⟨h1, h2, h3⟩ := HK.out
        exact ⟨k + m2, rep_wrap k m2 (by omega), by omega, Nat.le_refl _, by omega, hg4, hb4⟩
    · have e1 : decide (k < n) = false := decide_eq_false hkn
      obtain rfl : k = n := by omega
      go_wp2
      go_ret
      refine ⟨.slice (some ⟨w.heap.size, 0, none⟩) k k, by first | rfl | simp, ?_, hb.out⟩
      have hrep : List.replicate (k : Int).toNat ([x].getD 0 ByteArray.empty) = List.replicate k x := rfl
      rw [hrep]
      refine ownsRow_R ?_
      rw [List.length_replicate]
      exact ⟨by simp, Or.inr ⟨w.heap.size, k, _, rfl, Nat.le_refl _, hg.out, Nat.le_refl _, by unfold maxLen; omega, by simp, by simp⟩⟩
end Go.Proofs.YtcadgnaejjgdnaaDoor.X
