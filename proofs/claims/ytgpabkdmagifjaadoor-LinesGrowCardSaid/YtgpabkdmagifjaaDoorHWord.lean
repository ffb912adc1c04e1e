/- lex.word as a plain function on lists of bytes, with a contract. -/
import Derived.Test.YtgpabkdmagifjaaDoorHLex
import Derived.Test.YtgpabkdmagifjaaDoorXE05x
namespace Go.Proofs.YtgpabkdmagifjaaDoor.X
open Go.RowKit Go.Proofs.YtgpabkdmagifjaaDoorW.PrintWords Go.Proofs.YtgpabkdmagifjaaDoorW.PrintLast Go.Proofs.YtgpabkdmagifjaaDoorW.PrintMore

theorem idx_mem (l : List UInt8) (c : UInt8) : decide (Lib.indexByte l c ≥ 0) = l.contains c := by
  rw [Bool.eq_iff_iff, decide_eq_true_eq, List.contains_iff_mem]
  constructor
  · intro h
    obtain ⟨o, ho⟩ : ∃ o : Nat, Lib.indexByte l c = o := ⟨(Lib.indexByte l c).toNat, by omega⟩
    exact List.mem_of_getElem? (Lib.indexByte_some ho).1
  · intro h
    have hg := Lib.indexByte_ge l c
    rcases Int.lt_or_le (Lib.indexByte l c) 0 with h0 | h0
    · exfalso
      have e : Lib.indexByte l c = -1 := by omega
      obtain ⟨k, hk, hk2⟩ := List.getElem_of_mem h
      exact Lib.indexByte_none e k (by rw [List.getElem?_eq_getElem hk, hk2])
    · exact h0
def stopB (x : UInt8) : Bool := ([32, 9, 10, 59, 38, 124, 60, 62] : List UInt8).contains x
theorem stops_eq (x : UInt8) : XE05.lex_stops.f (x.toNat : Int) = some (stopB x) := by
  unfold XE05.lex_stops.f strings_IndexByte.f
  rw [Option.bind_some, idx_mem, u8_back]
  rfl
/-- What stands up to a word's end, from the place i on, and where that is. -/
def wA (l : List UInt8) (i : Nat) (acc : List UInt8) : Option (List UInt8 × Nat) :=
  if h : i < l.length then
    (if stopB l[i] = true then some (acc, i)
     else if l[i] = 39 ∨ l[i] = 34 then (match qA (l.drop (i + 1)) l[i] 0 [] with
       | none => none
       | some (t, n) => wA l (i + 1 + n) (acc ++ t))
     else if l[i] = 92 then (if h2 : i + 1 < l.length then wA l (i + 2) (acc ++ [l[i + 1]]) else none)
     else wA l (i + 1) (acc ++ [l[i]]))
  else some (acc, i)
  termination_by l.length - i
theorem wA_end (l : List UInt8) (i : Nat) (acc : List UInt8) (h : l.length ≤ i) : wA l i acc = some (acc, i) := by rw [wA, dif_neg (by omega)]
theorem wA_stop (l : List UInt8) (i : Nat) (acc : List UInt8) (h : i < l.length) (h1 : stopB l[i] = true) : wA l i acc = some (acc, i) := by rw [wA, dif_pos h, if_pos h1]
theorem wA_q (l : List UInt8) (i : Nat) (acc : List UInt8) (h : i < l.length) (h1 : ¬ stopB l[i] = true) (h2 : l[i] = 39 ∨ l[i] = 34) (t : List UInt8) (n : Nat) (h3 : qA (l.drop (i + 1)) l[i] 0 [] = some (t, n)) :
    wA l i acc = wA l (i + 1 + n) (acc ++ t) := by
  conv => lhs; rw [wA, dif_pos h, if_neg h1, if_pos h2]
  rw [h3]
theorem wA_q0 (l : List UInt8) (i : Nat) (acc : List UInt8) (h : i < l.length) (h1 : ¬ stopB l[i] = true) (h2 : l[i] = 39 ∨ l[i] = 34) (h3 : qA (l.drop (i + 1)) l[i] 0 [] = none) :
    wA l i acc = none := by
  conv => lhs; rw [wA, dif_pos h, if_neg h1, if_pos h2]
  rw [h3]
theorem wA_b (l : List UInt8) (i : Nat) (acc : List UInt8) (h : i < l.length) (h1 : ¬ stopB l[i] = true) (h2 : l[i] = 92) (h3 : i + 1 < l.length) :
    wA l i acc = wA l (i + 2) (acc ++ [l[i + 1]]) := by
  conv => lhs; rw [wA, dif_pos h, if_neg h1, if_neg (by rw [h2]; decide), if_pos h2, dif_pos h3]
theorem wA_b0 (l : List UInt8) (i : Nat) (acc : List UInt8) (h : i < l.length) (h1 : ¬ stopB l[i] = true) (h2 : l[i] = 92) (h3 : ¬ i + 1 < l.length) :
    wA l i acc = none := by
  rw [wA, dif_pos h, if_neg h1, if_neg (by rw [h2]; decide), if_pos h2, dif_neg h3]
theorem wA_one (l : List UInt8) (i : Nat) (acc : List UInt8) (h : i < l.length) (h1 : ¬ stopB l[i] = true) (h2 : ¬ l[i] = 39) (h3 : ¬ l[i] = 34) (h4 : ¬ l[i] = 92) :
    wA l i acc = wA l (i + 1) (acc ++ [l[i]]) := by
  conv => lhs; rw [wA, dif_pos h, if_neg h1, if_neg (not_or.mpr ⟨h2, h3⟩), if_neg h4]
theorem qA_len (l : List UInt8) (e : UInt8) : ∀ d i acc t n, l.length - i ≤ d → qA l e i acc = some (t, n) → i < n ∧ n ≤ l.length ∧ t.length ≤ acc.length + (n - i) := by
  intro d
  induction d with
  | zero => intro i acc t n hd h; rw [qA_end l e i acc (by omega)] at h; exact absurd h (by simp)
  | succ d ih =>
    intro i acc t n hd h
    rw [qA] at h
    split at h
    · split at h
      · injection h with h; injection h with h1 h2; subst h1 h2; exact ⟨by omega, by omega, by omega⟩
      · split at h
        · rename_i h3
          have := h3.2.2
          split at h
          · have := ih _ _ _ _ (by omega) h; simp only [List.length_append, List.length_cons, List.length_nil] at this; omega
          · have := ih _ _ _ _ (by omega) h; simp only [List.length_append, List.length_cons, List.length_nil] at this; omega
        · have := ih _ _ _ _ (by omega) h; simp only [List.length_append, List.length_cons, List.length_nil] at this; omega
    · exact absurd h (by simp)
theorem Bld.keep {b : Nat} {l : List UInt8} {w w' : World} (h : Bld b l w) (hd : Below w.heap.size w w') : Bld b l w' := by
  have hlt := Bld.lt h
  rcases h with ⟨hB, v, hv, hown, hne⟩ | ⟨hB, v, hv, hown, hne⟩
  · exact .inl ⟨hB, v, (hd.block b hlt).trans hv, hown.kept (row := none) ⟨hd.os, hd.tape, hd.output, hd.size, fun k hk _ => hd.block k hk⟩ (Classical.em _), hne⟩
  · exact .inr ⟨hB, v, (hd.block b hlt).trans hv, hown.kept (row := none) ⟨hd.os, hd.tape, hd.output, hd.size, fun k hk _ => hd.block k hk⟩ (Classical.em _), hne⟩
theorem Bld.drewN {b : Nat} {l : List UInt8} {w : World} (n : Nat) (h : Bld b l w) : Bld b l (w.drewN n) := h

set_option maxRecDepth 100000 in
set_option maxHeartbeats 4000000 in
theorem word_calls (l : List UInt8) (hl : l.length < 4294967281) (w : World) :
    Calls Tryd.prog 50 #[.string (B l)] w fun en w' => en = .returned (.tuple #[.string (resQ (wA l 0 [])).1, .int .i64 (resQ (wA l 0 [])).2]) ∧ Below w.heap.size w w' := by
  obtain ⟨R, hR⟩ : ∃ R, wA l 0 [] = R := ⟨_, rfl⟩
  rw [hR]
  have HR0 := Aside0.mk hR
  clear hR
  go_enter Tryd.func50, Tryd.ntmps50
  go_wp2
  go_loopg [5] (l.length + 1) (fun g v wr => ∃ (i : Nat) (acc : List UInt8), v = .int .i64 (i : Int) ∧ i ≤ l.length ∧ l.length - i < g ∧ Aside0 (acc.length ≤ i) ∧ Aside0 (wA l i acc = R) ∧ Aside0 (Bld w.heap.size acc wr) ∧ Aside0 (Below w.heap.size w wr))
  case atStart => exact ⟨0, [], rfl, by omega, by omega, ⟨by simp⟩, HR0, ⟨Bld.fresh w⟩, ⟨(Below.refl _ w).alloc (Nat.le_refl _) _⟩⟩
  case round =>
    obtain ⟨i, acc, rfl, hi, hg, HL, HR, HB, HW⟩ := hrel
    have hsz : (B l).size = l.length := B_size l
    by_cases hlt : i < l.length
    · have hiB : i < (B l).size := by rw [hsz]; exact hlt
      obtain ⟨x, hx⟩ : ∃ x, (B l)[i]'hiB = x := ⟨_, rfl⟩
      have Hx := Aside0.mk ((getB' l i hlt hiB).symm.trans hx)
      by_cases hst : stopB x = true
      · have Hs := Aside0.mk hst
        have qs := (stops_eq x).trans (congrArg some hst)
        go_wp2_with (first | (go_at_call 112; refine (XE05.lex_stops.calls _ _ _ qs).mono ?_; rintro e1 w1 ⟨rfl, ⟨nd, rfl⟩⟩; replace HB := Aside0.mk (Bld.drewN nd HB.out); replace HW := Aside0.mk (pw_below_drewN (n := nd) HW.out)) | (go_at_call 116; refine (bldString _ _ _ HB.out).mono ?_; rintro e2 w2 ⟨rfl, hb2, hbl2, _⟩))
        go_ret2
        have hR : R = some (acc, i) := by rw [← HR.out, wA_stop l i acc hlt (Hx.out.symm ▸ Hs.out)]
        subst hR
        exact ⟨by simp [resQ], HW.out.trans hbl2⟩
      · have qs := (stops_eq x).trans (congrArg some (show stopB x = false by simpa using hst))
        have Hs := Aside0.mk hst
        have hi1 : IntKind.i64.wrap ((i : Int) + 1) = (i : Int) + 1 := by exact Go.IntWalk.i64_in _ (by omega)
        have hsl : (B l).extract (i + 1) l.length = B (l.drop (i + 1)) := by rw [B_extract]; simp
        by_cases h39 : x = 39
        · have q39 : (((x.toNat : Int)) == 39) = true := by rw [show (39 : Int) = ((39 : Nat) : Int) from rfl, beqN x 39 (by decide)]; exact decide_eq_true h39
          have q34 : (((x.toNat : Int)) == 34) = false := by rw [show (34 : Int) = ((34 : Nat) : Int) from rfl, beqN x 34 (by decide), h39]; rfl
          have H39 := Aside0.mk h39
          clear h39
          have hor : l[i] = 39 ∨ l[i] = 34 := .inl (Hx.out.trans H39.out)
          have Hor := Aside0.mk hor
          clear hor
          have hdl : (l.drop (i + 1)).length < 4294967281 := by simp only [List.length_drop]; omega
          have hqc := quoted_calls (l.drop (i + 1)) x hdl
          obtain ⟨o, ho⟩ : ∃ o, qA (l.drop (i + 1)) x 0 [] = o := ⟨_, rfl⟩
          rw [ho] at hqc
          rcases o with _ | ⟨t, n⟩
          · have Ho := Aside0.mk ho
            clear ho
            go_wp2_with (first | (go_at_call 112; refine (XE05.lex_stops.calls _ _ _ qs).mono ?_; rintro e1 w1 ⟨rfl, ⟨nd, rfl⟩⟩; have HB0 := HB; have HW0 := HW; replace HB := Aside0.mk (Bld.drewN nd HB.out); replace HW := Aside0.mk (pw_below_drewN (n := nd) HW.out)) | (go_at_call 116; refine (bldString _ _ _ HB.out).mono ?_; rintro e2 w2 ⟨rfl, hb2, hbl2, _⟩))
            go_region_with (go_at_call 113; refine (hqc _).mono ?_; rintro e2 w2 ⟨rfl, hb2⟩; replace HW := Aside0.mk (below_step (pw_below_drewN HW0.out (nd + 1)) hb2))
            all_goals (go_wp2; go_ret2; (have hR : R = none := by rw [← HR.out, wA_q0 l i acc hlt (fun h => Hs.out (Hx.out ▸ h)) Hor.out (Hx.out.symm ▸ Ho.out)]); subst hR; exact ⟨rfl, HW.out⟩)
          · have HT := Aside0.mk (qA_len _ _ _ _ _ _ _ (Nat.le_refl _) ho)
            have Ho := Aside0.mk ho
            clear ho
            replace hqc : ∀ w, Calls Tryd.prog 113 #[.string (B (l.drop (i + 1))), .int .u8 (x.toNat : Int)] w fun en w' => en = .returned (.tuple #[.string (B t), .int .i64 (n : Int)]) ∧ Below w.heap.size w w' := hqc
            have hn : n ≤ l.length := by have := HT.out.2.1; simp only [List.length_drop] at this; omega
            have hn2 : i + 1 + n ≤ l.length := by have := HT.out.2.1; have := HT.out.1; simp only [List.length_drop] at *; omega
            have hn0 : decide ((n : Int) < 0) = false := decide_eq_false (by omega)
            go_wp2_with (first | (go_at_call 112; refine (XE05.lex_stops.calls _ _ _ qs).mono ?_; rintro e1 w1 ⟨rfl, ⟨nd, rfl⟩⟩; have HB0 := HB; have HW0 := HW; replace HB := Aside0.mk (Bld.drewN nd HB.out); replace HW := Aside0.mk (pw_below_drewN (n := nd) HW.out)) | (go_at_call 116; refine (bldString _ _ _ HB.out).mono ?_; rintro e2 w2 ⟨rfl, hb2, hbl2, _⟩))
            go_region_with (go_at_call 113; refine (hqc _).mono ?_; rintro e2 w2 ⟨rfl, hb2⟩; replace HB := Aside0.mk (Bld.keep (Bld.drewN (nd + 1) HB0.out) hb2); replace HW := Aside0.mk (below_step (pw_below_drewN HW0.out (nd + 1)) hb2))
            all_goals (go_wp2_with (go_at_call 114; refine (writeString _ _ t _ HB.out (by have h1 := HL.out; have h2 := HT.out.2.2; simp only [List.length_nil] at h2; omega)).mono ?_; rintro e3 w3 ⟨rfl, hb3, hbl3, _⟩); go_roundg (gk - 1); (case measure => omega); (case rel => exact ⟨i + 1 + n, acc ++ t, by go_num, by omega, by omega, ⟨by have h1 := HL.out; have h2 := HT.out.2.2; rw [List.length_append]; simp only [List.length_nil] at h2; omega⟩, ⟨(wA_q l i acc hlt (fun h => Hs.out (Hx.out ▸ h)) Hor.out t n (Hx.out.symm ▸ Ho.out)).symm.trans HR.out⟩, ⟨hb3⟩, ⟨HW.out.trans hbl3⟩⟩))
        · have q39 : (((x.toNat : Int)) == 39) = false := by rw [show (39 : Int) = ((39 : Nat) : Int) from rfl, beqN x 39 (by decide)]; exact decide_eq_false h39
          have H39 := Aside0.mk h39
          clear h39
          by_cases h34 : x = 34
          · have q34 : (((x.toNat : Int)) == 34) = true := by rw [show (34 : Int) = ((34 : Nat) : Int) from rfl, beqN x 34 (by decide)]; exact decide_eq_true h34
            have H34 := Aside0.mk h34
            clear h34
            have hor : l[i] = 39 ∨ l[i] = 34 := .inr (Hx.out.trans H34.out)
            have Hor := Aside0.mk hor
            clear hor
            have hdl : (l.drop (i + 1)).length < 4294967281 := by simp only [List.length_drop]; omega
            have hqc := quoted_calls (l.drop (i + 1)) x hdl
            obtain ⟨o, ho⟩ : ∃ o, qA (l.drop (i + 1)) x 0 [] = o := ⟨_, rfl⟩
            rw [ho] at hqc
            rcases o with _ | ⟨t, n⟩
            · have Ho := Aside0.mk ho
              clear ho
              go_wp2_with (first | (go_at_call 112; refine (XE05.lex_stops.calls _ _ _ qs).mono ?_; rintro e1 w1 ⟨rfl, ⟨nd, rfl⟩⟩; have HB0 := HB; have HW0 := HW; replace HB := Aside0.mk (Bld.drewN nd HB.out); replace HW := Aside0.mk (pw_below_drewN (n := nd) HW.out)) | (go_at_call 116; refine (bldString _ _ _ HB.out).mono ?_; rintro e2 w2 ⟨rfl, hb2, hbl2, _⟩))
              go_region_with (go_at_call 113; refine (hqc _).mono ?_; rintro e2 w2 ⟨rfl, hb2⟩; replace HW := Aside0.mk (below_step (pw_below_drewN HW0.out (nd + 1)) hb2))
              all_goals (go_wp2; go_ret2; (have hR : R = none := by rw [← HR.out, wA_q0 l i acc hlt (fun h => Hs.out (Hx.out ▸ h)) Hor.out (Hx.out.symm ▸ Ho.out)]); subst hR; exact ⟨rfl, HW.out⟩)
            · have HT := Aside0.mk (qA_len _ _ _ _ _ _ _ (Nat.le_refl _) ho)
              have Ho := Aside0.mk ho
              clear ho
              replace hqc : ∀ w, Calls Tryd.prog 113 #[.string (B (l.drop (i + 1))), .int .u8 (x.toNat : Int)] w fun en w' => en = .returned (.tuple #[.string (B t), .int .i64 (n : Int)]) ∧ Below w.heap.size w w' := hqc
              have hn : n ≤ l.length := by have := HT.out.2.1; simp only [List.length_drop] at this; omega
              have hn2 : i + 1 + n ≤ l.length := by have := HT.out.2.1; have := HT.out.1; simp only [List.length_drop] at *; omega
              have hn0 : decide ((n : Int) < 0) = false := decide_eq_false (by omega)
              go_wp2_with (first | (go_at_call 112; refine (XE05.lex_stops.calls _ _ _ qs).mono ?_; rintro e1 w1 ⟨rfl, ⟨nd, rfl⟩⟩; have HB0 := HB; have HW0 := HW; replace HB := Aside0.mk (Bld.drewN nd HB.out); replace HW := Aside0.mk (pw_below_drewN (n := nd) HW.out)) | (go_at_call 116; refine (bldString _ _ _ HB.out).mono ?_; rintro e2 w2 ⟨rfl, hb2, hbl2, _⟩))
              go_region_with (go_at_call 113; refine (hqc _).mono ?_; rintro e2 w2 ⟨rfl, hb2⟩; replace HB := Aside0.mk (Bld.keep (Bld.drewN (nd + 1) HB0.out) hb2); replace HW := Aside0.mk (below_step (pw_below_drewN HW0.out (nd + 1)) hb2))
              all_goals (go_wp2_with (go_at_call 114; refine (writeString _ _ t _ HB.out (by have h1 := HL.out; have h2 := HT.out.2.2; simp only [List.length_nil] at h2; omega)).mono ?_; rintro e3 w3 ⟨rfl, hb3, hbl3, _⟩); go_roundg (gk - 1); (case measure => omega); (case rel => exact ⟨i + 1 + n, acc ++ t, by go_num, by omega, by omega, ⟨by have h1 := HL.out; have h2 := HT.out.2.2; rw [List.length_append]; simp only [List.length_nil] at h2; omega⟩, ⟨(wA_q l i acc hlt (fun h => Hs.out (Hx.out ▸ h)) Hor.out t n (Hx.out.symm ▸ Ho.out)).symm.trans HR.out⟩, ⟨hb3⟩, ⟨HW.out.trans hbl3⟩⟩))
          · have q34 : (((x.toNat : Int)) == 34) = false := by rw [show (34 : Int) = ((34 : Nat) : Int) from rfl, beqN x 34 (by decide)]; exact decide_eq_false h34
            have H34 := Aside0.mk h34
            clear h34
            by_cases h92 : x = 92
            · have q92 : (((x.toNat : Int)) == 92) = true := by rw [show (92 : Int) = ((92 : Nat) : Int) from rfl, beqN x 92 (by decide)]; exact decide_eq_true h92
              have H92 := Aside0.mk h92
              clear h92
              by_cases h3 : i + 1 < l.length
              · have H3 := Aside0.mk h3
                have h3B : i + 1 < (B l).size := by rw [hsz]; exact h3
                have h3e : ((i : Int) + 1 == (l.length : Int)) = false := by simp; omega
                have h3i : (i : Int) + 1 < (l.length : Int) := by omega
                obtain ⟨y, hy⟩ : ∃ y, (B l)[i + 1]'h3B = y := ⟨_, rfl⟩
                have Hy := Aside0.mk ((getB' l (i + 1) h3 h3B).symm.trans hy)
                go_wp2_with (first | (go_at_call 112; refine (XE05.lex_stops.calls _ _ _ qs).mono ?_; rintro e1 w1 ⟨rfl, ⟨nd, rfl⟩⟩; have HB0 := HB; have HW0 := HW; replace HB := Aside0.mk (Bld.drewN nd HB.out); replace HW := Aside0.mk (pw_below_drewN (n := nd) HW.out)) | (go_at_call 115; refine (writeByte _ _ _ _ HB.out (by have := HL.out; omega)).mono ?_; rintro e3 w3 ⟨rfl, hb3, hbl3, _⟩))
                go_roundg (gk - 1)
                case measure => omega
                case rel => exact ⟨i + 2, acc ++ [y], by go_num, by omega, by omega, ⟨by have := HL.out; simp; omega⟩, ⟨by rw [← Hy.out]; exact (wA_b l i acc hlt (fun h => Hs.out (Hx.out ▸ h)) (Hx.out.trans H92.out) H3.out).symm.trans HR.out⟩, ⟨hb3⟩, ⟨HW.out.trans hbl3⟩⟩
              · have H3 := Aside0.mk h3
                have h3e : ((i : Int) + 1 == (l.length : Int)) = true := by simp; omega
                go_wp2_with (first | (go_at_call 112; refine (XE05.lex_stops.calls _ _ _ qs).mono ?_; rintro e1 w1 ⟨rfl, ⟨nd, rfl⟩⟩; have HB0 := HB; have HW0 := HW; replace HB := Aside0.mk (Bld.drewN nd HB.out); replace HW := Aside0.mk (pw_below_drewN (n := nd) HW.out)))
                go_ret2
                have hR : R = none := by rw [← HR.out, wA_b0 l i acc hlt (fun h => Hs.out (Hx.out ▸ h)) (Hx.out.trans H92.out) H3.out]
                subst hR
                exact ⟨rfl, HW.out⟩
            · have q92 : (((x.toNat : Int)) == 92) = false := by rw [show (92 : Int) = ((92 : Nat) : Int) from rfl, beqN x 92 (by decide)]; exact decide_eq_false h92
              have H92 := Aside0.mk h92
              clear h92
              go_wp2_with (first | (go_at_call 112; refine (XE05.lex_stops.calls _ _ _ qs).mono ?_; rintro e1 w1 ⟨rfl, ⟨nd, rfl⟩⟩; have HB0 := HB; have HW0 := HW; replace HB := Aside0.mk (Bld.drewN nd HB.out); replace HW := Aside0.mk (pw_below_drewN (n := nd) HW.out)) | (go_at_call 115; refine (writeByte _ _ _ _ HB.out (by have := HL.out; omega)).mono ?_; rintro e3 w3 ⟨rfl, hb3, hbl3, _⟩))
              go_roundg (gk - 1)
              case measure => omega
              case rel => exact ⟨i + 1, acc ++ [x], by go_num, by omega, by omega, ⟨by have := HL.out; simp; omega⟩, ⟨by rw [← Hx.out]; exact (wA_one l i acc hlt (fun h => Hs.out (Hx.out ▸ h)) (fun h => H39.out (Hx.out.symm.trans h)) (fun h => H34.out (Hx.out.symm.trans h)) (fun h => H92.out (Hx.out.symm.trans h))).symm.trans HR.out⟩, ⟨hb3⟩, ⟨HW.out.trans hbl3⟩⟩
    · go_wp2_with (first | (go_at_call 116; refine (bldString _ _ _ HB.out).mono ?_; rintro e2 w2 ⟨rfl, hb2, hbl2, _⟩))
      go_ret2
      have hR : R = some (acc, i) := by rw [← HR.out, wA_end l i acc (by omega)]
      subst hR
      exact ⟨by simp [resQ], HW.out.trans hbl2⟩

def lex_word.f (a0 : ByteArray) : Option (ByteArray × Int) := if a0.size < 4294967281 then some (resQ (wA a0.data.toList 0 [])) else none
theorem lex_word.calls (a0 : ByteArray) (r1 : ByteArray) (r2 : Int) (w : World) (h : lex_word.f a0 = some (r1, r2)) :
    Calls Tryd.prog 50 #[.string a0] w fun e w' => e = .returned (.tuple #[.string r1, .int .i64 r2]) ∧ Below w.heap.size w w' := by
  unfold lex_word.f at h
  split at h
  · rename_i hb
    obtain ⟨l, rfl, hl⟩ := ex_B a0
    have h2 := Option.some.inj h
    rw [B_data] at h2
    have := word_calls l (by rw [B_size] at hb; exact hb) w
    rw [h2] at this
    exact this
  · exact absurd h (by simp)
end Go.Proofs.YtgpabkdmagifjaaDoor.X
