/- lines.joined at lines.Of's literal, and lines.Of, as a plain function with its contract; condition: a text of fewer than 1048576 bytes. -/
import Derived.Test.YtgpabkdmagifjaaDoorHLines
namespace Go.Proofs.YtgpabkdmagifjaaDoor.X
open Go.RowKit Go.Proofs.YtgpabkdmagifjaaDoorW.PrintWords Go.Proofs.YtgpabkdmagifjaaDoorW.PrintLast Go.Proofs.YtgpabkdmagifjaaDoorW.PrintMore Go.Proofs.YtgpabkdmagifjaaDoor.XL08 Go.Proofs.YtgpabkdmagifjaaDoor.XT08
set_option linter.unusedSimpArgs false
set_option linter.unusedVariables false

theorem R_grown_ty {α : Type} {d : Kd α} {e base t : Nat} {ok : Nat → Prop} {w w1 : World} {v : Value} {xs : List α} {row : Option Nat} (h : d.R e w base ok v xs) (hg : w.grownBy w1 row)
    (ht : ∀ k, row = some k → ∃ cells, w.heap[k]? = some (.cells cells t (0, 0))) (hne : ∀ q, q ∈ e :: d.E → q ≠ t) : d.R e w1 base ok v xs := by
  refine Kd.R_mono (Kd.R_grown (Kd.R_bound h) hg (fun k hk e_ => ?_)) (fun k hk => hk.1)
  obtain ⟨_, _, _, q, hq, cells, hc⟩ := hk
  obtain ⟨cells', hc'⟩ := ht k e_.symm
  rw [hc] at hc'
  injection hc' with hc'
  injection hc' with _ hc' _
  exact hne q hq hc'
theorem R_off {α : Type} {d : Kd α} {e base t1 t2 : Nat} {ok : Nat → Prop} {w w1 : World} {v : Value} {xs : List α} (h : d.R e w base ok v xs) (ho : OffTy t1 t2 w w1)
    (hne : ∀ q, q ∈ e :: d.E → q ≠ t1 ∧ q ≠ t2) : d.R e w1 base ok v xs := by
  refine Kd.R_mono (Kd.R_move (Kd.R_bound h) (fun k hk => ?_)) (fun k hk => hk.1)
  obtain ⟨_, _, _, q, hq, cells, hc⟩ := hk
  rw [hc]
  exact ho.2 _ _ _ _ hc (hne q hq).1 (hne q hq).2

/-! joined -/
theorem R_cell {e base b o n c : Nat} {ok : Nat → Prop} {W : World} {xs : List ByteArray} (h : Kd.R Kd.string e W base ok (.slice (some ⟨b, o, none⟩) n c) xs) (i : Nat) (hi : i < xs.length) : W.cell? ⟨b, o + i, none⟩ = some (.string xs[i]) := by
  obtain ⟨b', o', e', _, hc⟩ := reads_cells (Kd.R_reads' h).2.2 (by omega)
  injection e' with e'
  injection e' with e1 e2 _
  subst e1 e2
  exact hc i _ (List.getElem?_eq_getElem hi)
/-- What holds between rounds: the open parts' row, the row of all rows, the box and its row, all else as it was. -/
def JInv (w : World) (Bo base bp : Nat) (va : Value) (rows : List (List UInt8)) (vp vo : Value) (pa : List (List UInt8)) (out : List S39) (W : World) : Prop :=
  Kd.R Kd.string 9 W bp (fun _ => True) vp (pa.map B) ∧ Kd.R Kd.string 9 W w.heap.size (fun k => k < bp) va (rows.map B) ∧ Boxed W Bo 34 vo
    ∧ Kd.R k39 39 W base (fun _ => True) vo out ∧ Below base w W ∧ bp ≤ W.heap.size
section
variable {w W W1 : World} {Bo base bp : Nat} {va vp vo : Value} {rows pa : List (List UInt8)} {out : List S39}
theorem JInv.below (h : JInv w Bo base bp va rows vp vo pa out W) (hBo : base ≤ Bo) (hb : Below W.heap.size W W1) : JInv w Bo base bp va rows vp vo pa out W1 := by
  obtain ⟨h1, h2, h3, h4, h5, h6⟩ := h
  have hbx : Boxed W1 Bo 34 vo := Boxed.below' h3 hb h3.lt
  refine ⟨Kd.R_below h1 hb, Kd.R_below h2 hb, hbx, Kd.R_below h4 hb, ?_, Nat.le_trans h6 hb.size⟩
  exact h5.trans (hb.mono (by have := h3.lt; omega))
theorem JInv.grown (h : JInv w Bo base bp va rows vp vo pa out W) (hwb : w.heap.size ≤ bp) (hbl : Bo < w.heap.size) (hBo : base ≤ Bo) {v1 : Value} {pa1 : List (List UInt8)} (hg : W.grownBy W1 vp.ownBlock) (ho : Kd.R Kd.string 9 W1 bp (fun _ => True) v1 (pa1.map B)) :
    JInv w Bo base bp va rows v1 vo pa1 out W1 := by
  obtain ⟨h1, h2, h3, h4, h5, h6⟩ := h
  obtain ⟨inner, hown, _⟩ := h1.2
  refine ⟨ho, Kd.R_grown h2 hg (fun k hk e => ?_), h3.kept hg (fun e => ?_), R_grown_ty h4 hg (fun k hk => own_typed hown k hk) (by decide), h5.grown hg (by omega) (fun k hk => ?_), Nat.le_trans h6 hg.size⟩
  · have := own_base hown k e.symm; omega
  · have := own_base hown Bo e.symm; omega
  · have := own_base hown k hk; omega
theorem JInv.off (h : JInv w Bo base bp va rows vp vo pa out W) {vo1 : Value} {out1 : List S39} (hoff : OffTy 34 39 W W1) (hb : Boxed W1 Bo 34 vo1) (hO : Kd.R k39 39 W1 base (fun _ => True) vo1 out1) (hB : Below base W W1) :
    JInv w Bo base bp va rows (.slice none 0 0) vo1 [] out1 W1 := by
  obtain ⟨h1, h2, h3, h4, h5, h6⟩ := h
  exact ⟨Kd.R_nil _ _ _ _ _, R_off h2 hoff (by decide), hb, hO, h5.trans hB, Nat.le_trans h6 hB.size⟩
end
theorem ofLit_all (n : Int) (parts : List (List UInt8)) (A : Option Addr) (N c Bo base : Nat) (hN : parts.length = N) (vo : Value) (out : List S39) (W : World) {w : World} {bp : Nat} {va : Value} {rows : List (List UInt8)}
    (hne : parts ≠ []) (hn : parts.length < 4294967281) (hs : (parts.map List.length).sum + parts.length ≤ 4294967280)
    (hJ : JInv w Bo base bp va rows (.slice A N c) vo parts out W) (hBo : base ≤ Bo) (hol : out.length < 2000000000) :
    Calls Tryd.prog 59 #[.int .i64 n, .slice A N c, .pointer (some ⟨Bo, 0, none⟩)] W fun e w' => (∃ v, e = .returned v) ∧
      ∃ vo', Boxed w' Bo 34 vo' ∧ Kd.R k39 39 w' base (fun _ => True) vo' (out ++ lineL n parts) ∧ Below base W w' ∧ OffTy 34 39 W w' := by
  subst hN
  obtain ⟨h1, h2, h3, h4, h5, h6⟩ := hJ
  obtain ⟨g1, g2, g3⟩ := Kd.R_reads' h1
  have := ofLit_calls n parts A c Bo base vo out W hne hn hs g3 (by rw [List.length_map]; rw [← List.length_map (f := B)]; exact g1 ▸ g2) h3 h4 hBo hol
  rw [List.length_map] at this
  exact this

set_option maxRecDepth 100000 in
set_option maxHeartbeats 8000000 in
theorem joined_calls (l : List UInt8) (Bo base : Nat) (w : World) (hSH : Shp w) (hl : l.length < 1048576) (hbox : Boxed w Bo 34 (.slice none 0 0)) (hBo : base ≤ Bo) :
    Calls Tryd.prog 58 #[.string (B l), .func (.func 59) #[] #[.pointer (some ⟨Bo, 0, none⟩)]] w fun e w' => (∃ v, e = .returned v) ∧
      ∃ vo', Boxed w' Bo 34 vo' ∧ Kd.R k39 39 w' base (fun _ => True) vo' (linesU l) ∧ Below base w w' := by
  obtain ⟨R, hR⟩ : ∃ R, linesU l = R := ⟨_, rfl⟩
  have hR1 : (joinS 0 1 [] (rowA [] l)).flatMap (fun g => lineL (g.1 : Int) g.2) = R := hR
  rw [hR]
  have infoS : (Tryd.prog.info? 9).map (fun i => (i.zero, i.size, i.bytes)) = some (some (.string ⟨#[]⟩), 1, 16) := by kernel_rfl
  have hsplit := split10_eq l (by omega)
  have hsum := rowA_sum l []
  have hlen := rowA_len l []
  have hrne := rowA_ne l []
  obtain ⟨rows, hrows⟩ : ∃ x, rowA [] l = x := ⟨_, rfl⟩
  rw [hrows] at hsplit hsum hlen hR1 hrne
  have HR1 := Aside0.mk hR1
  have HSP := Aside0.mk hsplit
  have HSUM := Aside0.mk hsum
  clear hR hR1 hsplit hsum hrows
  have hbl := hbox.lt
  go_enter Tryd.func58, Tryd.ntmps58
  go_wp2_with (go_at_call 93; refine (strings_Split.calls _ _ _ _ hSH HSP.out).mono ?_; rintro e1 w1 ⟨va, rfl, hRa, hb1⟩; obtain ⟨Aa, ca, eva⟩ := Kd.R_slice hRa; subst eva)
  have hne : 0 < (rows.map B).length := by rw [List.length_map]; exact List.length_pos_iff.2 hrne
  obtain ⟨b, o, e', _, _⟩ := reads_cells (Kd.R_reads' hRa).2.2 hne
  subst e'
  have hnl : (rows.map B).length = rows.length := List.length_map _
  rw [hnl] at hRa
  obtain ⟨bp, hbp⟩ : ∃ x, w1.heap.size = x := ⟨_, rfl⟩
  have hwb : w.heap.size ≤ bp := hbp ▸ hb1.size
  have HJ0 := Aside0.mk (show JInv w Bo base bp (.slice (some ⟨b, o, none⟩) rows.length ca) rows (.slice none 0 0) (.slice none 0 0) [] [] w1 from
    ⟨Kd.R_nil _ _ _ _ _, Kd.R_mono (Kd.R_bound hRa) (ok' := fun k => k < bp) (fun k hk => hbp ▸ hk.2.2.1), Boxed.below' hbox hb1 hbl, Kd.R_nil _ _ _ _ _, hb1.mono (by omega), by omega⟩)
  clear hRa hb1 hbox hSH hbp
  go_loopg [4, 5, 15] (rows.length + 1) (fun g v4 v5 v15 wr => ∃ (i fr : Nat) (pa : List (List UInt8)) (out : List S39) (vo : Value), v5 = .int .i64 (fr : Int) ∧ v15 = .int .i64 (i : Int) ∧ i ≤ rows.length ∧ rows.length - i < g
    ∧ Aside0 (JInv w Bo base bp (.slice (some ⟨b, o, none⟩) rows.length ca) rows v4 vo pa out wr)
    ∧ Aside0 (out ++ (joinS i fr pa (rows.drop i)).flatMap (fun g => lineL (g.1 : Int) g.2) = R) ∧ Aside0 (pa.length ≤ i ∧ out.length ≤ i ∧ fr ≤ i + 1 ∧ (pa.map List.length).sum + ((rows.drop i).map List.length).sum ≤ l.length))
  case atStart => exact ⟨0, 1, [], [], _, rfl, rfl, by omega, by omega, HJ0, HR1, ⟨by simp, by simp, by simp, by simpa using HSUM.out⟩⟩
  case round =>
    obtain ⟨i, fr, pa, out, vo, rfl, rfl, hi, hg, HJ, HR, HN⟩ := hrel
    obtain ⟨Ap, cp, evp⟩ := Kd.R_slice HJ.out.1
    rw [List.length_map] at evp
    subst evp
    by_cases hlt : i < rows.length
    · have hcell := R_cell HJ.out.2.1 i (by rw [hnl]; exact hlt)
      rw [List.getElem_map] at hcell
      obtain ⟨row, hrow⟩ : ∃ x, rows[i] = x := ⟨_, rfl⟩
      rw [hrow] at hcell
      have HROW := Aside0.mk hrow
      have hrl : row.length < 4294967281 := by
        have h1 := HN.out.2.2.2
        rw [drop_get rows i hlt, hrow] at h1
        simp at h1; omega
      have hfr : (fr : Int) ≤ 1048577 := by have := HN.out; omega
      have HC := Aside0.mk (CutSuffix_eq row hrl)
      clear hrow hrl
      by_cases hm : i + 1 < rows.length
      · by_cases hc2 : (cutB row).2 = true
        · have HM := Aside0.mk (show (cutB row).2 = true ∧ rows.drop (i + 1) ≠ [] from ⟨hc2, fun e => by have := congrArg List.length e; simp at this; omega⟩)
          rw [hc2] at HC
          have hi1 : (i : Int) + 1 < (rows.length : Int) := by omega
          go_wp2_with (first | (go_at_call 120; refine (strings_CutSuffix.calls _ _ _ _ _ HC.out).mono ?_; rintro e2 w2 ⟨rfl, hd2⟩; have J2 := Aside0.mk (HJ.out.below hBo hd2.below)) | ((with_reducible refine gate_builtin (b := .append) (xs := #[.tmp 36, .tmp 38]) rfl ?_); at_builtin; refine Kd.R_append Kd.string (w0 := w2) bp rfl (.tmp 36) (.tmp 38) 56 9 (.string ⟨#[]⟩) 16 rfl Tryd.underlying56 infoS rfl (by decide) (by omega) (.slice Ap pa.length cp) (pa.map B) (B ((cutB row).1)) [.string (B ((cutB row).1))] (fun _ => True) (fun _ => False) rfl (by first | (go_simp; done) | (go_simp; rfl)) rfl (fun _ hk => hk.elim) (fun _ _ => trivial) J2.out.1 (Below.refl _ _) J2.out.2.2.2.2.2 (by have := HN.out; rw [List.length_map]; omega) ?_; intro v1 w3 ho hb hg hat; rw [show pa.map B ++ [B ((cutB row).1)] = (pa ++ [(cutB row).1]).map B by simp] at ho; have J3 := Aside0.mk (J2.out.grown hwb hbl hBo hg ho); obtain ⟨ad, cq, ev⟩ := Kd.R_slice1 ho (by simp); rw [List.length_map, List.length_append, List.length_singleton] at ev; subst ev; clear hg ho hb hat))
          go_roundg (gk - 1)
          case measure => omega
          case rel => exact ⟨i + 1, fr, pa ++ [(cutB row).1], out, vo, by go_num, by go_num, by omega, by omega, J3, ⟨by rw [← HR.out, drop_get rows i hlt, HROW.out, joinS_more _ _ _ _ _ HM.out]⟩, ⟨by have h1 := HN.out; have h2 := h1.2.2.2; have h3 := cutB_len row; rw [drop_get rows i hlt, HROW.out] at h2; simp at h2 ⊢; omega⟩⟩
        · have hc3 : (cutB row).2 = false := by simpa using hc2
          rw [hc3] at HC
          have HM := Aside0.mk (show ¬ ((cutB row).2 = true ∧ rows.drop (i + 1) ≠ []) from fun h => hc2 h.1)
          clear hc2 hc3
          have HSZ := Aside0.mk (show ((pa ++ [row]).map List.length).sum + (pa ++ [row]).length ≤ 4294967280 by have h1 := HN.out; have h2 := h1.2.2.2; rw [drop_get rows i hlt, HROW.out] at h2; simp at h2 ⊢; omega)
          go_wp2_with (first | (go_at_call 120; refine (strings_CutSuffix.calls _ _ _ _ _ HC.out).mono ?_; rintro e2 w2 ⟨rfl, hd2⟩; have J2 := Aside0.mk (HJ.out.below hBo hd2.below)) | ((with_reducible refine gate_builtin (b := .append) (xs := #[.tmp 36, .tmp 38]) rfl ?_); at_builtin; refine Kd.R_append Kd.string (w0 := w2) bp rfl (.tmp 36) (.tmp 38) 56 9 (.string ⟨#[]⟩) 16 rfl Tryd.underlying56 infoS rfl (by decide) (by omega) (.slice Ap pa.length cp) (pa.map B) (B (row)) [.string (B (row))] (fun _ => True) (fun _ => False) rfl (by first | (go_simp; done) | (go_simp; rfl)) rfl (fun _ hk => hk.elim) (fun _ _ => trivial) J2.out.1 (Below.refl _ _) J2.out.2.2.2.2.2 (by have := HN.out; rw [List.length_map]; omega) ?_; intro v1 w3 ho hb hg hat; rw [show pa.map B ++ [B (row)] = (pa ++ [row]).map B by simp] at ho; have J3 := Aside0.mk (J2.out.grown hwb hbl hBo hg ho); obtain ⟨ad, cq, ev⟩ := Kd.R_slice1 ho (by simp); rw [List.length_map, List.length_append, List.length_singleton] at ev; subst ev; clear hg ho hb hat) | (go_at_call 59; refine (ofLit_all _ (pa ++ [row]) _ (pa.length + 1) _ Bo base (by simp) vo out _ (by simp) (by have := HN.out; simp; omega) HSZ.out J3.out hBo (by have := HN.out; omega)).mono ?_; rintro e4 w4 ⟨⟨vv, rfl⟩, vo', q1, q2, q3, q4⟩; have J4 := Aside0.mk (J3.out.off q4 q1 q2 q3)))
          go_roundg (gk - 1)
          case measure => omega
          case rel => exact ⟨i + 1, i + 2, [], out ++ lineL (fr : Int) (pa ++ [row]), vo', by go_num, by go_num, by omega, by omega, J4, ⟨by rw [← HR.out, drop_get rows i hlt, HROW.out, joinS_one _ _ _ _ _ HM.out]; simp⟩, ⟨by have h1 := HN.out; have h2 := h1.2.2.2; have h3 := lineL_len (fr : Int) (pa ++ [row]); rw [drop_get rows i hlt, HROW.out] at h2; simp at h2 ⊢; omega⟩⟩
      · have HM := Aside0.mk (show ¬ ((cutB row).2 = true ∧ rows.drop (i + 1) ≠ []) from fun h => h.2 (List.drop_eq_nil_of_le (by omega)))
        have hi1 : decide ((i : Int) + 1 < (rows.length : Int)) = false := decide_eq_false (by omega)
        obtain ⟨cb, hcb⟩ : ∃ x, (cutB row).2 = x := ⟨_, rfl⟩
        rw [hcb] at HC
        clear hcb
        cases cb with
        | true =>
          have HSZ := Aside0.mk (show ((pa ++ [row]).map List.length).sum + (pa ++ [row]).length ≤ 4294967280 by have h1 := HN.out; have h2 := h1.2.2.2; rw [drop_get rows i hlt, HROW.out] at h2; simp at h2 ⊢; omega)
          go_wp2_with (first | (go_at_call 120; refine (strings_CutSuffix.calls _ _ _ _ _ HC.out).mono ?_; rintro e2 w2 ⟨rfl, hd2⟩; have J2 := Aside0.mk (HJ.out.below hBo hd2.below)) | ((with_reducible refine gate_builtin (b := .append) (xs := #[.tmp 36, .tmp 38]) rfl ?_); at_builtin; refine Kd.R_append Kd.string (w0 := w2) bp rfl (.tmp 36) (.tmp 38) 56 9 (.string ⟨#[]⟩) 16 rfl Tryd.underlying56 infoS rfl (by decide) (by omega) (.slice Ap pa.length cp) (pa.map B) (B (row)) [.string (B (row))] (fun _ => True) (fun _ => False) rfl (by first | (go_simp; done) | (go_simp; rfl)) rfl (fun _ hk => hk.elim) (fun _ _ => trivial) J2.out.1 (Below.refl _ _) J2.out.2.2.2.2.2 (by have := HN.out; rw [List.length_map]; omega) ?_; intro v1 w3 ho hb hg hat; rw [show pa.map B ++ [B (row)] = (pa ++ [row]).map B by simp] at ho; have J3 := Aside0.mk (J2.out.grown hwb hbl hBo hg ho); obtain ⟨ad, cq, ev⟩ := Kd.R_slice1 ho (by simp); rw [List.length_map, List.length_append, List.length_singleton] at ev; subst ev; clear hg ho hb hat) | (go_at_call 59; refine (ofLit_all _ (pa ++ [row]) _ (pa.length + 1) _ Bo base (by simp) vo out _ (by simp) (by have := HN.out; simp; omega) HSZ.out J3.out hBo (by have := HN.out; omega)).mono ?_; rintro e4 w4 ⟨⟨vv, rfl⟩, vo', q1, q2, q3, q4⟩; have J4 := Aside0.mk (J3.out.off q4 q1 q2 q3)))
          go_roundg (gk - 1)
          case measure => omega
          case rel => exact ⟨i + 1, i + 2, [], out ++ lineL (fr : Int) (pa ++ [row]), vo', by go_num, by go_num, by omega, by omega, J4, ⟨by rw [← HR.out, drop_get rows i hlt, HROW.out, joinS_one _ _ _ _ _ HM.out]; simp⟩, ⟨by have h1 := HN.out; have h2 := h1.2.2.2; have h3 := lineL_len (fr : Int) (pa ++ [row]); rw [drop_get rows i hlt, HROW.out] at h2; simp at h2 ⊢; omega⟩⟩
        | false =>
          have HSZ := Aside0.mk (show ((pa ++ [row]).map List.length).sum + (pa ++ [row]).length ≤ 4294967280 by have h1 := HN.out; have h2 := h1.2.2.2; rw [drop_get rows i hlt, HROW.out] at h2; simp at h2 ⊢; omega)
          go_wp2_with (first | (go_at_call 120; refine (strings_CutSuffix.calls _ _ _ _ _ HC.out).mono ?_; rintro e2 w2 ⟨rfl, hd2⟩; have J2 := Aside0.mk (HJ.out.below hBo hd2.below)) | ((with_reducible refine gate_builtin (b := .append) (xs := #[.tmp 36, .tmp 38]) rfl ?_); at_builtin; refine Kd.R_append Kd.string (w0 := w2) bp rfl (.tmp 36) (.tmp 38) 56 9 (.string ⟨#[]⟩) 16 rfl Tryd.underlying56 infoS rfl (by decide) (by omega) (.slice Ap pa.length cp) (pa.map B) (B (row)) [.string (B (row))] (fun _ => True) (fun _ => False) rfl (by first | (go_simp; done) | (go_simp; rfl)) rfl (fun _ hk => hk.elim) (fun _ _ => trivial) J2.out.1 (Below.refl _ _) J2.out.2.2.2.2.2 (by have := HN.out; rw [List.length_map]; omega) ?_; intro v1 w3 ho hb hg hat; rw [show pa.map B ++ [B (row)] = (pa ++ [row]).map B by simp] at ho; have J3 := Aside0.mk (J2.out.grown hwb hbl hBo hg ho); obtain ⟨ad, cq, ev⟩ := Kd.R_slice1 ho (by simp); rw [List.length_map, List.length_append, List.length_singleton] at ev; subst ev; clear hg ho hb hat) | (go_at_call 59; refine (ofLit_all _ (pa ++ [row]) _ (pa.length + 1) _ Bo base (by simp) vo out _ (by simp) (by have := HN.out; simp; omega) HSZ.out J3.out hBo (by have := HN.out; omega)).mono ?_; rintro e4 w4 ⟨⟨vv, rfl⟩, vo', q1, q2, q3, q4⟩; have J4 := Aside0.mk (J3.out.off q4 q1 q2 q3)))
          go_roundg (gk - 1)
          case measure => omega
          case rel => exact ⟨i + 1, i + 2, [], out ++ lineL (fr : Int) (pa ++ [row]), vo', by go_num, by go_num, by omega, by omega, J4, ⟨by rw [← HR.out, drop_get rows i hlt, HROW.out, joinS_one _ _ _ _ _ HM.out]; simp⟩, ⟨by have h1 := HN.out; have h2 := h1.2.2.2; have h3 := lineL_len (fr : Int) (pa ++ [row]); rw [drop_get rows i hlt, HROW.out] at h2; simp at h2 ⊢; omega⟩⟩
    · go_wp2
      go_end0
      refine ⟨⟨_, rfl⟩, vo, HJ.out.2.2.1, ?_, HJ.out.2.2.2.2.1⟩
      have := HR.out
      rw [List.drop_eq_nil_of_le (by omega), joinS] at this
      simp at this
      rw [← this]
      exact HJ.out.2.2.2.1

def lines_Of.f (a0 : ByteArray) : Option (List S39) := if a0.size < 1048576 then some (linesU a0.data.toList) else none
set_option maxRecDepth 100000 in
set_option maxHeartbeats 2000000 in
theorem lines_Of.calls (a0 : ByteArray) (r : List S39) (w : World) (hSH : Shp w) (h : lines_Of.f a0 = some r) :
    Calls Tryd.prog 19 #[.string a0] w fun e w' => ∃ v0_ : Value, e = .returned (v0_) ∧ Kd.R k39 39 w' w.heap.size (fun _ => True) v0_ r ∧ Below w.heap.size w w' := by
  unfold lines_Of.f at h
  by_cases hsz : a0.size < 1048576
  case neg => rw [if_neg hsz] at h; exact absurd h (by simp)
  rw [if_pos hsz] at h
  obtain rfl := Option.some.inj h
  clear h
  obtain ⟨l, rfl, hl⟩ := ex_B a0
  rw [B_data]
  have hl' : l.length < 1048576 := by rw [B_size] at hsz; exact hsz
  have hb0 : Below w.heap.size w (w.alloc (.cells #[.slice none 0 0] 34)) := below_alloc (Below.refl _ _) _
  have HJ := Aside0.mk (joined_calls l w.heap.size w.heap.size (w.alloc (.cells #[.slice none 0 0] 34)) (Shp.below hSH hb0) hl' (Boxed.new w _ _) (Nat.le_refl _))
  clear hsz hl hSH
  go_enter Tryd.func19, Tryd.ntmps19
  go_wp2_with (go_at_call 58; refine HJ.out.mono ?_; rintro e1 w1 ⟨⟨v, rfl⟩, vo, hb1, hO, hB1⟩; have hc1 := hb1.cell; obtain ⟨Ao, co, evo⟩ := Kd.R_slice hO; subst evo)
  go_ret
  exact ⟨_, rfl, hO, hb0.trans hB1⟩
end Go.Proofs.YtgpabkdmagifjaaDoor.X
