/- The reference's lines (flatironref08.Of) as a plain function, with its contract; condition: a text of fewer than 1048576 bytes. -/
import Derived.Test.YtgpabkdmagifjaaDoorPLinesC
import Derived.Test.YtgpabkdmagifjaaDoorHLinesJ
namespace Go.Proofs.YtgpabkdmagifjaaDoor.X
open Go.RowKit Go.Proofs.YtgpabkdmagifjaaDoorW.PrintWords Go.Proofs.YtgpabkdmagifjaaDoorW.PrintLast Go.Proofs.YtgpabkdmagifjaaDoorW.PrintMore Go.Proofs.YtgpabkdmagifjaaDoor.XL08 Go.Proofs.YtgpabkdmagifjaaDoor.XT08
set_option linter.unusedSimpArgs false
set_option linter.unusedVariables false

def lineR (n : Int) (parts : List (List UInt8)) : List S40 := if textU parts = [] then [] else [⟨n, B (textU parts), recU parts⟩]
theorem lineR_len (n : Int) (parts : List (List UInt8)) : (lineR n parts).length ≤ 1 := by unfold lineR; split <;> simp
def linesR (l : List UInt8) : List S40 := (joinS 0 1 [] (rowA [] l)).flatMap (fun g => lineR (g.1 : Int) g.2)
/-- What holds within the inner loop. -/
def RInv (w : World) (bp gL : Nat) (va vo : Value) (rows : List (List UInt8)) (out : List S40) (fr : Nat) (tx : List UInt8) (rc : Bool) (W : World) : Prop :=
  Kd.R Kd.string 9 W w.heap.size (fun k => k < gL) va (rows.map B) ∧ Kd.R k40 40 W w.heap.size (fun k => k < gL) vo out
    ∧ W.heap[gL]? = some (.cells #[.int .i64 (fr : Int), .string (B tx), .bool rc] 40 (0, 0)) ∧ Below w.heap.size w W ∧ w.heap.size ≤ gL
section
variable {w W W1 : World} {bp gL : Nat} {va vo : Value} {rows : List (List UInt8)} {out : List S40} {fr : Nat} {tx tx1 : List UInt8} {rc : Bool}
theorem RInv.below (h : RInv w bp gL va vo rows out fr tx rc W) (hb : Below W.heap.size W W1) : RInv w bp gL va vo rows out fr tx rc W1 := by
  obtain ⟨h1, h2, h3, h4, h5⟩ := h
  exact ⟨Kd.R_below h1 hb, Kd.R_below h2 hb, blk_below h3 hb, below_step h4 hb, h5⟩
theorem RInv.set (h : RInv w bp gL va vo rows out fr tx rc W) (u : ByteArray) (hu : u = B tx1) : RInv w bp gL va vo rows out fr tx1 rc (W.setCell ⟨gL, 1, none⟩ (.string u)) := by
  subst hu
  obtain ⟨h1, h2, h3, h4, h5⟩ := h
  exact ⟨Kd.R_far h1 (fun k hk => Nat.ne_of_lt hk) _, Kd.R_far h2 (fun k hk => Nat.ne_of_lt hk) _, blk_put h3 1 _ rfl, below_set h4 h5, h5⟩
end

theorem recU_snoc (pa : List (List UInt8)) (p : List UInt8) (h : pa ≠ []) : recU (pa ++ [p]) = recU pa := by
  cases pa with
  | nil => exact absurd rfl h
  | cons a pa => rw [List.cons_append, recU_cons, recU_cons]
theorem sum_drop_le (A : List (List UInt8)) (i : Nat) : ((A.drop i).map List.length).sum ≤ (A.map List.length).sum := by
  induction A generalizing i with
  | nil => simp
  | cons x A ih =>
    cases i with
    | zero => simp
    | succ i => have := ih i; rw [List.drop_succ_cons, List.map_cons, List.sum_cons]; omega
theorem cut_way (row2 : List UInt8) : ((B row2).size = 0 ∧ (cutB row2).2 = false) ∨ ∃ (n : Nat) (hn : n < (B row2).size) (y : UInt8), (B row2).size = n + 1 ∧ (B row2)[n]'hn = y ∧ (((y.toNat : Int)) == 92) = (cutB row2).2 ∧ ((cutB row2).2 = true → (B row2).extract 0 n = B (cutB row2).1) := by
  cases hr : row2.reverse with
  | nil =>
    have : row2 = [] := by simpa using hr
    subst this
    exact .inl ⟨rfl, rfl⟩
  | cons c m =>
    have hrow : row2 = m.reverse ++ [c] := by
      have := congrArg List.reverse hr
      simpa using this
    have hl : row2.length = m.length + 1 := by rw [hrow]; simp
    have hlast : row2.getLast? = some c := by rw [hrow]; simp
    have hn : m.length < (B row2).size := by rw [B_size, hl]; omega
    have hcut : (cutB row2).2 = decide (c = 92) := by
      unfold cutB
      rw [hlast]
      by_cases hc : c = 92 <;> simp [hc]
    refine .inr ⟨m.length, hn, c, by rw [B_size, hl], ?_, ?_, ?_⟩
    · rw [getK row2 m.length (by omega)]
      simp [hrow]
    · rw [show (92 : Int) = ((92 : Nat) : Int) from rfl, beqK c 92 (by decide), hcut]; rfl
    · intro h
      rw [hcut, decide_eq_true_eq] at h
      unfold cutB
      rw [hlast, if_pos (by rw [h]), B_extract, hrow]
      simp
/-- What the rounds of the inner loop still owe: rows from j on, with the parts so far. -/
def RG (rows : List (List UInt8)) (R out : List S40) (i L : Nat) (rc mo : Bool) (j : Nat) (pa : List (List UInt8)) : Prop :=
  (mo = true → j < rows.length ∧ out ++ (joinS j (i + 1) pa (rows.drop j)).flatMap (fun g => lineR (g.1 : Int) g.2) = R ∧ ∀ r rs, rows.drop j = r :: rs → ∀ p, (p = r ∨ p = (cutB r).1) → recU (pa ++ [p]) = rc)
  ∧ (mo = false → i < j ∧ out ++ (lineR ((i + 1 : Nat) : Int) pa ++ (joinS j (j + 1) [] (rows.drop j)).flatMap (fun g => lineR (g.1 : Int) g.2)) = R ∧ recU pa = rc)
  ∧ i ≤ j ∧ pa.length ≤ j ∧ (pa.map List.length).sum + ((rows.drop j).map List.length).sum ≤ L
set_option maxRecDepth 100000 in
set_option maxHeartbeats 40000000 in
theorem refOf_calls (l : List UInt8) (w : World) (hl : l.length < 1048576) :
    Calls Tryd.prog 20 #[.string (B l)] w fun e w' => ∃ v0_ : Value, e = .returned (v0_) ∧ Kd.R k40 40 w' w.heap.size (fun _ => True) v0_ (linesR l) ∧ Below w.heap.size w w' := by
  obtain ⟨R, hR⟩ : ∃ R, linesR l = R := ⟨_, rfl⟩
  have hR1 : (joinS 0 1 [] (rowA [] l)).flatMap (fun g => lineR (g.1 : Int) g.2) = R := hR
  rw [hR]
  have infoR : (Tryd.prog.info? 40).map (fun i => (i.zero, i.size, i.bytes)) = some (some (.agg #[(.int .i64 0), (.string ⟨#[]⟩), (.bool false)]), 3, 32) := by kernel_rfl
  obtain ⟨kR, hkR⟩ := (refRows_ev l (by omega)).get
  have hsum := rowA_sum l []
  have hlen := rowA_len l []
  have hrne := rowA_ne l []
  obtain ⟨rows, hrows⟩ : ∃ x, rowA [] l = x := ⟨_, rfl⟩
  rw [hrows] at hkR hsum hlen hR1 hrne
  have HR1 := Aside0.mk hR1
  have HK := Aside0.mk hkR
  have HSUM := Aside0.mk hsum
  clear hR hR1 hkR hsum hrows
  go_enter Tryd.func20, Tryd.ntmps20
  go_wp2_with (go_at_call 64; refine (flatironref08_Rows.calls kR _ _ _ HK.out).mono ?_; rintro e1 w1 ⟨va, rfl, hRa, hb1⟩; obtain ⟨Aa, ca, eva⟩ := Kd.R_slice hRa; subst eva)
  have hnl : (rows.map B).length = rows.length := List.length_map _
  have hne : 0 < (rows.map B).length := by rw [List.length_map]; exact List.length_pos_iff.2 hrne
  obtain ⟨b, o, e', _, _⟩ := reads_cells (Kd.R_reads' hRa).2.2 hne
  subst e'
  rw [hnl] at hRa
  have HA0 := Aside0.mk (Kd.R_mono (Kd.R_bound hRa) (ok' := fun k => True) (fun _ _ => trivial))
  have HW0 := Aside0.mk hb1
  clear hRa hb1
  go_loopg [3, 5] (rows.length + 1) (fun g v3 v5 wr => ∃ (i : Nat) (out : List S40), v5 = .int .i64 (i : Int) ∧ i ≤ rows.length ∧ rows.length - i < g
    ∧ Aside0 (Kd.R Kd.string 9 wr w.heap.size (fun _ => True) (.slice (some ⟨b, o, none⟩) rows.length ca) (rows.map B)) ∧ Aside0 (Kd.R k40 40 wr w.heap.size (fun _ => True) v3 out) ∧ Aside0 (Below w.heap.size w wr)
    ∧ Aside0 (out ++ (joinS i (i + 1) [] (rows.drop i)).flatMap (fun g => lineR (g.1 : Int) g.2) = R) ∧ Aside0 (out.length ≤ i))
  case atStart => exact ⟨0, [], rfl, by omega, by omega, HA0, ⟨Kd.R_nil _ _ _ _ _⟩, HW0, HR1, ⟨by simp⟩⟩
  case round =>
    obtain ⟨i, out, rfl, hi, hg, HA, HO, HW, HR, HN⟩ := hrel
    obtain ⟨Ao, co, evo⟩ := Kd.R_slice HO.out
    subst evo
    by_cases hlt : i < rows.length
    · have hcell := R_cell HA.out i (by rw [hnl]; exact hlt)
      rw [List.getElem_map] at hcell
      obtain ⟨row, hrow⟩ : ∃ x, rows[i] = x := ⟨_, rfl⟩
      rw [hrow] at hcell
      have HROW := Aside0.mk hrow
      obtain ⟨rc, hrc⟩ : ∃ x, decide (row.head? = some 9) = x := ⟨_, rfl⟩
      have HREC := Aside0.mk hrc
      have way : (B row).size = 0 ∧ rc = false ∨ ∃ (h : 0 < (B row).size) (x : UInt8), (B row)[0]'h = x ∧ (((x.toNat : Int)) == 9) = rc := by
        cases row with
        | nil => left; exact ⟨by rw [B_size]; rfl, hrc.symm⟩
        | cons y m =>
          right
          refine ⟨by rw [B_size]; simp, y, getK (y :: m) 0 (by simp) _, ?_⟩
          rw [show (9 : Int) = ((9 : Nat) : Int) from rfl, beqK y 9 (by decide), ← hrc]
          simp
      clear hrow hrc
      obtain ⟨go, hgo⟩ : ∃ x, gk = x := ⟨_, rfl⟩
      rw [hgo] at hg
      have HG := Aside0.mk hgo
      clear hgo
      have start : ∀ gL, wr.heap.size = gL → Aside0 (RInv w 0 gL (.slice (some ⟨b, o, none⟩) rows.length ca) (.slice Ao out.length co) rows out (i + 1) (putU []) rc (wr.alloc (.cells #[.int .i64 ((i : Int) + 1), .string ⟨#[]⟩, .bool rc] 40))) := by
        rintro gL rfl
        exact ⟨Kd.R_alloc (Kd.R_mono (Kd.R_bound HA.out) (fun k hk => hk.2.2.1)) _, Kd.R_alloc (Kd.R_mono (Kd.R_bound HO.out) (fun k hk => hk.2.2.1)) _, by have := blk_new wr (.cells #[.int .i64 ((i : Int) + 1), .string ⟨#[]⟩, .bool rc] 40 (0, 0)); exact this, below_alloc HW.out _, HW.out.size⟩
      obtain ⟨gL, hgL⟩ : ∃ x, wr.heap.size = x := ⟨_, rfl⟩
      have HST := start gL hgL
      clear start
      have HBND := Aside0.mk HSUM.out
      have HBND := Aside0.mk HSUM.out
      have HBND := Aside0.mk HSUM.out
      have HBND := Aside0.mk HSUM.out
      have HBND := Aside0.mk HSUM.out
      have HBND := Aside0.mk HSUM.out
      have HBND := Aside0.mk HSUM.out
      have HGG := Aside0.mk hg
      have HBND := Aside0.mk HSUM.out
      have HGG := Aside0.mk hg
      have HBND := Aside0.mk HSUM.out
      have HGG := Aside0.mk hg
      have HBND := Aside0.mk HSUM.out
      have HGG := Aside0.mk hg
      have HBND := Aside0.mk HSUM.out
      have HGG := Aside0.mk hg
      have HBND := Aside0.mk HSUM.out
      have HGG := Aside0.mk hg
      have HBND := Aside0.mk HSUM.out
      have HGG := Aside0.mk hg
      have HBND := Aside0.mk HSUM.out
      have HGG := Aside0.mk hg
      have HBND := Aside0.mk HSUM.out
      have HGG := Aside0.mk hg
      have HBND := Aside0.mk HSUM.out
      have HGG := Aside0.mk hg
      have HBND := Aside0.mk HSUM.out
      have HGG := Aside0.mk hg
      rcases way with ⟨hs0, hrf⟩ | ⟨hs0, x, hx, q9⟩
      · subst hrf
        go_wp2
        go_loopg [5, 7] (rows.length + 1) (fun g v5 v7 wr => ∃ (j : Nat) (mo : Bool) (pa : List (List UInt8)), v5 = .int .i64 (j : Int) ∧ v7 = .bool mo ∧ j ≤ rows.length ∧ rows.length - j < g
          ∧ Aside0 (RInv w 0 gL (.slice (some ⟨b, o, none⟩) rows.length ca) (.slice Ao out.length co) rows out (i + 1) (putU pa) false wr)
          ∧ Aside0 (RG rows R out i l.length false mo j pa))
        case atStart =>
          refine ⟨i, true, [], rfl, rfl, by omega, by omega, HST, ⟨⟨(fun _ => ⟨hlt, HR.out, ?_⟩), (fun h => by cases h), Nat.le_refl _, by simp, ?_⟩⟩⟩
          · intro r rs hrs p hp
            rw [drop_get rows i hlt, HROW.out] at hrs
            injection hrs with hrs _
            subst hrs
            rw [List.nil_append, recU_cons, ← HREC.out]
            rcases hp with rfl | rfl
            · rfl
            · exact decide_eq_decide.2 (Iff.of_eq (head_cut row))
          · have := HBND.out
            simpa using Nat.le_trans (sum_drop_le rows i) this
        case round =>
          obtain ⟨j, mo, pa, rfl, rfl, hj0, hg2, HJ, HGH⟩ := hrel
          have HB := Aside0.mk HGH.out.2.2
          cases mo with
          | true =>
            have HM := Aside0.mk (HGH.out.1 rfl)
            clear HGH
            have hj := HM.out.1
            have hcell2 := R_cell HJ.out.1 j (by rw [hnl]; exact hj)
            rw [List.getElem_map] at hcell2
            obtain ⟨row2, hrow2⟩ : ∃ x, rows[j] = x := ⟨_, rfl⟩
            rw [hrow2] at hcell2
            have HROW2 := Aside0.mk hrow2
            clear hrow2
            have way : ((B row2).size = 0 ∧ (cutB row2).2 = false) ∨ ∃ (n : Nat) (hn : n < (B row2).size) (y : UInt8), (B row2).size = n + 1 ∧ (B row2)[n]'hn = y ∧ (((y.toNat : Int)) == 92) = (cutB row2).2 ∧ ((cutB row2).2 = true → (B row2).extract 0 n = B (cutB row2).1) := cut_way row2
            generalize hrb : B row2 = rb at hcell2 way
            have HRB := Aside0.mk hrb
            clear hrb
            rcases way with ⟨hs2, hc2⟩ | ⟨n, hn2, y, hs2, hy, q92, hx2⟩
            · have HMO := Aside0.mk (show ¬ ((cutB row2).2 = true ∧ rows.drop (j + 1) ≠ []) from fun h => by rw [hc2] at h; exact absurd h.1 (by decide))
              clear hc2

              have HPU := Aside0.mk (putU_snoc pa (row2))
              have HNX := Aside0.mk (show rows.drop j = row2 :: rows.drop (j + 1) by rw [drop_get rows j hj, HROW2.out])
              have hpl : row2.length ≤ row2.length := Nat.le_refl _
              have hsm := HB.out.2.2
              have hsn := HB.out.2.1
              have hij := HB.out.1
              rw [HNX.out] at hsm
              simp only [List.map_cons, List.sum_cons] at hsm
              have hpul := putU_len pa
              have htl := trimB_le (row2)
              obtain ⟨kT, hkT⟩ := (refTrim_ev (row2) (by omega)).get
              obtain ⟨tt, htt⟩ : ∃ x, trimB (row2) = x := ⟨_, rfl⟩
              obtain ⟨tx, htx⟩ : ∃ x, putU pa = x := ⟨_, rfl⟩
              obtain ⟨tn, htn⟩ : ∃ x, putU (pa ++ [row2]) = x := ⟨_, rfl⟩
              have HPU1 := HPU.out
              clear HPU
              rw [htt, htx, htn] at HPU1
              rw [htt] at hkT htl
              rw [htx] at hpul
              have HT := Aside0.mk (show flatironref04_Trim.f kT (rb) = some (B tt) from by rw [← HRB.out]; exact hkT)
              have J := Aside0.mk (show RInv w 0 gL _ _ rows out (i + 1) tx false _ from htx ▸ HJ.out)
              have HTN := Aside0.mk htn
              clear htt htx htn hkT HJ
              have hz1 : (B tt).toList.isEmpty = tt.isEmpty := by rw [B_toList]
              have hz2 : (B tx).toList.isEmpty = tx.isEmpty := by rw [B_toList]
              have hz3 : (B tt).size = tt.length := B_size tt
              have hz4 : (B tx).size = tx.length := B_size tx
              have hct1 : (9223372036854775807 < tx.length + tt.length) = False := eq_false (by omega)
              have hct2 : (9223372036854775807 < tx.length + 1) = False := eq_false (by omega)
              have hct3 : (9223372036854775807 < tx.length + 1 + tt.length) = False := eq_false (by omega)
              have REL := Aside0.mk (show RG rows R out i l.length false false (j + 1) (pa ++ [row2]) from ⟨(fun h => by cases h), fun _ => ⟨by omega, by rw [← HM.out.2.1, HNX.out, joinS_one _ _ _ _ _ HMO.out]; simp, HM.out.2.2 _ _ HNX.out _ (.inl rfl)⟩, by omega, by have := HB.out.2.1; rw [List.length_append, List.length_singleton]; omega, by simp only [List.map_append, List.sum_append, List.map_cons, List.map_nil, List.sum_cons, List.sum_nil, List.length_append, List.length_singleton]; omega⟩)
              by_cases he1 : tt = []
              · have hy1 : tt.isEmpty = true := by rw [he1]; rfl
                rw [if_neg (fun h => h.1 he1)] at HPU1
                have HP := Aside0.mk HPU1
                clear HPU1 he1
                go_wp2_with (first | (go_at_call 65; refine (flatironref04_Trim.calls kT _ _ _ HT.out).mono ?_; rintro e2 w2 ⟨rfl, hd2⟩; have J2 := Aside0.mk (J.out.below hd2.below); have bk2 := J2.out.2.2.1; have cz0 := blk_cell bk2 0; have cz1 := blk_cell bk2 1; have cz2 := blk_cell bk2 2; have cf1 := blk_frozen bk2 1))
                have J3 := Aside0.mk (J2.out.set (tx1 := tn) (B tx ++ B tt) (by rw [B_append, HP.out]))
                go_roundg (gk - 1)
                case measure => omega
                case rel => exact ⟨j + 1, false, pa ++ [row2], by go_num, by rfl, by omega, by omega, ⟨HTN.out ▸ J3.out⟩, REL⟩
              · have hy1 : tt.isEmpty = false := List.isEmpty_eq_false_iff.2 he1
                by_cases he2 : tx = []
                · have hy2 : tx.isEmpty = true := by rw [he2]; rfl
                  rw [if_neg (fun h => h.2 he2)] at HPU1
                  have HP := Aside0.mk HPU1
                  clear HPU1 he1 he2
                  go_wp2_with (first | (go_at_call 65; refine (flatironref04_Trim.calls kT _ _ _ HT.out).mono ?_; rintro e2 w2 ⟨rfl, hd2⟩; have J2 := Aside0.mk (J.out.below hd2.below); have bk2 := J2.out.2.2.1; have cz0 := blk_cell bk2 0; have cz1 := blk_cell bk2 1; have cz2 := blk_cell bk2 2; have cf1 := blk_frozen bk2 1))
                  have J3 := Aside0.mk (J2.out.set (tx1 := tn) (B tx ++ B tt) (by rw [B_append, HP.out]))
                  go_roundg (gk - 1)
                  case measure => omega
                  case rel => exact ⟨j + 1, false, pa ++ [row2], by go_num, by rfl, by omega, by omega, ⟨HTN.out ▸ J3.out⟩, REL⟩
                · have hy2 : tx.isEmpty = false := List.isEmpty_eq_false_iff.2 he2
                  rw [if_pos ⟨he1, he2⟩] at HPU1
                  have HP := Aside0.mk HPU1
                  clear HPU1 he1 he2
                  go_wp2_with (first | (go_at_call 65; refine (flatironref04_Trim.calls kT _ _ _ HT.out).mono ?_; rintro e2 w2 ⟨rfl, hd2⟩; have J2 := Aside0.mk (J.out.below hd2.below); have bk2 := J2.out.2.2.1; have cz0 := blk_cell bk2 0; have cz1 := blk_cell bk2 1; have cz2 := blk_cell bk2 2; have cf1 := blk_frozen bk2 1))
                  have J3 := Aside0.mk ((J2.out.set (tx1 := tx ++ [32]) (B tx ++ ⟨#[32]⟩) (by rw [show (⟨#[32]⟩ : ByteArray) = B [32] from rfl, B_append])).set (tx1 := tn) (B tx ++ ⟨#[32]⟩ ++ B tt) (by rw [show (⟨#[32]⟩ : ByteArray) = B [32] from rfl, B_append, B_append, HP.out]))
                  go_roundg (gk - 1)
                  case measure => omega
                  case rel => exact ⟨j + 1, false, pa ++ [row2], by go_num, by rfl, by omega, by omega, ⟨HTN.out ▸ J3.out⟩, REL⟩

            · obtain ⟨cc, hcc⟩ : ∃ x, (cutB row2).2 = x := ⟨_, rfl⟩
              rw [hcc] at q92 hx2
              have HCC := Aside0.mk hcc
              clear hcc
              cases cc with
              | false =>
                have HMO := Aside0.mk (show ¬ ((cutB row2).2 = true ∧ rows.drop (j + 1) ≠ []) from fun h => by rw [HCC.out] at h; exact absurd h.1 (by decide))
                clear hx2

                have HPU := Aside0.mk (putU_snoc pa (row2))
                have HNX := Aside0.mk (show rows.drop j = row2 :: rows.drop (j + 1) by rw [drop_get rows j hj, HROW2.out])
                have hpl : row2.length ≤ row2.length := Nat.le_refl _
                have hsm := HB.out.2.2
                have hsn := HB.out.2.1
                have hij := HB.out.1
                rw [HNX.out] at hsm
                simp only [List.map_cons, List.sum_cons] at hsm
                have hsz_ : row2.length = n + 1 := by have := B_size row2; rw [HRB.out] at this; omega
                obtain ⟨ji, hji⟩ : ∃ x : Int, wrap64 ((rb.size : Int) - 1) = x := ⟨_, rfl⟩
                have hjv : ji = (n : Int) := by rw [← hji, hs2]; unfold wrap64; omega
                have hjw : IntKind.i64.wrap ((rb.size : Int) - 1) = ji := (i64_w _).trans hji
                have k0 := eq_true (show 0 ≤ ji by omega)
                have k1 := eq_true (show ji < (rb.size : Int) by omega)
                have k2 := eq_true (show ji ≤ (rb.size : Int) by omega)
                have k0b := decide_eq_true (show 0 ≤ ji by omega)
                have k1b := decide_eq_true (show ji < (rb.size : Int) by omega)
                have k2b := decide_eq_true (show ji ≤ (rb.size : Int) by omega)
                have k3 : (0 : Nat) < rb.size := by omega
                have k4 := eq_true (show (rb.size : Int) > 0 by omega)
                have k4b := decide_eq_true (show (rb.size : Int) > 0 by omega)
                have hjt : ji.toNat = n := by omega
                have hjm : ji.toNat < rb.size := by omega
                have hyj : rb[ji.toNat]'hjm = y := by rw [← hy]; congr 1
                clear hs2 hy hjv hjt hsz_ hn2
                have hpul := putU_len pa
                have htl := trimB_le (row2)
                obtain ⟨kT, hkT⟩ := (refTrim_ev (row2) (by omega)).get
                obtain ⟨tt, htt⟩ : ∃ x, trimB (row2) = x := ⟨_, rfl⟩
                obtain ⟨tx, htx⟩ : ∃ x, putU pa = x := ⟨_, rfl⟩
                obtain ⟨tn, htn⟩ : ∃ x, putU (pa ++ [row2]) = x := ⟨_, rfl⟩
                have HPU1 := HPU.out
                clear HPU
                rw [htt, htx, htn] at HPU1
                rw [htt] at hkT htl
                rw [htx] at hpul
                have HT := Aside0.mk (show flatironref04_Trim.f kT (rb) = some (B tt) from by rw [← HRB.out]; exact hkT)
                have J := Aside0.mk (show RInv w 0 gL _ _ rows out (i + 1) tx false _ from htx ▸ HJ.out)
                have HTN := Aside0.mk htn
                clear htt htx htn hkT HJ
                have hz1 : (B tt).toList.isEmpty = tt.isEmpty := by rw [B_toList]
                have hz2 : (B tx).toList.isEmpty = tx.isEmpty := by rw [B_toList]
                have hz3 : (B tt).size = tt.length := B_size tt
                have hz4 : (B tx).size = tx.length := B_size tx
                have hct1 : (9223372036854775807 < tx.length + tt.length) = False := eq_false (by omega)
                have hct2 : (9223372036854775807 < tx.length + 1) = False := eq_false (by omega)
                have hct3 : (9223372036854775807 < tx.length + 1 + tt.length) = False := eq_false (by omega)
                have REL := Aside0.mk (show RG rows R out i l.length false false (j + 1) (pa ++ [row2]) from ⟨(fun h => by cases h), fun _ => ⟨by omega, by rw [← HM.out.2.1, HNX.out, joinS_one _ _ _ _ _ HMO.out]; simp, HM.out.2.2 _ _ HNX.out _ (.inl rfl)⟩, by omega, by have := HB.out.2.1; rw [List.length_append, List.length_singleton]; omega, by simp only [List.map_append, List.sum_append, List.map_cons, List.map_nil, List.sum_cons, List.sum_nil, List.length_append, List.length_singleton]; omega⟩)
                by_cases he1 : tt = []
                · have hy1 : tt.isEmpty = true := by rw [he1]; rfl
                  rw [if_neg (fun h => h.1 he1)] at HPU1
                  have HP := Aside0.mk HPU1
                  clear HPU1 he1
                  go_wp2_with (first | (go_at_call 65; refine (flatironref04_Trim.calls kT _ _ _ HT.out).mono ?_; rintro e2 w2 ⟨rfl, hd2⟩; have J2 := Aside0.mk (J.out.below hd2.below); have bk2 := J2.out.2.2.1; have cz0 := blk_cell bk2 0; have cz1 := blk_cell bk2 1; have cz2 := blk_cell bk2 2; have cf1 := blk_frozen bk2 1))
                  have J3 := Aside0.mk (J2.out.set (tx1 := tn) (B tx ++ B tt) (by rw [B_append, HP.out]))
                  go_roundg (gk - 1)
                  case measure => omega
                  case rel => exact ⟨j + 1, false, pa ++ [row2], by go_num, by rfl, by omega, by omega, ⟨HTN.out ▸ J3.out⟩, REL⟩
                · have hy1 : tt.isEmpty = false := List.isEmpty_eq_false_iff.2 he1
                  by_cases he2 : tx = []
                  · have hy2 : tx.isEmpty = true := by rw [he2]; rfl
                    rw [if_neg (fun h => h.2 he2)] at HPU1
                    have HP := Aside0.mk HPU1
                    clear HPU1 he1 he2
                    go_wp2_with (first | (go_at_call 65; refine (flatironref04_Trim.calls kT _ _ _ HT.out).mono ?_; rintro e2 w2 ⟨rfl, hd2⟩; have J2 := Aside0.mk (J.out.below hd2.below); have bk2 := J2.out.2.2.1; have cz0 := blk_cell bk2 0; have cz1 := blk_cell bk2 1; have cz2 := blk_cell bk2 2; have cf1 := blk_frozen bk2 1))
                    have J3 := Aside0.mk (J2.out.set (tx1 := tn) (B tx ++ B tt) (by rw [B_append, HP.out]))
                    go_roundg (gk - 1)
                    case measure => omega
                    case rel => exact ⟨j + 1, false, pa ++ [row2], by go_num, by rfl, by omega, by omega, ⟨HTN.out ▸ J3.out⟩, REL⟩
                  · have hy2 : tx.isEmpty = false := List.isEmpty_eq_false_iff.2 he2
                    rw [if_pos ⟨he1, he2⟩] at HPU1
                    have HP := Aside0.mk HPU1
                    clear HPU1 he1 he2
                    go_wp2_with (first | (go_at_call 65; refine (flatironref04_Trim.calls kT _ _ _ HT.out).mono ?_; rintro e2 w2 ⟨rfl, hd2⟩; have J2 := Aside0.mk (J.out.below hd2.below); have bk2 := J2.out.2.2.1; have cz0 := blk_cell bk2 0; have cz1 := blk_cell bk2 1; have cz2 := blk_cell bk2 2; have cf1 := blk_frozen bk2 1))
                    have J3 := Aside0.mk ((J2.out.set (tx1 := tx ++ [32]) (B tx ++ ⟨#[32]⟩) (by rw [show (⟨#[32]⟩ : ByteArray) = B [32] from rfl, B_append])).set (tx1 := tn) (B tx ++ ⟨#[32]⟩ ++ B tt) (by rw [show (⟨#[32]⟩ : ByteArray) = B [32] from rfl, B_append, B_append, HP.out]))
                    go_roundg (gk - 1)
                    case measure => omega
                    case rel => exact ⟨j + 1, false, pa ++ [row2], by go_num, by rfl, by omega, by omega, ⟨HTN.out ▸ J3.out⟩, REL⟩

              | true =>
                have hx3 := hx2 rfl
                clear hx2
                by_cases hj1 : j + 1 < rows.length
                · have HMO := Aside0.mk (show (cutB row2).2 = true ∧ rows.drop (j + 1) ≠ [] from ⟨HCC.out, fun e => by have := congrArg List.length e; simp at this; omega⟩)
                  have hi1 : decide ((j : Int) + 1 < (rows.length : Int)) = true := decide_eq_true (by omega)
                  obtain ⟨xx, hxx⟩ : ∃ x, rb.extract 0 n = x := ⟨_, rfl⟩
                  rw [hxx] at hx3
                  have hpl : (cutB row2).1.length ≤ row2.length := cutB_len row2
                  obtain ⟨pt, hpt⟩ : ∃ x, (cutB row2).1 = x := ⟨_, rfl⟩
                  rw [hpt] at hx3 hpl
                  have HPT := Aside0.mk hpt
                  clear hpt
                  have HX3 := Aside0.mk hx3
                  clear hx3

                  have HPU := Aside0.mk (putU_snoc pa (pt))
                  have HNX := Aside0.mk (show rows.drop j = row2 :: rows.drop (j + 1) by rw [drop_get rows j hj, HROW2.out])
                  have hsm := HB.out.2.2
                  have hsn := HB.out.2.1
                  have hij := HB.out.1
                  rw [HNX.out] at hsm
                  simp only [List.map_cons, List.sum_cons] at hsm
                  have hsz_ : row2.length = n + 1 := by have := B_size row2; rw [HRB.out] at this; omega
                  obtain ⟨ji, hji⟩ : ∃ x : Int, wrap64 ((rb.size : Int) - 1) = x := ⟨_, rfl⟩
                  have hjv : ji = (n : Int) := by rw [← hji, hs2]; unfold wrap64; omega
                  have hjw : IntKind.i64.wrap ((rb.size : Int) - 1) = ji := (i64_w _).trans hji
                  have k0 := eq_true (show 0 ≤ ji by omega)
                  have k1 := eq_true (show ji < (rb.size : Int) by omega)
                  have k2 := eq_true (show ji ≤ (rb.size : Int) by omega)
                  have k0b := decide_eq_true (show 0 ≤ ji by omega)
                  have k1b := decide_eq_true (show ji < (rb.size : Int) by omega)
                  have k2b := decide_eq_true (show ji ≤ (rb.size : Int) by omega)
                  have k3 : (0 : Nat) < rb.size := by omega
                  have k4 := eq_true (show (rb.size : Int) > 0 by omega)
                  have k4b := decide_eq_true (show (rb.size : Int) > 0 by omega)
                  have hjt : ji.toNat = n := by omega
                  have hjm : ji.toNat < rb.size := by omega
                  have hyj : rb[ji.toNat]'hjm = y := by rw [← hy]; congr 1
                  have hxj : rb.extract 0 ji.toNat = xx := by rw [hjt]; exact hxx
                  clear hxx
                  clear hs2 hy hjv hjt hsz_ hn2
                  have hpul := putU_len pa
                  have htl := trimB_le (pt)
                  obtain ⟨kT, hkT⟩ := (refTrim_ev (pt) (by omega)).get
                  obtain ⟨tt, htt⟩ : ∃ x, trimB (pt) = x := ⟨_, rfl⟩
                  obtain ⟨tx, htx⟩ : ∃ x, putU pa = x := ⟨_, rfl⟩
                  obtain ⟨tn, htn⟩ : ∃ x, putU (pa ++ [pt]) = x := ⟨_, rfl⟩
                  have HPU1 := HPU.out
                  clear HPU
                  rw [htt, htx, htn] at HPU1
                  rw [htt] at hkT htl
                  rw [htx] at hpul
                  have HT := Aside0.mk (show flatironref04_Trim.f kT (xx) = some (B tt) from by rw [HX3.out]; exact hkT)
                  have J := Aside0.mk (show RInv w 0 gL _ _ rows out (i + 1) tx false _ from htx ▸ HJ.out)
                  have HTN := Aside0.mk htn
                  clear htt htx htn hkT HJ
                  have hz1 : (B tt).toList.isEmpty = tt.isEmpty := by rw [B_toList]
                  have hz2 : (B tx).toList.isEmpty = tx.isEmpty := by rw [B_toList]
                  have hz3 : (B tt).size = tt.length := B_size tt
                  have hz4 : (B tx).size = tx.length := B_size tx
                  have hct1 : (9223372036854775807 < tx.length + tt.length) = False := eq_false (by omega)
                  have hct2 : (9223372036854775807 < tx.length + 1) = False := eq_false (by omega)
                  have hct3 : (9223372036854775807 < tx.length + 1 + tt.length) = False := eq_false (by omega)
                  have REL := Aside0.mk (show RG rows R out i l.length false true (j + 1) (pa ++ [pt]) from ⟨fun _ => ⟨hj1, by rw [← HM.out.2.1, HNX.out, joinS_more _ _ _ _ _ HMO.out, HPT.out], fun r rs hrs p hp => by rw [recU_snoc _ _ (by simp)]; exact HM.out.2.2 _ _ HNX.out _ (.inr HPT.out.symm)⟩, (fun h => by cases h), by omega, by have := HB.out.2.1; rw [List.length_append, List.length_singleton]; omega, by simp only [List.map_append, List.sum_append, List.map_cons, List.map_nil, List.sum_cons, List.sum_nil, List.length_append, List.length_singleton]; omega⟩)
                  by_cases he1 : tt = []
                  · have hy1 : tt.isEmpty = true := by rw [he1]; rfl
                    rw [if_neg (fun h => h.1 he1)] at HPU1
                    have HP := Aside0.mk HPU1
                    clear HPU1 he1
                    go_wp2_with (first | (go_at_call 65; refine (flatironref04_Trim.calls kT _ _ _ HT.out).mono ?_; rintro e2 w2 ⟨rfl, hd2⟩; have J2 := Aside0.mk (J.out.below hd2.below); have bk2 := J2.out.2.2.1; have cz0 := blk_cell bk2 0; have cz1 := blk_cell bk2 1; have cz2 := blk_cell bk2 2; have cf1 := blk_frozen bk2 1))
                    have J3 := Aside0.mk (J2.out.set (tx1 := tn) (B tx ++ B tt) (by rw [B_append, HP.out]))
                    go_roundg (gk - 1)
                    case measure => omega
                    case rel => exact ⟨j + 1, true, pa ++ [pt], by go_num, by rfl, by omega, by omega, ⟨HTN.out ▸ J3.out⟩, REL⟩
                  · have hy1 : tt.isEmpty = false := List.isEmpty_eq_false_iff.2 he1
                    by_cases he2 : tx = []
                    · have hy2 : tx.isEmpty = true := by rw [he2]; rfl
                      rw [if_neg (fun h => h.2 he2)] at HPU1
                      have HP := Aside0.mk HPU1
                      clear HPU1 he1 he2
                      go_wp2_with (first | (go_at_call 65; refine (flatironref04_Trim.calls kT _ _ _ HT.out).mono ?_; rintro e2 w2 ⟨rfl, hd2⟩; have J2 := Aside0.mk (J.out.below hd2.below); have bk2 := J2.out.2.2.1; have cz0 := blk_cell bk2 0; have cz1 := blk_cell bk2 1; have cz2 := blk_cell bk2 2; have cf1 := blk_frozen bk2 1))
                      have J3 := Aside0.mk (J2.out.set (tx1 := tn) (B tx ++ B tt) (by rw [B_append, HP.out]))
                      go_roundg (gk - 1)
                      case measure => omega
                      case rel => exact ⟨j + 1, true, pa ++ [pt], by go_num, by rfl, by omega, by omega, ⟨HTN.out ▸ J3.out⟩, REL⟩
                    · have hy2 : tx.isEmpty = false := List.isEmpty_eq_false_iff.2 he2
                      rw [if_pos ⟨he1, he2⟩] at HPU1
                      have HP := Aside0.mk HPU1
                      clear HPU1 he1 he2
                      go_wp2_with (first | (go_at_call 65; refine (flatironref04_Trim.calls kT _ _ _ HT.out).mono ?_; rintro e2 w2 ⟨rfl, hd2⟩; have J2 := Aside0.mk (J.out.below hd2.below); have bk2 := J2.out.2.2.1; have cz0 := blk_cell bk2 0; have cz1 := blk_cell bk2 1; have cz2 := blk_cell bk2 2; have cf1 := blk_frozen bk2 1))
                      have J3 := Aside0.mk ((J2.out.set (tx1 := tx ++ [32]) (B tx ++ ⟨#[32]⟩) (by rw [show (⟨#[32]⟩ : ByteArray) = B [32] from rfl, B_append])).set (tx1 := tn) (B tx ++ ⟨#[32]⟩ ++ B tt) (by rw [show (⟨#[32]⟩ : ByteArray) = B [32] from rfl, B_append, B_append, HP.out]))
                      go_roundg (gk - 1)
                      case measure => omega
                      case rel => exact ⟨j + 1, true, pa ++ [pt], by go_num, by rfl, by omega, by omega, ⟨HTN.out ▸ J3.out⟩, REL⟩

                · have HMO := Aside0.mk (show ¬ ((cutB row2).2 = true ∧ rows.drop (j + 1) ≠ []) from fun h => h.2 (List.drop_eq_nil_of_le (by omega)))
                  have hi1 : decide ((j : Int) + 1 < (rows.length : Int)) = false := decide_eq_false (by omega)
                  clear hx3

                  have HPU := Aside0.mk (putU_snoc pa (row2))
                  have HNX := Aside0.mk (show rows.drop j = row2 :: rows.drop (j + 1) by rw [drop_get rows j hj, HROW2.out])
                  have hpl : row2.length ≤ row2.length := Nat.le_refl _
                  have hsm := HB.out.2.2
                  have hsn := HB.out.2.1
                  have hij := HB.out.1
                  rw [HNX.out] at hsm
                  simp only [List.map_cons, List.sum_cons] at hsm
                  have hsz_ : row2.length = n + 1 := by have := B_size row2; rw [HRB.out] at this; omega
                  obtain ⟨ji, hji⟩ : ∃ x : Int, wrap64 ((rb.size : Int) - 1) = x := ⟨_, rfl⟩
                  have hjv : ji = (n : Int) := by rw [← hji, hs2]; unfold wrap64; omega
                  have hjw : IntKind.i64.wrap ((rb.size : Int) - 1) = ji := (i64_w _).trans hji
                  have k0 := eq_true (show 0 ≤ ji by omega)
                  have k1 := eq_true (show ji < (rb.size : Int) by omega)
                  have k2 := eq_true (show ji ≤ (rb.size : Int) by omega)
                  have k0b := decide_eq_true (show 0 ≤ ji by omega)
                  have k1b := decide_eq_true (show ji < (rb.size : Int) by omega)
                  have k2b := decide_eq_true (show ji ≤ (rb.size : Int) by omega)
                  have k3 : (0 : Nat) < rb.size := by omega
                  have k4 := eq_true (show (rb.size : Int) > 0 by omega)
                  have k4b := decide_eq_true (show (rb.size : Int) > 0 by omega)
                  have hjt : ji.toNat = n := by omega
                  have hjm : ji.toNat < rb.size := by omega
                  have hyj : rb[ji.toNat]'hjm = y := by rw [← hy]; congr 1
                  clear hs2 hy hjv hjt hsz_ hn2
                  have hpul := putU_len pa
                  have htl := trimB_le (row2)
                  obtain ⟨kT, hkT⟩ := (refTrim_ev (row2) (by omega)).get
                  obtain ⟨tt, htt⟩ : ∃ x, trimB (row2) = x := ⟨_, rfl⟩
                  obtain ⟨tx, htx⟩ : ∃ x, putU pa = x := ⟨_, rfl⟩
                  obtain ⟨tn, htn⟩ : ∃ x, putU (pa ++ [row2]) = x := ⟨_, rfl⟩
                  have HPU1 := HPU.out
                  clear HPU
                  rw [htt, htx, htn] at HPU1
                  rw [htt] at hkT htl
                  rw [htx] at hpul
                  have HT := Aside0.mk (show flatironref04_Trim.f kT (rb) = some (B tt) from by rw [← HRB.out]; exact hkT)
                  have J := Aside0.mk (show RInv w 0 gL _ _ rows out (i + 1) tx false _ from htx ▸ HJ.out)
                  have HTN := Aside0.mk htn
                  clear htt htx htn hkT HJ
                  have hz1 : (B tt).toList.isEmpty = tt.isEmpty := by rw [B_toList]
                  have hz2 : (B tx).toList.isEmpty = tx.isEmpty := by rw [B_toList]
                  have hz3 : (B tt).size = tt.length := B_size tt
                  have hz4 : (B tx).size = tx.length := B_size tx
                  have hct1 : (9223372036854775807 < tx.length + tt.length) = False := eq_false (by omega)
                  have hct2 : (9223372036854775807 < tx.length + 1) = False := eq_false (by omega)
                  have hct3 : (9223372036854775807 < tx.length + 1 + tt.length) = False := eq_false (by omega)
                  have REL := Aside0.mk (show RG rows R out i l.length false false (j + 1) (pa ++ [row2]) from ⟨(fun h => by cases h), fun _ => ⟨by omega, by rw [← HM.out.2.1, HNX.out, joinS_one _ _ _ _ _ HMO.out]; simp, HM.out.2.2 _ _ HNX.out _ (.inl rfl)⟩, by omega, by have := HB.out.2.1; rw [List.length_append, List.length_singleton]; omega, by simp only [List.map_append, List.sum_append, List.map_cons, List.map_nil, List.sum_cons, List.sum_nil, List.length_append, List.length_singleton]; omega⟩)
                  by_cases he1 : tt = []
                  · have hy1 : tt.isEmpty = true := by rw [he1]; rfl
                    rw [if_neg (fun h => h.1 he1)] at HPU1
                    have HP := Aside0.mk HPU1
                    clear HPU1 he1
                    go_wp2_with (first | (go_at_call 65; refine (flatironref04_Trim.calls kT _ _ _ HT.out).mono ?_; rintro e2 w2 ⟨rfl, hd2⟩; have J2 := Aside0.mk (J.out.below hd2.below); have bk2 := J2.out.2.2.1; have cz0 := blk_cell bk2 0; have cz1 := blk_cell bk2 1; have cz2 := blk_cell bk2 2; have cf1 := blk_frozen bk2 1))
                    have J3 := Aside0.mk (J2.out.set (tx1 := tn) (B tx ++ B tt) (by rw [B_append, HP.out]))
                    go_roundg (gk - 1)
                    case measure => omega
                    case rel => exact ⟨j + 1, false, pa ++ [row2], by go_num, by rfl, by omega, by omega, ⟨HTN.out ▸ J3.out⟩, REL⟩
                  · have hy1 : tt.isEmpty = false := List.isEmpty_eq_false_iff.2 he1
                    by_cases he2 : tx = []
                    · have hy2 : tx.isEmpty = true := by rw [he2]; rfl
                      rw [if_neg (fun h => h.2 he2)] at HPU1
                      have HP := Aside0.mk HPU1
                      clear HPU1 he1 he2
                      go_wp2_with (first | (go_at_call 65; refine (flatironref04_Trim.calls kT _ _ _ HT.out).mono ?_; rintro e2 w2 ⟨rfl, hd2⟩; have J2 := Aside0.mk (J.out.below hd2.below); have bk2 := J2.out.2.2.1; have cz0 := blk_cell bk2 0; have cz1 := blk_cell bk2 1; have cz2 := blk_cell bk2 2; have cf1 := blk_frozen bk2 1))
                      have J3 := Aside0.mk (J2.out.set (tx1 := tn) (B tx ++ B tt) (by rw [B_append, HP.out]))
                      go_roundg (gk - 1)
                      case measure => omega
                      case rel => exact ⟨j + 1, false, pa ++ [row2], by go_num, by rfl, by omega, by omega, ⟨HTN.out ▸ J3.out⟩, REL⟩
                    · have hy2 : tx.isEmpty = false := List.isEmpty_eq_false_iff.2 he2
                      rw [if_pos ⟨he1, he2⟩] at HPU1
                      have HP := Aside0.mk HPU1
                      clear HPU1 he1 he2
                      go_wp2_with (first | (go_at_call 65; refine (flatironref04_Trim.calls kT _ _ _ HT.out).mono ?_; rintro e2 w2 ⟨rfl, hd2⟩; have J2 := Aside0.mk (J.out.below hd2.below); have bk2 := J2.out.2.2.1; have cz0 := blk_cell bk2 0; have cz1 := blk_cell bk2 1; have cz2 := blk_cell bk2 2; have cf1 := blk_frozen bk2 1))
                      have J3 := Aside0.mk ((J2.out.set (tx1 := tx ++ [32]) (B tx ++ ⟨#[32]⟩) (by rw [show (⟨#[32]⟩ : ByteArray) = B [32] from rfl, B_append])).set (tx1 := tn) (B tx ++ ⟨#[32]⟩ ++ B tt) (by rw [show (⟨#[32]⟩ : ByteArray) = B [32] from rfl, B_append, B_append, HP.out]))
                      go_roundg (gk - 1)
                      case measure => omega
                      case rel => exact ⟨j + 1, false, pa ++ [row2], by go_num, by rfl, by omega, by omega, ⟨HTN.out ▸ J3.out⟩, REL⟩

          | false =>
            have HM2 := Aside0.mk (HGH.out.2.1 rfl)
            have hpn := HGH.out.2.2.2.1
            have hsm := HGH.out.2.2.2.2
            clear HGH
            have hij := HM2.out.1
            have hpl := putU_len pa
            obtain ⟨tx, htx⟩ : ∃ x, putU pa = x := ⟨_, rfl⟩
            rw [htx] at hpl
            have HJ1 := HJ.out
            rw [htx] at HJ1
            have J := Aside0.mk HJ1
            have bk1 := J.out.2.2.1
            have cz0 := blk_cell bk1 0
            have cz1 := blk_cell bk1 1
            have cz2 := blk_cell bk1 2
            have cf1 := blk_frozen bk1 1
            clear bk1
            have htu : textU pa = trimB (bareA tx 0 []) := by unfold textU; rw [HM2.out.2.2, htx]; rfl
            obtain ⟨fx, hfx⟩ : ∃ x, trimB (bareA tx 0 []) = x := ⟨_, rfl⟩
            have hbl := bareA_len tx 0 []
            have htl := trimB_le (bareA tx 0 [])
            simp only [List.length_nil, Nat.zero_add, Nat.sub_zero] at hbl
            obtain ⟨kB, hkB⟩ := (refBare_ev tx (by omega)).get
            obtain ⟨kT, hkT⟩ := (refTrim_ev (bareA tx 0 []) (by omega)).get
            rw [hfx] at hkT htu htl
            have HKB := Aside0.mk hkB
            have HKT := Aside0.mk hkT
            have hlr : lineR ((i + 1 : Nat) : Int) pa = if fx = [] then [] else [⟨((i + 1 : Nat) : Int), B fx, false⟩] := by unfold lineR; rw [htu, HM2.out.2.2]
            clear HJ1 htx HJ htu hkB hkT hfx
            have hz2 : (B fx).toList.isEmpty = fx.isEmpty := by rw [B_toList]
            by_cases he2 : fx = []
            · have hy2 : fx.isEmpty = true := by rw [he2]; rfl
              rw [if_pos he2] at hlr
              have HLN := Aside0.mk hlr
              clear hlr he2
              go_wp2_with (first | (go_at_call 66; refine (flatironref08_bare.calls kB _ _ _ HKB.out).mono ?_; rintro e2 w2 ⟨rfl, hd2⟩; have J2 := Aside0.mk (J.out.below hd2.below); clear cz0 cz1 cz2 cf1 hd2) | (go_at_call 65; refine (flatironref04_Trim.calls kT _ _ _ HKT.out).mono ?_; rintro e3 w3 ⟨rfl, hd3⟩; have J3 := Aside0.mk (J2.out.below hd3.below); have bk3 := J3.out.2.2.1; have cz0 := blk_cell bk3 0; have cz1 := blk_cell bk3 1; have cz2 := blk_cell bk3 2; have cf1 := blk_frozen bk3 1; have J4 := Aside0.mk (J3.out.set (tx1 := fx) (B fx) rfl); clear bk3 hd3))
              go_roundg (go - 1)
              case measure => (have h1_ := HGG.out; have h2_ := HM2.out.1; have h3_ := HG.out; omega)
              case rel => exact ⟨j, out, by go_num, hj0, (by have h1_ := HGG.out; have h2_ := HM2.out.1; omega), ⟨Kd.R_mono J4.out.1 (fun _ _ => trivial)⟩, ⟨Kd.R_mono J4.out.2.1 (fun _ _ => trivial)⟩, ⟨J4.out.2.2.2.1⟩, ⟨by rw [← HM2.out.2.1, HLN.out]; simp⟩, ⟨by have := HN.out; simp; omega⟩⟩
            · have hy2 : fx.isEmpty = false := List.isEmpty_eq_false_iff.2 he2
              rw [if_neg he2] at hlr
              have HLN := Aside0.mk hlr
              clear hlr he2
              go_wp2_with (first | (go_at_call 66; refine (flatironref08_bare.calls kB _ _ _ HKB.out).mono ?_; rintro e2 w2 ⟨rfl, hd2⟩; have J2 := Aside0.mk (J.out.below hd2.below); clear cz0 cz1 cz2 cf1 hd2) | (go_at_call 65; refine (flatironref04_Trim.calls kT _ _ _ HKT.out).mono ?_; rintro e3 w3 ⟨rfl, hd3⟩; have J3 := Aside0.mk (J2.out.below hd3.below); have bk3 := J3.out.2.2.1; have cz0 := blk_cell bk3 0; have cz1 := blk_cell bk3 1; have cz2 := blk_cell bk3 2; have cf1 := blk_frozen bk3 1; have J4 := Aside0.mk (J3.out.set (tx1 := fx) (B fx) rfl); clear bk3 hd3) | ((with_reducible refine gate_builtin (b := .append) (xs := #[.tmp 93, .tmp 95]) rfl ?_); at_builtin; refine Kd.R_append k40 (w0 := w) w.heap.size rfl (.tmp 93) (.tmp 95) 36 40 (.agg #[.int .i64 0, .string ⟨#[]⟩, .bool false]) 32 rfl Tryd.underlying36 infoR rfl (by decide) (by omega) (.slice Ao out.length co) out (⟨((i + 1 : Nat) : Int), B fx, false⟩ : S40) [.int .i64 ((i + 1 : Nat) : Int), .string (B fx), .bool false] (fun _ => True) (fun _ => False) rfl (by first | (go_simp; done) | (go_simp; rfl)) (k40_mkM _ _ _ _) (fun _ hk => hk.elim) (fun _ _ => trivial) (Kd.R_mono J4.out.2.1 (fun _ _ => trivial)) J4.out.2.2.2.1 J4.out.2.2.2.1.size (by have := HN.out; omega) ?_; intro v1 w5 ho hb hg hat; have HO5 := Aside0.mk ho; have HW5 := Aside0.mk hb; have HA5 := Aside0.mk (R_grown_ty J4.out.1 hg (fun k hk => own_typed J4.out.2.1.2.choose_spec.1 k hk) (by decide)); clear ho hb hg hat))
              go_roundg (go - 1)
              case measure => (have h1_ := HGG.out; have h2_ := HM2.out.1; have h3_ := HG.out; omega)
              case rel => exact ⟨j, out ++ [⟨((i + 1 : Nat) : Int), B fx, false⟩], by go_num, hj0, (by have h1_ := HGG.out; have h2_ := HM2.out.1; omega), ⟨Kd.R_mono HA5.out (fun _ _ => trivial)⟩, ⟨HO5.out⟩, ⟨HW5.out⟩, ⟨by rw [← HM2.out.2.1, HLN.out]; simp⟩, ⟨by have := HN.out; simp; omega⟩⟩


      · cases rc with
        | true =>
          go_wp2
          go_loopg [5, 7] (rows.length + 1) (fun g v5 v7 wr => ∃ (j : Nat) (mo : Bool) (pa : List (List UInt8)), v5 = .int .i64 (j : Int) ∧ v7 = .bool mo ∧ j ≤ rows.length ∧ rows.length - j < g
            ∧ Aside0 (RInv w 0 gL (.slice (some ⟨b, o, none⟩) rows.length ca) (.slice Ao out.length co) rows out (i + 1) (putU pa) true wr)
            ∧ Aside0 (RG rows R out i l.length true mo j pa))
          case atStart =>
            refine ⟨i, true, [], rfl, rfl, by omega, by omega, HST, ⟨⟨(fun _ => ⟨hlt, HR.out, ?_⟩), (fun h => by cases h), Nat.le_refl _, by simp, ?_⟩⟩⟩
            · intro r rs hrs p hp
              rw [drop_get rows i hlt, HROW.out] at hrs
              injection hrs with hrs _
              subst hrs
              rw [List.nil_append, recU_cons, ← HREC.out]
              rcases hp with rfl | rfl
              · rfl
              · exact decide_eq_decide.2 (Iff.of_eq (head_cut row))
            · have := HBND.out
              simpa using Nat.le_trans (sum_drop_le rows i) this
          case round =>
            obtain ⟨j, mo, pa, rfl, rfl, hj0, hg2, HJ, HGH⟩ := hrel
            have HB := Aside0.mk HGH.out.2.2
            cases mo with
            | true =>
              have HM := Aside0.mk (HGH.out.1 rfl)
              clear HGH
              have hj := HM.out.1
              have hcell2 := R_cell HJ.out.1 j (by rw [hnl]; exact hj)
              rw [List.getElem_map] at hcell2
              obtain ⟨row2, hrow2⟩ : ∃ x, rows[j] = x := ⟨_, rfl⟩
              rw [hrow2] at hcell2
              have HROW2 := Aside0.mk hrow2
              clear hrow2
              have way : ((B row2).size = 0 ∧ (cutB row2).2 = false) ∨ ∃ (n : Nat) (hn : n < (B row2).size) (y : UInt8), (B row2).size = n + 1 ∧ (B row2)[n]'hn = y ∧ (((y.toNat : Int)) == 92) = (cutB row2).2 ∧ ((cutB row2).2 = true → (B row2).extract 0 n = B (cutB row2).1) := cut_way row2
              generalize hrb : B row2 = rb at hcell2 way
              have HRB := Aside0.mk hrb
              clear hrb
              rcases way with ⟨hs2, hc2⟩ | ⟨n, hn2, y, hs2, hy, q92, hx2⟩
              · have HMO := Aside0.mk (show ¬ ((cutB row2).2 = true ∧ rows.drop (j + 1) ≠ []) from fun h => by rw [hc2] at h; exact absurd h.1 (by decide))
                clear hc2

                have HPU := Aside0.mk (putU_snoc pa (row2))
                have HNX := Aside0.mk (show rows.drop j = row2 :: rows.drop (j + 1) by rw [drop_get rows j hj, HROW2.out])
                have hpl : row2.length ≤ row2.length := Nat.le_refl _
                have hsm := HB.out.2.2
                have hsn := HB.out.2.1
                have hij := HB.out.1
                rw [HNX.out] at hsm
                simp only [List.map_cons, List.sum_cons] at hsm
                have hpul := putU_len pa
                have htl := trimB_le (row2)
                obtain ⟨kT, hkT⟩ := (refTrim_ev (row2) (by omega)).get
                obtain ⟨tt, htt⟩ : ∃ x, trimB (row2) = x := ⟨_, rfl⟩
                obtain ⟨tx, htx⟩ : ∃ x, putU pa = x := ⟨_, rfl⟩
                obtain ⟨tn, htn⟩ : ∃ x, putU (pa ++ [row2]) = x := ⟨_, rfl⟩
                have HPU1 := HPU.out
                clear HPU
                rw [htt, htx, htn] at HPU1
                rw [htt] at hkT htl
                rw [htx] at hpul
                have HT := Aside0.mk (show flatironref04_Trim.f kT (rb) = some (B tt) from by rw [← HRB.out]; exact hkT)
                have J := Aside0.mk (show RInv w 0 gL _ _ rows out (i + 1) tx true _ from htx ▸ HJ.out)
                have HTN := Aside0.mk htn
                clear htt htx htn hkT HJ
                have hz1 : (B tt).toList.isEmpty = tt.isEmpty := by rw [B_toList]
                have hz2 : (B tx).toList.isEmpty = tx.isEmpty := by rw [B_toList]
                have hz3 : (B tt).size = tt.length := B_size tt
                have hz4 : (B tx).size = tx.length := B_size tx
                have hct1 : (9223372036854775807 < tx.length + tt.length) = False := eq_false (by omega)
                have hct2 : (9223372036854775807 < tx.length + 1) = False := eq_false (by omega)
                have hct3 : (9223372036854775807 < tx.length + 1 + tt.length) = False := eq_false (by omega)
                have REL := Aside0.mk (show RG rows R out i l.length true false (j + 1) (pa ++ [row2]) from ⟨(fun h => by cases h), fun _ => ⟨by omega, by rw [← HM.out.2.1, HNX.out, joinS_one _ _ _ _ _ HMO.out]; simp, HM.out.2.2 _ _ HNX.out _ (.inl rfl)⟩, by omega, by have := HB.out.2.1; rw [List.length_append, List.length_singleton]; omega, by simp only [List.map_append, List.sum_append, List.map_cons, List.map_nil, List.sum_cons, List.sum_nil, List.length_append, List.length_singleton]; omega⟩)
                by_cases he1 : tt = []
                · have hy1 : tt.isEmpty = true := by rw [he1]; rfl
                  rw [if_neg (fun h => h.1 he1)] at HPU1
                  have HP := Aside0.mk HPU1
                  clear HPU1 he1
                  go_wp2_with (first | (go_at_call 65; refine (flatironref04_Trim.calls kT _ _ _ HT.out).mono ?_; rintro e2 w2 ⟨rfl, hd2⟩; have J2 := Aside0.mk (J.out.below hd2.below); have bk2 := J2.out.2.2.1; have cz0 := blk_cell bk2 0; have cz1 := blk_cell bk2 1; have cz2 := blk_cell bk2 2; have cf1 := blk_frozen bk2 1))
                  have J3 := Aside0.mk (J2.out.set (tx1 := tn) (B tx ++ B tt) (by rw [B_append, HP.out]))
                  go_roundg (gk - 1)
                  case measure => omega
                  case rel => exact ⟨j + 1, false, pa ++ [row2], by go_num, by rfl, by omega, by omega, ⟨HTN.out ▸ J3.out⟩, REL⟩
                · have hy1 : tt.isEmpty = false := List.isEmpty_eq_false_iff.2 he1
                  by_cases he2 : tx = []
                  · have hy2 : tx.isEmpty = true := by rw [he2]; rfl
                    rw [if_neg (fun h => h.2 he2)] at HPU1
                    have HP := Aside0.mk HPU1
                    clear HPU1 he1 he2
                    go_wp2_with (first | (go_at_call 65; refine (flatironref04_Trim.calls kT _ _ _ HT.out).mono ?_; rintro e2 w2 ⟨rfl, hd2⟩; have J2 := Aside0.mk (J.out.below hd2.below); have bk2 := J2.out.2.2.1; have cz0 := blk_cell bk2 0; have cz1 := blk_cell bk2 1; have cz2 := blk_cell bk2 2; have cf1 := blk_frozen bk2 1))
                    have J3 := Aside0.mk (J2.out.set (tx1 := tn) (B tx ++ B tt) (by rw [B_append, HP.out]))
                    go_roundg (gk - 1)
                    case measure => omega
                    case rel => exact ⟨j + 1, false, pa ++ [row2], by go_num, by rfl, by omega, by omega, ⟨HTN.out ▸ J3.out⟩, REL⟩
                  · have hy2 : tx.isEmpty = false := List.isEmpty_eq_false_iff.2 he2
                    rw [if_pos ⟨he1, he2⟩] at HPU1
                    have HP := Aside0.mk HPU1
                    clear HPU1 he1 he2
                    go_wp2_with (first | (go_at_call 65; refine (flatironref04_Trim.calls kT _ _ _ HT.out).mono ?_; rintro e2 w2 ⟨rfl, hd2⟩; have J2 := Aside0.mk (J.out.below hd2.below); have bk2 := J2.out.2.2.1; have cz0 := blk_cell bk2 0; have cz1 := blk_cell bk2 1; have cz2 := blk_cell bk2 2; have cf1 := blk_frozen bk2 1))
                    have J3 := Aside0.mk ((J2.out.set (tx1 := tx ++ [32]) (B tx ++ ⟨#[32]⟩) (by rw [show (⟨#[32]⟩ : ByteArray) = B [32] from rfl, B_append])).set (tx1 := tn) (B tx ++ ⟨#[32]⟩ ++ B tt) (by rw [show (⟨#[32]⟩ : ByteArray) = B [32] from rfl, B_append, B_append, HP.out]))
                    go_roundg (gk - 1)
                    case measure => omega
                    case rel => exact ⟨j + 1, false, pa ++ [row2], by go_num, by rfl, by omega, by omega, ⟨HTN.out ▸ J3.out⟩, REL⟩

              · obtain ⟨cc, hcc⟩ : ∃ x, (cutB row2).2 = x := ⟨_, rfl⟩
                rw [hcc] at q92 hx2
                have HCC := Aside0.mk hcc
                clear hcc
                cases cc with
                | false =>
                  have HMO := Aside0.mk (show ¬ ((cutB row2).2 = true ∧ rows.drop (j + 1) ≠ []) from fun h => by rw [HCC.out] at h; exact absurd h.1 (by decide))
                  clear hx2

                  have HPU := Aside0.mk (putU_snoc pa (row2))
                  have HNX := Aside0.mk (show rows.drop j = row2 :: rows.drop (j + 1) by rw [drop_get rows j hj, HROW2.out])
                  have hpl : row2.length ≤ row2.length := Nat.le_refl _
                  have hsm := HB.out.2.2
                  have hsn := HB.out.2.1
                  have hij := HB.out.1
                  rw [HNX.out] at hsm
                  simp only [List.map_cons, List.sum_cons] at hsm
                  have hsz_ : row2.length = n + 1 := by have := B_size row2; rw [HRB.out] at this; omega
                  obtain ⟨ji, hji⟩ : ∃ x : Int, wrap64 ((rb.size : Int) - 1) = x := ⟨_, rfl⟩
                  have hjv : ji = (n : Int) := by rw [← hji, hs2]; unfold wrap64; omega
                  have hjw : IntKind.i64.wrap ((rb.size : Int) - 1) = ji := (i64_w _).trans hji
                  have k0 := eq_true (show 0 ≤ ji by omega)
                  have k1 := eq_true (show ji < (rb.size : Int) by omega)
                  have k2 := eq_true (show ji ≤ (rb.size : Int) by omega)
                  have k0b := decide_eq_true (show 0 ≤ ji by omega)
                  have k1b := decide_eq_true (show ji < (rb.size : Int) by omega)
                  have k2b := decide_eq_true (show ji ≤ (rb.size : Int) by omega)
                  have k3 : (0 : Nat) < rb.size := by omega
                  have k4 := eq_true (show (rb.size : Int) > 0 by omega)
                  have k4b := decide_eq_true (show (rb.size : Int) > 0 by omega)
                  have hjt : ji.toNat = n := by omega
                  have hjm : ji.toNat < rb.size := by omega
                  have hyj : rb[ji.toNat]'hjm = y := by rw [← hy]; congr 1
                  clear hs2 hy hjv hjt hsz_ hn2
                  have hpul := putU_len pa
                  have htl := trimB_le (row2)
                  obtain ⟨kT, hkT⟩ := (refTrim_ev (row2) (by omega)).get
                  obtain ⟨tt, htt⟩ : ∃ x, trimB (row2) = x := ⟨_, rfl⟩
                  obtain ⟨tx, htx⟩ : ∃ x, putU pa = x := ⟨_, rfl⟩
                  obtain ⟨tn, htn⟩ : ∃ x, putU (pa ++ [row2]) = x := ⟨_, rfl⟩
                  have HPU1 := HPU.out
                  clear HPU
                  rw [htt, htx, htn] at HPU1
                  rw [htt] at hkT htl
                  rw [htx] at hpul
                  have HT := Aside0.mk (show flatironref04_Trim.f kT (rb) = some (B tt) from by rw [← HRB.out]; exact hkT)
                  have J := Aside0.mk (show RInv w 0 gL _ _ rows out (i + 1) tx true _ from htx ▸ HJ.out)
                  have HTN := Aside0.mk htn
                  clear htt htx htn hkT HJ
                  have hz1 : (B tt).toList.isEmpty = tt.isEmpty := by rw [B_toList]
                  have hz2 : (B tx).toList.isEmpty = tx.isEmpty := by rw [B_toList]
                  have hz3 : (B tt).size = tt.length := B_size tt
                  have hz4 : (B tx).size = tx.length := B_size tx
                  have hct1 : (9223372036854775807 < tx.length + tt.length) = False := eq_false (by omega)
                  have hct2 : (9223372036854775807 < tx.length + 1) = False := eq_false (by omega)
                  have hct3 : (9223372036854775807 < tx.length + 1 + tt.length) = False := eq_false (by omega)
                  have REL := Aside0.mk (show RG rows R out i l.length true false (j + 1) (pa ++ [row2]) from ⟨(fun h => by cases h), fun _ => ⟨by omega, by rw [← HM.out.2.1, HNX.out, joinS_one _ _ _ _ _ HMO.out]; simp, HM.out.2.2 _ _ HNX.out _ (.inl rfl)⟩, by omega, by have := HB.out.2.1; rw [List.length_append, List.length_singleton]; omega, by simp only [List.map_append, List.sum_append, List.map_cons, List.map_nil, List.sum_cons, List.sum_nil, List.length_append, List.length_singleton]; omega⟩)
                  by_cases he1 : tt = []
                  · have hy1 : tt.isEmpty = true := by rw [he1]; rfl
                    rw [if_neg (fun h => h.1 he1)] at HPU1
                    have HP := Aside0.mk HPU1
                    clear HPU1 he1
                    go_wp2_with (first | (go_at_call 65; refine (flatironref04_Trim.calls kT _ _ _ HT.out).mono ?_; rintro e2 w2 ⟨rfl, hd2⟩; have J2 := Aside0.mk (J.out.below hd2.below); have bk2 := J2.out.2.2.1; have cz0 := blk_cell bk2 0; have cz1 := blk_cell bk2 1; have cz2 := blk_cell bk2 2; have cf1 := blk_frozen bk2 1))
                    have J3 := Aside0.mk (J2.out.set (tx1 := tn) (B tx ++ B tt) (by rw [B_append, HP.out]))
                    go_roundg (gk - 1)
                    case measure => omega
                    case rel => exact ⟨j + 1, false, pa ++ [row2], by go_num, by rfl, by omega, by omega, ⟨HTN.out ▸ J3.out⟩, REL⟩
                  · have hy1 : tt.isEmpty = false := List.isEmpty_eq_false_iff.2 he1
                    by_cases he2 : tx = []
                    · have hy2 : tx.isEmpty = true := by rw [he2]; rfl
                      rw [if_neg (fun h => h.2 he2)] at HPU1
                      have HP := Aside0.mk HPU1
                      clear HPU1 he1 he2
                      go_wp2_with (first | (go_at_call 65; refine (flatironref04_Trim.calls kT _ _ _ HT.out).mono ?_; rintro e2 w2 ⟨rfl, hd2⟩; have J2 := Aside0.mk (J.out.below hd2.below); have bk2 := J2.out.2.2.1; have cz0 := blk_cell bk2 0; have cz1 := blk_cell bk2 1; have cz2 := blk_cell bk2 2; have cf1 := blk_frozen bk2 1))
                      have J3 := Aside0.mk (J2.out.set (tx1 := tn) (B tx ++ B tt) (by rw [B_append, HP.out]))
                      go_roundg (gk - 1)
                      case measure => omega
                      case rel => exact ⟨j + 1, false, pa ++ [row2], by go_num, by rfl, by omega, by omega, ⟨HTN.out ▸ J3.out⟩, REL⟩
                    · have hy2 : tx.isEmpty = false := List.isEmpty_eq_false_iff.2 he2
                      rw [if_pos ⟨he1, he2⟩] at HPU1
                      have HP := Aside0.mk HPU1
                      clear HPU1 he1 he2
                      go_wp2_with (first | (go_at_call 65; refine (flatironref04_Trim.calls kT _ _ _ HT.out).mono ?_; rintro e2 w2 ⟨rfl, hd2⟩; have J2 := Aside0.mk (J.out.below hd2.below); have bk2 := J2.out.2.2.1; have cz0 := blk_cell bk2 0; have cz1 := blk_cell bk2 1; have cz2 := blk_cell bk2 2; have cf1 := blk_frozen bk2 1))
                      have J3 := Aside0.mk ((J2.out.set (tx1 := tx ++ [32]) (B tx ++ ⟨#[32]⟩) (by rw [show (⟨#[32]⟩ : ByteArray) = B [32] from rfl, B_append])).set (tx1 := tn) (B tx ++ ⟨#[32]⟩ ++ B tt) (by rw [show (⟨#[32]⟩ : ByteArray) = B [32] from rfl, B_append, B_append, HP.out]))
                      go_roundg (gk - 1)
                      case measure => omega
                      case rel => exact ⟨j + 1, false, pa ++ [row2], by go_num, by rfl, by omega, by omega, ⟨HTN.out ▸ J3.out⟩, REL⟩

                | true =>
                  have hx3 := hx2 rfl
                  clear hx2
                  by_cases hj1 : j + 1 < rows.length
                  · have HMO := Aside0.mk (show (cutB row2).2 = true ∧ rows.drop (j + 1) ≠ [] from ⟨HCC.out, fun e => by have := congrArg List.length e; simp at this; omega⟩)
                    have hi1 : decide ((j : Int) + 1 < (rows.length : Int)) = true := decide_eq_true (by omega)
                    obtain ⟨xx, hxx⟩ : ∃ x, rb.extract 0 n = x := ⟨_, rfl⟩
                    rw [hxx] at hx3
                    have hpl : (cutB row2).1.length ≤ row2.length := cutB_len row2
                    obtain ⟨pt, hpt⟩ : ∃ x, (cutB row2).1 = x := ⟨_, rfl⟩
                    rw [hpt] at hx3 hpl
                    have HPT := Aside0.mk hpt
                    clear hpt
                    have HX3 := Aside0.mk hx3
                    clear hx3

                    have HPU := Aside0.mk (putU_snoc pa (pt))
                    have HNX := Aside0.mk (show rows.drop j = row2 :: rows.drop (j + 1) by rw [drop_get rows j hj, HROW2.out])
                    have hsm := HB.out.2.2
                    have hsn := HB.out.2.1
                    have hij := HB.out.1
                    rw [HNX.out] at hsm
                    simp only [List.map_cons, List.sum_cons] at hsm
                    have hsz_ : row2.length = n + 1 := by have := B_size row2; rw [HRB.out] at this; omega
                    obtain ⟨ji, hji⟩ : ∃ x : Int, wrap64 ((rb.size : Int) - 1) = x := ⟨_, rfl⟩
                    have hjv : ji = (n : Int) := by rw [← hji, hs2]; unfold wrap64; omega
                    have hjw : IntKind.i64.wrap ((rb.size : Int) - 1) = ji := (i64_w _).trans hji
                    have k0 := eq_true (show 0 ≤ ji by omega)
                    have k1 := eq_true (show ji < (rb.size : Int) by omega)
                    have k2 := eq_true (show ji ≤ (rb.size : Int) by omega)
                    have k0b := decide_eq_true (show 0 ≤ ji by omega)
                    have k1b := decide_eq_true (show ji < (rb.size : Int) by omega)
                    have k2b := decide_eq_true (show ji ≤ (rb.size : Int) by omega)
                    have k3 : (0 : Nat) < rb.size := by omega
                    have k4 := eq_true (show (rb.size : Int) > 0 by omega)
                    have k4b := decide_eq_true (show (rb.size : Int) > 0 by omega)
                    have hjt : ji.toNat = n := by omega
                    have hjm : ji.toNat < rb.size := by omega
                    have hyj : rb[ji.toNat]'hjm = y := by rw [← hy]; congr 1
                    have hxj : rb.extract 0 ji.toNat = xx := by rw [hjt]; exact hxx
                    clear hxx
                    clear hs2 hy hjv hjt hsz_ hn2
                    have hpul := putU_len pa
                    have htl := trimB_le (pt)
                    obtain ⟨kT, hkT⟩ := (refTrim_ev (pt) (by omega)).get
                    obtain ⟨tt, htt⟩ : ∃ x, trimB (pt) = x := ⟨_, rfl⟩
                    obtain ⟨tx, htx⟩ : ∃ x, putU pa = x := ⟨_, rfl⟩
                    obtain ⟨tn, htn⟩ : ∃ x, putU (pa ++ [pt]) = x := ⟨_, rfl⟩
                    have HPU1 := HPU.out
                    clear HPU
                    rw [htt, htx, htn] at HPU1
                    rw [htt] at hkT htl
                    rw [htx] at hpul
                    have HT := Aside0.mk (show flatironref04_Trim.f kT (xx) = some (B tt) from by rw [HX3.out]; exact hkT)
                    have J := Aside0.mk (show RInv w 0 gL _ _ rows out (i + 1) tx true _ from htx ▸ HJ.out)
                    have HTN := Aside0.mk htn
                    clear htt htx htn hkT HJ
                    have hz1 : (B tt).toList.isEmpty = tt.isEmpty := by rw [B_toList]
                    have hz2 : (B tx).toList.isEmpty = tx.isEmpty := by rw [B_toList]
                    have hz3 : (B tt).size = tt.length := B_size tt
                    have hz4 : (B tx).size = tx.length := B_size tx
                    have hct1 : (9223372036854775807 < tx.length + tt.length) = False := eq_false (by omega)
                    have hct2 : (9223372036854775807 < tx.length + 1) = False := eq_false (by omega)
                    have hct3 : (9223372036854775807 < tx.length + 1 + tt.length) = False := eq_false (by omega)
                    have REL := Aside0.mk (show RG rows R out i l.length true true (j + 1) (pa ++ [pt]) from ⟨fun _ => ⟨hj1, by rw [← HM.out.2.1, HNX.out, joinS_more _ _ _ _ _ HMO.out, HPT.out], fun r rs hrs p hp => by rw [recU_snoc _ _ (by simp)]; exact HM.out.2.2 _ _ HNX.out _ (.inr HPT.out.symm)⟩, (fun h => by cases h), by omega, by have := HB.out.2.1; rw [List.length_append, List.length_singleton]; omega, by simp only [List.map_append, List.sum_append, List.map_cons, List.map_nil, List.sum_cons, List.sum_nil, List.length_append, List.length_singleton]; omega⟩)
                    by_cases he1 : tt = []
                    · have hy1 : tt.isEmpty = true := by rw [he1]; rfl
                      rw [if_neg (fun h => h.1 he1)] at HPU1
                      have HP := Aside0.mk HPU1
                      clear HPU1 he1
                      go_wp2_with (first | (go_at_call 65; refine (flatironref04_Trim.calls kT _ _ _ HT.out).mono ?_; rintro e2 w2 ⟨rfl, hd2⟩; have J2 := Aside0.mk (J.out.below hd2.below); have bk2 := J2.out.2.2.1; have cz0 := blk_cell bk2 0; have cz1 := blk_cell bk2 1; have cz2 := blk_cell bk2 2; have cf1 := blk_frozen bk2 1))
                      have J3 := Aside0.mk (J2.out.set (tx1 := tn) (B tx ++ B tt) (by rw [B_append, HP.out]))
                      go_roundg (gk - 1)
                      case measure => omega
                      case rel => exact ⟨j + 1, true, pa ++ [pt], by go_num, by rfl, by omega, by omega, ⟨HTN.out ▸ J3.out⟩, REL⟩
                    · have hy1 : tt.isEmpty = false := List.isEmpty_eq_false_iff.2 he1
                      by_cases he2 : tx = []
                      · have hy2 : tx.isEmpty = true := by rw [he2]; rfl
                        rw [if_neg (fun h => h.2 he2)] at HPU1
                        have HP := Aside0.mk HPU1
                        clear HPU1 he1 he2
                        go_wp2_with (first | (go_at_call 65; refine (flatironref04_Trim.calls kT _ _ _ HT.out).mono ?_; rintro e2 w2 ⟨rfl, hd2⟩; have J2 := Aside0.mk (J.out.below hd2.below); have bk2 := J2.out.2.2.1; have cz0 := blk_cell bk2 0; have cz1 := blk_cell bk2 1; have cz2 := blk_cell bk2 2; have cf1 := blk_frozen bk2 1))
                        have J3 := Aside0.mk (J2.out.set (tx1 := tn) (B tx ++ B tt) (by rw [B_append, HP.out]))
                        go_roundg (gk - 1)
                        case measure => omega
                        case rel => exact ⟨j + 1, true, pa ++ [pt], by go_num, by rfl, by omega, by omega, ⟨HTN.out ▸ J3.out⟩, REL⟩
                      · have hy2 : tx.isEmpty = false := List.isEmpty_eq_false_iff.2 he2
                        rw [if_pos ⟨he1, he2⟩] at HPU1
                        have HP := Aside0.mk HPU1
                        clear HPU1 he1 he2
                        go_wp2_with (first | (go_at_call 65; refine (flatironref04_Trim.calls kT _ _ _ HT.out).mono ?_; rintro e2 w2 ⟨rfl, hd2⟩; have J2 := Aside0.mk (J.out.below hd2.below); have bk2 := J2.out.2.2.1; have cz0 := blk_cell bk2 0; have cz1 := blk_cell bk2 1; have cz2 := blk_cell bk2 2; have cf1 := blk_frozen bk2 1))
                        have J3 := Aside0.mk ((J2.out.set (tx1 := tx ++ [32]) (B tx ++ ⟨#[32]⟩) (by rw [show (⟨#[32]⟩ : ByteArray) = B [32] from rfl, B_append])).set (tx1 := tn) (B tx ++ ⟨#[32]⟩ ++ B tt) (by rw [show (⟨#[32]⟩ : ByteArray) = B [32] from rfl, B_append, B_append, HP.out]))
                        go_roundg (gk - 1)
                        case measure => omega
                        case rel => exact ⟨j + 1, true, pa ++ [pt], by go_num, by rfl, by omega, by omega, ⟨HTN.out ▸ J3.out⟩, REL⟩

                  · have HMO := Aside0.mk (show ¬ ((cutB row2).2 = true ∧ rows.drop (j + 1) ≠ []) from fun h => h.2 (List.drop_eq_nil_of_le (by omega)))
                    have hi1 : decide ((j : Int) + 1 < (rows.length : Int)) = false := decide_eq_false (by omega)
                    clear hx3

                    have HPU := Aside0.mk (putU_snoc pa (row2))
                    have HNX := Aside0.mk (show rows.drop j = row2 :: rows.drop (j + 1) by rw [drop_get rows j hj, HROW2.out])
                    have hpl : row2.length ≤ row2.length := Nat.le_refl _
                    have hsm := HB.out.2.2
                    have hsn := HB.out.2.1
                    have hij := HB.out.1
                    rw [HNX.out] at hsm
                    simp only [List.map_cons, List.sum_cons] at hsm
                    have hsz_ : row2.length = n + 1 := by have := B_size row2; rw [HRB.out] at this; omega
                    obtain ⟨ji, hji⟩ : ∃ x : Int, wrap64 ((rb.size : Int) - 1) = x := ⟨_, rfl⟩
                    have hjv : ji = (n : Int) := by rw [← hji, hs2]; unfold wrap64; omega
                    have hjw : IntKind.i64.wrap ((rb.size : Int) - 1) = ji := (i64_w _).trans hji
                    have k0 := eq_true (show 0 ≤ ji by omega)
                    have k1 := eq_true (show ji < (rb.size : Int) by omega)
                    have k2 := eq_true (show ji ≤ (rb.size : Int) by omega)
                    have k0b := decide_eq_true (show 0 ≤ ji by omega)
                    have k1b := decide_eq_true (show ji < (rb.size : Int) by omega)
                    have k2b := decide_eq_true (show ji ≤ (rb.size : Int) by omega)
                    have k3 : (0 : Nat) < rb.size := by omega
                    have k4 := eq_true (show (rb.size : Int) > 0 by omega)
                    have k4b := decide_eq_true (show (rb.size : Int) > 0 by omega)
                    have hjt : ji.toNat = n := by omega
                    have hjm : ji.toNat < rb.size := by omega
                    have hyj : rb[ji.toNat]'hjm = y := by rw [← hy]; congr 1
                    clear hs2 hy hjv hjt hsz_ hn2
                    have hpul := putU_len pa
                    have htl := trimB_le (row2)
                    obtain ⟨kT, hkT⟩ := (refTrim_ev (row2) (by omega)).get
                    obtain ⟨tt, htt⟩ : ∃ x, trimB (row2) = x := ⟨_, rfl⟩
                    obtain ⟨tx, htx⟩ : ∃ x, putU pa = x := ⟨_, rfl⟩
                    obtain ⟨tn, htn⟩ : ∃ x, putU (pa ++ [row2]) = x := ⟨_, rfl⟩
                    have HPU1 := HPU.out
                    clear HPU
                    rw [htt, htx, htn] at HPU1
                    rw [htt] at hkT htl
                    rw [htx] at hpul
                    have HT := Aside0.mk (show flatironref04_Trim.f kT (rb) = some (B tt) from by rw [← HRB.out]; exact hkT)
                    have J := Aside0.mk (show RInv w 0 gL _ _ rows out (i + 1) tx true _ from htx ▸ HJ.out)
                    have HTN := Aside0.mk htn
                    clear htt htx htn hkT HJ
                    have hz1 : (B tt).toList.isEmpty = tt.isEmpty := by rw [B_toList]
                    have hz2 : (B tx).toList.isEmpty = tx.isEmpty := by rw [B_toList]
                    have hz3 : (B tt).size = tt.length := B_size tt
                    have hz4 : (B tx).size = tx.length := B_size tx
                    have hct1 : (9223372036854775807 < tx.length + tt.length) = False := eq_false (by omega)
                    have hct2 : (9223372036854775807 < tx.length + 1) = False := eq_false (by omega)
                    have hct3 : (9223372036854775807 < tx.length + 1 + tt.length) = False := eq_false (by omega)
                    have REL := Aside0.mk (show RG rows R out i l.length true false (j + 1) (pa ++ [row2]) from ⟨(fun h => by cases h), fun _ => ⟨by omega, by rw [← HM.out.2.1, HNX.out, joinS_one _ _ _ _ _ HMO.out]; simp, HM.out.2.2 _ _ HNX.out _ (.inl rfl)⟩, by omega, by have := HB.out.2.1; rw [List.length_append, List.length_singleton]; omega, by simp only [List.map_append, List.sum_append, List.map_cons, List.map_nil, List.sum_cons, List.sum_nil, List.length_append, List.length_singleton]; omega⟩)
                    by_cases he1 : tt = []
                    · have hy1 : tt.isEmpty = true := by rw [he1]; rfl
                      rw [if_neg (fun h => h.1 he1)] at HPU1
                      have HP := Aside0.mk HPU1
                      clear HPU1 he1
                      go_wp2_with (first | (go_at_call 65; refine (flatironref04_Trim.calls kT _ _ _ HT.out).mono ?_; rintro e2 w2 ⟨rfl, hd2⟩; have J2 := Aside0.mk (J.out.below hd2.below); have bk2 := J2.out.2.2.1; have cz0 := blk_cell bk2 0; have cz1 := blk_cell bk2 1; have cz2 := blk_cell bk2 2; have cf1 := blk_frozen bk2 1))
                      have J3 := Aside0.mk (J2.out.set (tx1 := tn) (B tx ++ B tt) (by rw [B_append, HP.out]))
                      go_roundg (gk - 1)
                      case measure => omega
                      case rel => exact ⟨j + 1, false, pa ++ [row2], by go_num, by rfl, by omega, by omega, ⟨HTN.out ▸ J3.out⟩, REL⟩
                    · have hy1 : tt.isEmpty = false := List.isEmpty_eq_false_iff.2 he1
                      by_cases he2 : tx = []
                      · have hy2 : tx.isEmpty = true := by rw [he2]; rfl
                        rw [if_neg (fun h => h.2 he2)] at HPU1
                        have HP := Aside0.mk HPU1
                        clear HPU1 he1 he2
                        go_wp2_with (first | (go_at_call 65; refine (flatironref04_Trim.calls kT _ _ _ HT.out).mono ?_; rintro e2 w2 ⟨rfl, hd2⟩; have J2 := Aside0.mk (J.out.below hd2.below); have bk2 := J2.out.2.2.1; have cz0 := blk_cell bk2 0; have cz1 := blk_cell bk2 1; have cz2 := blk_cell bk2 2; have cf1 := blk_frozen bk2 1))
                        have J3 := Aside0.mk (J2.out.set (tx1 := tn) (B tx ++ B tt) (by rw [B_append, HP.out]))
                        go_roundg (gk - 1)
                        case measure => omega
                        case rel => exact ⟨j + 1, false, pa ++ [row2], by go_num, by rfl, by omega, by omega, ⟨HTN.out ▸ J3.out⟩, REL⟩
                      · have hy2 : tx.isEmpty = false := List.isEmpty_eq_false_iff.2 he2
                        rw [if_pos ⟨he1, he2⟩] at HPU1
                        have HP := Aside0.mk HPU1
                        clear HPU1 he1 he2
                        go_wp2_with (first | (go_at_call 65; refine (flatironref04_Trim.calls kT _ _ _ HT.out).mono ?_; rintro e2 w2 ⟨rfl, hd2⟩; have J2 := Aside0.mk (J.out.below hd2.below); have bk2 := J2.out.2.2.1; have cz0 := blk_cell bk2 0; have cz1 := blk_cell bk2 1; have cz2 := blk_cell bk2 2; have cf1 := blk_frozen bk2 1))
                        have J3 := Aside0.mk ((J2.out.set (tx1 := tx ++ [32]) (B tx ++ ⟨#[32]⟩) (by rw [show (⟨#[32]⟩ : ByteArray) = B [32] from rfl, B_append])).set (tx1 := tn) (B tx ++ ⟨#[32]⟩ ++ B tt) (by rw [show (⟨#[32]⟩ : ByteArray) = B [32] from rfl, B_append, B_append, HP.out]))
                        go_roundg (gk - 1)
                        case measure => omega
                        case rel => exact ⟨j + 1, false, pa ++ [row2], by go_num, by rfl, by omega, by omega, ⟨HTN.out ▸ J3.out⟩, REL⟩

            | false =>
              have HM2 := Aside0.mk (HGH.out.2.1 rfl)
              have hpn := HGH.out.2.2.2.1
              have hsm := HGH.out.2.2.2.2
              clear HGH
              have hij := HM2.out.1
              have hpl := putU_len pa
              obtain ⟨tx, htx⟩ : ∃ x, putU pa = x := ⟨_, rfl⟩
              rw [htx] at hpl
              have HJ1 := HJ.out
              rw [htx] at HJ1
              have J := Aside0.mk HJ1
              have bk1 := J.out.2.2.1
              have cz0 := blk_cell bk1 0
              have cz1 := blk_cell bk1 1
              have cz2 := blk_cell bk1 2
              have cf1 := blk_frozen bk1 1
              clear bk1
              have htu : textU pa = tx := by unfold textU; rw [HM2.out.2.2, htx]; rfl
              have hlr : lineR ((i + 1 : Nat) : Int) pa = if tx = [] then [] else [⟨((i + 1 : Nat) : Int), B tx, true⟩] := by unfold lineR; rw [htu, HM2.out.2.2]
              clear HJ1 htx HJ htu
              have hz2 : (B tx).toList.isEmpty = tx.isEmpty := by rw [B_toList]
              by_cases he2 : tx = []
              · have hy2 : tx.isEmpty = true := by rw [he2]; rfl
                rw [if_pos he2] at hlr
                have HLN := Aside0.mk hlr
                clear hlr he2
                go_wp2
                go_roundg (go - 1)
                case measure => (have h1_ := HGG.out; have h2_ := HM2.out.1; have h3_ := HG.out; omega)
                case rel => exact ⟨j, out, by go_num, hj0, (by have h1_ := HGG.out; have h2_ := HM2.out.1; omega), ⟨Kd.R_mono J.out.1 (fun _ _ => trivial)⟩, ⟨Kd.R_mono J.out.2.1 (fun _ _ => trivial)⟩, ⟨J.out.2.2.2.1⟩, ⟨by rw [← HM2.out.2.1, HLN.out]; simp⟩, ⟨by have := HN.out; simp; omega⟩⟩
              · have hy2 : tx.isEmpty = false := List.isEmpty_eq_false_iff.2 he2
                rw [if_neg he2] at hlr
                have HLN := Aside0.mk hlr
                clear hlr he2
                go_wp2_with (first | ((with_reducible refine gate_builtin (b := .append) (xs := #[.tmp 93, .tmp 95]) rfl ?_); at_builtin; refine Kd.R_append k40 (w0 := w) w.heap.size rfl (.tmp 93) (.tmp 95) 36 40 (.agg #[.int .i64 0, .string ⟨#[]⟩, .bool false]) 32 rfl Tryd.underlying36 infoR rfl (by decide) (by omega) (.slice Ao out.length co) out (⟨((i + 1 : Nat) : Int), B tx, true⟩ : S40) [.int .i64 ((i + 1 : Nat) : Int), .string (B tx), .bool true] (fun _ => True) (fun _ => False) rfl (by first | (go_simp; done) | (go_simp; rfl)) (k40_mkM _ _ _ _) (fun _ hk => hk.elim) (fun _ _ => trivial) (Kd.R_mono J.out.2.1 (fun _ _ => trivial)) J.out.2.2.2.1 J.out.2.2.2.1.size (by have := HN.out; omega) ?_; intro v1 w5 ho hb hg hat; have HO5 := Aside0.mk ho; have HW5 := Aside0.mk hb; have HA5 := Aside0.mk (R_grown_ty J.out.1 hg (fun k hk => own_typed J.out.2.1.2.choose_spec.1 k hk) (by decide)); clear ho hb hg hat))
                go_roundg (go - 1)
                case measure => (have h1_ := HGG.out; have h2_ := HM2.out.1; have h3_ := HG.out; omega)
                case rel => exact ⟨j, out ++ [⟨((i + 1 : Nat) : Int), B tx, true⟩], by go_num, hj0, (by have h1_ := HGG.out; have h2_ := HM2.out.1; omega), ⟨Kd.R_mono HA5.out (fun _ _ => trivial)⟩, ⟨HO5.out⟩, ⟨HW5.out⟩, ⟨by rw [← HM2.out.2.1, HLN.out]; simp⟩, ⟨by have := HN.out; simp; omega⟩⟩


        | false =>
          go_wp2
          go_loopg [5, 7] (rows.length + 1) (fun g v5 v7 wr => ∃ (j : Nat) (mo : Bool) (pa : List (List UInt8)), v5 = .int .i64 (j : Int) ∧ v7 = .bool mo ∧ j ≤ rows.length ∧ rows.length - j < g
            ∧ Aside0 (RInv w 0 gL (.slice (some ⟨b, o, none⟩) rows.length ca) (.slice Ao out.length co) rows out (i + 1) (putU pa) false wr)
            ∧ Aside0 (RG rows R out i l.length false mo j pa))
          case atStart =>
            refine ⟨i, true, [], rfl, rfl, by omega, by omega, HST, ⟨⟨(fun _ => ⟨hlt, HR.out, ?_⟩), (fun h => by cases h), Nat.le_refl _, by simp, ?_⟩⟩⟩
            · intro r rs hrs p hp
              rw [drop_get rows i hlt, HROW.out] at hrs
              injection hrs with hrs _
              subst hrs
              rw [List.nil_append, recU_cons, ← HREC.out]
              rcases hp with rfl | rfl
              · rfl
              · exact decide_eq_decide.2 (Iff.of_eq (head_cut row))
            · have := HBND.out
              simpa using Nat.le_trans (sum_drop_le rows i) this
          case round =>
            obtain ⟨j, mo, pa, rfl, rfl, hj0, hg2, HJ, HGH⟩ := hrel
            have HB := Aside0.mk HGH.out.2.2
            cases mo with
            | true =>
              have HM := Aside0.mk (HGH.out.1 rfl)
              clear HGH
              have hj := HM.out.1
              have hcell2 := R_cell HJ.out.1 j (by rw [hnl]; exact hj)
              rw [List.getElem_map] at hcell2
              obtain ⟨row2, hrow2⟩ : ∃ x, rows[j] = x := ⟨_, rfl⟩
              rw [hrow2] at hcell2
              have HROW2 := Aside0.mk hrow2
              clear hrow2
              have way : ((B row2).size = 0 ∧ (cutB row2).2 = false) ∨ ∃ (n : Nat) (hn : n < (B row2).size) (y : UInt8), (B row2).size = n + 1 ∧ (B row2)[n]'hn = y ∧ (((y.toNat : Int)) == 92) = (cutB row2).2 ∧ ((cutB row2).2 = true → (B row2).extract 0 n = B (cutB row2).1) := cut_way row2
              generalize hrb : B row2 = rb at hcell2 way
              have HRB := Aside0.mk hrb
              clear hrb
              rcases way with ⟨hs2, hc2⟩ | ⟨n, hn2, y, hs2, hy, q92, hx2⟩
              · have HMO := Aside0.mk (show ¬ ((cutB row2).2 = true ∧ rows.drop (j + 1) ≠ []) from fun h => by rw [hc2] at h; exact absurd h.1 (by decide))
                clear hc2

                have HPU := Aside0.mk (putU_snoc pa (row2))
                have HNX := Aside0.mk (show rows.drop j = row2 :: rows.drop (j + 1) by rw [drop_get rows j hj, HROW2.out])
                have hpl : row2.length ≤ row2.length := Nat.le_refl _
                have hsm := HB.out.2.2
                have hsn := HB.out.2.1
                have hij := HB.out.1
                rw [HNX.out] at hsm
                simp only [List.map_cons, List.sum_cons] at hsm
                have hpul := putU_len pa
                have htl := trimB_le (row2)
                obtain ⟨kT, hkT⟩ := (refTrim_ev (row2) (by omega)).get
                obtain ⟨tt, htt⟩ : ∃ x, trimB (row2) = x := ⟨_, rfl⟩
                obtain ⟨tx, htx⟩ : ∃ x, putU pa = x := ⟨_, rfl⟩
                obtain ⟨tn, htn⟩ : ∃ x, putU (pa ++ [row2]) = x := ⟨_, rfl⟩
                have HPU1 := HPU.out
                clear HPU
                rw [htt, htx, htn] at HPU1
                rw [htt] at hkT htl
                rw [htx] at hpul
                have HT := Aside0.mk (show flatironref04_Trim.f kT (rb) = some (B tt) from by rw [← HRB.out]; exact hkT)
                have J := Aside0.mk (show RInv w 0 gL _ _ rows out (i + 1) tx false _ from htx ▸ HJ.out)
                have HTN := Aside0.mk htn
                clear htt htx htn hkT HJ
                have hz1 : (B tt).toList.isEmpty = tt.isEmpty := by rw [B_toList]
                have hz2 : (B tx).toList.isEmpty = tx.isEmpty := by rw [B_toList]
                have hz3 : (B tt).size = tt.length := B_size tt
                have hz4 : (B tx).size = tx.length := B_size tx
                have hct1 : (9223372036854775807 < tx.length + tt.length) = False := eq_false (by omega)
                have hct2 : (9223372036854775807 < tx.length + 1) = False := eq_false (by omega)
                have hct3 : (9223372036854775807 < tx.length + 1 + tt.length) = False := eq_false (by omega)
                have REL := Aside0.mk (show RG rows R out i l.length false false (j + 1) (pa ++ [row2]) from ⟨(fun h => by cases h), fun _ => ⟨by omega, by rw [← HM.out.2.1, HNX.out, joinS_one _ _ _ _ _ HMO.out]; simp, HM.out.2.2 _ _ HNX.out _ (.inl rfl)⟩, by omega, by have := HB.out.2.1; rw [List.length_append, List.length_singleton]; omega, by simp only [List.map_append, List.sum_append, List.map_cons, List.map_nil, List.sum_cons, List.sum_nil, List.length_append, List.length_singleton]; omega⟩)
                by_cases he1 : tt = []
                · have hy1 : tt.isEmpty = true := by rw [he1]; rfl
                  rw [if_neg (fun h => h.1 he1)] at HPU1
                  have HP := Aside0.mk HPU1
                  clear HPU1 he1
                  go_wp2_with (first | (go_at_call 65; refine (flatironref04_Trim.calls kT _ _ _ HT.out).mono ?_; rintro e2 w2 ⟨rfl, hd2⟩; have J2 := Aside0.mk (J.out.below hd2.below); have bk2 := J2.out.2.2.1; have cz0 := blk_cell bk2 0; have cz1 := blk_cell bk2 1; have cz2 := blk_cell bk2 2; have cf1 := blk_frozen bk2 1))
                  have J3 := Aside0.mk (J2.out.set (tx1 := tn) (B tx ++ B tt) (by rw [B_append, HP.out]))
                  go_roundg (gk - 1)
                  case measure => omega
                  case rel => exact ⟨j + 1, false, pa ++ [row2], by go_num, by rfl, by omega, by omega, ⟨HTN.out ▸ J3.out⟩, REL⟩
                · have hy1 : tt.isEmpty = false := List.isEmpty_eq_false_iff.2 he1
                  by_cases he2 : tx = []
                  · have hy2 : tx.isEmpty = true := by rw [he2]; rfl
                    rw [if_neg (fun h => h.2 he2)] at HPU1
                    have HP := Aside0.mk HPU1
                    clear HPU1 he1 he2
                    go_wp2_with (first | (go_at_call 65; refine (flatironref04_Trim.calls kT _ _ _ HT.out).mono ?_; rintro e2 w2 ⟨rfl, hd2⟩; have J2 := Aside0.mk (J.out.below hd2.below); have bk2 := J2.out.2.2.1; have cz0 := blk_cell bk2 0; have cz1 := blk_cell bk2 1; have cz2 := blk_cell bk2 2; have cf1 := blk_frozen bk2 1))
                    have J3 := Aside0.mk (J2.out.set (tx1 := tn) (B tx ++ B tt) (by rw [B_append, HP.out]))
                    go_roundg (gk - 1)
                    case measure => omega
                    case rel => exact ⟨j + 1, false, pa ++ [row2], by go_num, by rfl, by omega, by omega, ⟨HTN.out ▸ J3.out⟩, REL⟩
                  · have hy2 : tx.isEmpty = false := List.isEmpty_eq_false_iff.2 he2
                    rw [if_pos ⟨he1, he2⟩] at HPU1
                    have HP := Aside0.mk HPU1
                    clear HPU1 he1 he2
                    go_wp2_with (first | (go_at_call 65; refine (flatironref04_Trim.calls kT _ _ _ HT.out).mono ?_; rintro e2 w2 ⟨rfl, hd2⟩; have J2 := Aside0.mk (J.out.below hd2.below); have bk2 := J2.out.2.2.1; have cz0 := blk_cell bk2 0; have cz1 := blk_cell bk2 1; have cz2 := blk_cell bk2 2; have cf1 := blk_frozen bk2 1))
                    have J3 := Aside0.mk ((J2.out.set (tx1 := tx ++ [32]) (B tx ++ ⟨#[32]⟩) (by rw [show (⟨#[32]⟩ : ByteArray) = B [32] from rfl, B_append])).set (tx1 := tn) (B tx ++ ⟨#[32]⟩ ++ B tt) (by rw [show (⟨#[32]⟩ : ByteArray) = B [32] from rfl, B_append, B_append, HP.out]))
                    go_roundg (gk - 1)
                    case measure => omega
                    case rel => exact ⟨j + 1, false, pa ++ [row2], by go_num, by rfl, by omega, by omega, ⟨HTN.out ▸ J3.out⟩, REL⟩

              · obtain ⟨cc, hcc⟩ : ∃ x, (cutB row2).2 = x := ⟨_, rfl⟩
                rw [hcc] at q92 hx2
                have HCC := Aside0.mk hcc
                clear hcc
                cases cc with
                | false =>
                  have HMO := Aside0.mk (show ¬ ((cutB row2).2 = true ∧ rows.drop (j + 1) ≠ []) from fun h => by rw [HCC.out] at h; exact absurd h.1 (by decide))
                  clear hx2

                  have HPU := Aside0.mk (putU_snoc pa (row2))
                  have HNX := Aside0.mk (show rows.drop j = row2 :: rows.drop (j + 1) by rw [drop_get rows j hj, HROW2.out])
                  have hpl : row2.length ≤ row2.length := Nat.le_refl _
                  have hsm := HB.out.2.2
                  have hsn := HB.out.2.1
                  have hij := HB.out.1
                  rw [HNX.out] at hsm
                  simp only [List.map_cons, List.sum_cons] at hsm
                  have hsz_ : row2.length = n + 1 := by have := B_size row2; rw [HRB.out] at this; omega
                  obtain ⟨ji, hji⟩ : ∃ x : Int, wrap64 ((rb.size : Int) - 1) = x := ⟨_, rfl⟩
                  have hjv : ji = (n : Int) := by rw [← hji, hs2]; unfold wrap64; omega
                  have hjw : IntKind.i64.wrap ((rb.size : Int) - 1) = ji := (i64_w _).trans hji
                  have k0 := eq_true (show 0 ≤ ji by omega)
                  have k1 := eq_true (show ji < (rb.size : Int) by omega)
                  have k2 := eq_true (show ji ≤ (rb.size : Int) by omega)
                  have k0b := decide_eq_true (show 0 ≤ ji by omega)
                  have k1b := decide_eq_true (show ji < (rb.size : Int) by omega)
                  have k2b := decide_eq_true (show ji ≤ (rb.size : Int) by omega)
                  have k3 : (0 : Nat) < rb.size := by omega
                  have k4 := eq_true (show (rb.size : Int) > 0 by omega)
                  have k4b := decide_eq_true (show (rb.size : Int) > 0 by omega)
                  have hjt : ji.toNat = n := by omega
                  have hjm : ji.toNat < rb.size := by omega
                  have hyj : rb[ji.toNat]'hjm = y := by rw [← hy]; congr 1
                  clear hs2 hy hjv hjt hsz_ hn2
                  have hpul := putU_len pa
                  have htl := trimB_le (row2)
                  obtain ⟨kT, hkT⟩ := (refTrim_ev (row2) (by omega)).get
                  obtain ⟨tt, htt⟩ : ∃ x, trimB (row2) = x := ⟨_, rfl⟩
                  obtain ⟨tx, htx⟩ : ∃ x, putU pa = x := ⟨_, rfl⟩
                  obtain ⟨tn, htn⟩ : ∃ x, putU (pa ++ [row2]) = x := ⟨_, rfl⟩
                  have HPU1 := HPU.out
                  clear HPU
                  rw [htt, htx, htn] at HPU1
                  rw [htt] at hkT htl
                  rw [htx] at hpul
                  have HT := Aside0.mk (show flatironref04_Trim.f kT (rb) = some (B tt) from by rw [← HRB.out]; exact hkT)
                  have J := Aside0.mk (show RInv w 0 gL _ _ rows out (i + 1) tx false _ from htx ▸ HJ.out)
                  have HTN := Aside0.mk htn
                  clear htt htx htn hkT HJ
                  have hz1 : (B tt).toList.isEmpty = tt.isEmpty := by rw [B_toList]
                  have hz2 : (B tx).toList.isEmpty = tx.isEmpty := by rw [B_toList]
                  have hz3 : (B tt).size = tt.length := B_size tt
                  have hz4 : (B tx).size = tx.length := B_size tx
                  have hct1 : (9223372036854775807 < tx.length + tt.length) = False := eq_false (by omega)
                  have hct2 : (9223372036854775807 < tx.length + 1) = False := eq_false (by omega)
                  have hct3 : (9223372036854775807 < tx.length + 1 + tt.length) = False := eq_false (by omega)
                  have REL := Aside0.mk (show RG rows R out i l.length false false (j + 1) (pa ++ [row2]) from ⟨(fun h => by cases h), fun _ => ⟨by omega, by rw [← HM.out.2.1, HNX.out, joinS_one _ _ _ _ _ HMO.out]; simp, HM.out.2.2 _ _ HNX.out _ (.inl rfl)⟩, by omega, by have := HB.out.2.1; rw [List.length_append, List.length_singleton]; omega, by simp only [List.map_append, List.sum_append, List.map_cons, List.map_nil, List.sum_cons, List.sum_nil, List.length_append, List.length_singleton]; omega⟩)
                  by_cases he1 : tt = []
                  · have hy1 : tt.isEmpty = true := by rw [he1]; rfl
                    rw [if_neg (fun h => h.1 he1)] at HPU1
                    have HP := Aside0.mk HPU1
                    clear HPU1 he1
                    go_wp2_with (first | (go_at_call 65; refine (flatironref04_Trim.calls kT _ _ _ HT.out).mono ?_; rintro e2 w2 ⟨rfl, hd2⟩; have J2 := Aside0.mk (J.out.below hd2.below); have bk2 := J2.out.2.2.1; have cz0 := blk_cell bk2 0; have cz1 := blk_cell bk2 1; have cz2 := blk_cell bk2 2; have cf1 := blk_frozen bk2 1))
                    have J3 := Aside0.mk (J2.out.set (tx1 := tn) (B tx ++ B tt) (by rw [B_append, HP.out]))
                    go_roundg (gk - 1)
                    case measure => omega
                    case rel => exact ⟨j + 1, false, pa ++ [row2], by go_num, by rfl, by omega, by omega, ⟨HTN.out ▸ J3.out⟩, REL⟩
                  · have hy1 : tt.isEmpty = false := List.isEmpty_eq_false_iff.2 he1
                    by_cases he2 : tx = []
                    · have hy2 : tx.isEmpty = true := by rw [he2]; rfl
                      rw [if_neg (fun h => h.2 he2)] at HPU1
                      have HP := Aside0.mk HPU1
                      clear HPU1 he1 he2
                      go_wp2_with (first | (go_at_call 65; refine (flatironref04_Trim.calls kT _ _ _ HT.out).mono ?_; rintro e2 w2 ⟨rfl, hd2⟩; have J2 := Aside0.mk (J.out.below hd2.below); have bk2 := J2.out.2.2.1; have cz0 := blk_cell bk2 0; have cz1 := blk_cell bk2 1; have cz2 := blk_cell bk2 2; have cf1 := blk_frozen bk2 1))
                      have J3 := Aside0.mk (J2.out.set (tx1 := tn) (B tx ++ B tt) (by rw [B_append, HP.out]))
                      go_roundg (gk - 1)
                      case measure => omega
                      case rel => exact ⟨j + 1, false, pa ++ [row2], by go_num, by rfl, by omega, by omega, ⟨HTN.out ▸ J3.out⟩, REL⟩
                    · have hy2 : tx.isEmpty = false := List.isEmpty_eq_false_iff.2 he2
                      rw [if_pos ⟨he1, he2⟩] at HPU1
                      have HP := Aside0.mk HPU1
                      clear HPU1 he1 he2
                      go_wp2_with (first | (go_at_call 65; refine (flatironref04_Trim.calls kT _ _ _ HT.out).mono ?_; rintro e2 w2 ⟨rfl, hd2⟩; have J2 := Aside0.mk (J.out.below hd2.below); have bk2 := J2.out.2.2.1; have cz0 := blk_cell bk2 0; have cz1 := blk_cell bk2 1; have cz2 := blk_cell bk2 2; have cf1 := blk_frozen bk2 1))
                      have J3 := Aside0.mk ((J2.out.set (tx1 := tx ++ [32]) (B tx ++ ⟨#[32]⟩) (by rw [show (⟨#[32]⟩ : ByteArray) = B [32] from rfl, B_append])).set (tx1 := tn) (B tx ++ ⟨#[32]⟩ ++ B tt) (by rw [show (⟨#[32]⟩ : ByteArray) = B [32] from rfl, B_append, B_append, HP.out]))
                      go_roundg (gk - 1)
                      case measure => omega
                      case rel => exact ⟨j + 1, false, pa ++ [row2], by go_num, by rfl, by omega, by omega, ⟨HTN.out ▸ J3.out⟩, REL⟩

                | true =>
                  have hx3 := hx2 rfl
                  clear hx2
                  by_cases hj1 : j + 1 < rows.length
                  · have HMO := Aside0.mk (show (cutB row2).2 = true ∧ rows.drop (j + 1) ≠ [] from ⟨HCC.out, fun e => by have := congrArg List.length e; simp at this; omega⟩)
                    have hi1 : decide ((j : Int) + 1 < (rows.length : Int)) = true := decide_eq_true (by omega)
                    obtain ⟨xx, hxx⟩ : ∃ x, rb.extract 0 n = x := ⟨_, rfl⟩
                    rw [hxx] at hx3
                    have hpl : (cutB row2).1.length ≤ row2.length := cutB_len row2
                    obtain ⟨pt, hpt⟩ : ∃ x, (cutB row2).1 = x := ⟨_, rfl⟩
                    rw [hpt] at hx3 hpl
                    have HPT := Aside0.mk hpt
                    clear hpt
                    have HX3 := Aside0.mk hx3
                    clear hx3

                    have HPU := Aside0.mk (putU_snoc pa (pt))
                    have HNX := Aside0.mk (show rows.drop j = row2 :: rows.drop (j + 1) by rw [drop_get rows j hj, HROW2.out])
                    have hsm := HB.out.2.2
                    have hsn := HB.out.2.1
                    have hij := HB.out.1
                    rw [HNX.out] at hsm
                    simp only [List.map_cons, List.sum_cons] at hsm
                    have hsz_ : row2.length = n + 1 := by have := B_size row2; rw [HRB.out] at this; omega
                    obtain ⟨ji, hji⟩ : ∃ x : Int, wrap64 ((rb.size : Int) - 1) = x := ⟨_, rfl⟩
                    have hjv : ji = (n : Int) := by rw [← hji, hs2]; unfold wrap64; omega
                    have hjw : IntKind.i64.wrap ((rb.size : Int) - 1) = ji := (i64_w _).trans hji
                    have k0 := eq_true (show 0 ≤ ji by omega)
                    have k1 := eq_true (show ji < (rb.size : Int) by omega)
                    have k2 := eq_true (show ji ≤ (rb.size : Int) by omega)
                    have k0b := decide_eq_true (show 0 ≤ ji by omega)
                    have k1b := decide_eq_true (show ji < (rb.size : Int) by omega)
                    have k2b := decide_eq_true (show ji ≤ (rb.size : Int) by omega)
                    have k3 : (0 : Nat) < rb.size := by omega
                    have k4 := eq_true (show (rb.size : Int) > 0 by omega)
                    have k4b := decide_eq_true (show (rb.size : Int) > 0 by omega)
                    have hjt : ji.toNat = n := by omega
                    have hjm : ji.toNat < rb.size := by omega
                    have hyj : rb[ji.toNat]'hjm = y := by rw [← hy]; congr 1
                    have hxj : rb.extract 0 ji.toNat = xx := by rw [hjt]; exact hxx
                    clear hxx
                    clear hs2 hy hjv hjt hsz_ hn2
                    have hpul := putU_len pa
                    have htl := trimB_le (pt)
                    obtain ⟨kT, hkT⟩ := (refTrim_ev (pt) (by omega)).get
                    obtain ⟨tt, htt⟩ : ∃ x, trimB (pt) = x := ⟨_, rfl⟩
                    obtain ⟨tx, htx⟩ : ∃ x, putU pa = x := ⟨_, rfl⟩
                    obtain ⟨tn, htn⟩ : ∃ x, putU (pa ++ [pt]) = x := ⟨_, rfl⟩
                    have HPU1 := HPU.out
                    clear HPU
                    rw [htt, htx, htn] at HPU1
                    rw [htt] at hkT htl
                    rw [htx] at hpul
                    have HT := Aside0.mk (show flatironref04_Trim.f kT (xx) = some (B tt) from by rw [HX3.out]; exact hkT)
                    have J := Aside0.mk (show RInv w 0 gL _ _ rows out (i + 1) tx false _ from htx ▸ HJ.out)
                    have HTN := Aside0.mk htn
                    clear htt htx htn hkT HJ
                    have hz1 : (B tt).toList.isEmpty = tt.isEmpty := by rw [B_toList]
                    have hz2 : (B tx).toList.isEmpty = tx.isEmpty := by rw [B_toList]
                    have hz3 : (B tt).size = tt.length := B_size tt
                    have hz4 : (B tx).size = tx.length := B_size tx
                    have hct1 : (9223372036854775807 < tx.length + tt.length) = False := eq_false (by omega)
                    have hct2 : (9223372036854775807 < tx.length + 1) = False := eq_false (by omega)
                    have hct3 : (9223372036854775807 < tx.length + 1 + tt.length) = False := eq_false (by omega)
                    have REL := Aside0.mk (show RG rows R out i l.length false true (j + 1) (pa ++ [pt]) from ⟨fun _ => ⟨hj1, by rw [← HM.out.2.1, HNX.out, joinS_more _ _ _ _ _ HMO.out, HPT.out], fun r rs hrs p hp => by rw [recU_snoc _ _ (by simp)]; exact HM.out.2.2 _ _ HNX.out _ (.inr HPT.out.symm)⟩, (fun h => by cases h), by omega, by have := HB.out.2.1; rw [List.length_append, List.length_singleton]; omega, by simp only [List.map_append, List.sum_append, List.map_cons, List.map_nil, List.sum_cons, List.sum_nil, List.length_append, List.length_singleton]; omega⟩)
                    by_cases he1 : tt = []
                    · have hy1 : tt.isEmpty = true := by rw [he1]; rfl
                      rw [if_neg (fun h => h.1 he1)] at HPU1
                      have HP := Aside0.mk HPU1
                      clear HPU1 he1
                      go_wp2_with (first | (go_at_call 65; refine (flatironref04_Trim.calls kT _ _ _ HT.out).mono ?_; rintro e2 w2 ⟨rfl, hd2⟩; have J2 := Aside0.mk (J.out.below hd2.below); have bk2 := J2.out.2.2.1; have cz0 := blk_cell bk2 0; have cz1 := blk_cell bk2 1; have cz2 := blk_cell bk2 2; have cf1 := blk_frozen bk2 1))
                      have J3 := Aside0.mk (J2.out.set (tx1 := tn) (B tx ++ B tt) (by rw [B_append, HP.out]))
                      go_roundg (gk - 1)
                      case measure => omega
                      case rel => exact ⟨j + 1, true, pa ++ [pt], by go_num, by rfl, by omega, by omega, ⟨HTN.out ▸ J3.out⟩, REL⟩
                    · have hy1 : tt.isEmpty = false := List.isEmpty_eq_false_iff.2 he1
                      by_cases he2 : tx = []
                      · have hy2 : tx.isEmpty = true := by rw [he2]; rfl
                        rw [if_neg (fun h => h.2 he2)] at HPU1
                        have HP := Aside0.mk HPU1
                        clear HPU1 he1 he2
                        go_wp2_with (first | (go_at_call 65; refine (flatironref04_Trim.calls kT _ _ _ HT.out).mono ?_; rintro e2 w2 ⟨rfl, hd2⟩; have J2 := Aside0.mk (J.out.below hd2.below); have bk2 := J2.out.2.2.1; have cz0 := blk_cell bk2 0; have cz1 := blk_cell bk2 1; have cz2 := blk_cell bk2 2; have cf1 := blk_frozen bk2 1))
                        have J3 := Aside0.mk (J2.out.set (tx1 := tn) (B tx ++ B tt) (by rw [B_append, HP.out]))
                        go_roundg (gk - 1)
                        case measure => omega
                        case rel => exact ⟨j + 1, true, pa ++ [pt], by go_num, by rfl, by omega, by omega, ⟨HTN.out ▸ J3.out⟩, REL⟩
                      · have hy2 : tx.isEmpty = false := List.isEmpty_eq_false_iff.2 he2
                        rw [if_pos ⟨he1, he2⟩] at HPU1
                        have HP := Aside0.mk HPU1
                        clear HPU1 he1 he2
                        go_wp2_with (first | (go_at_call 65; refine (flatironref04_Trim.calls kT _ _ _ HT.out).mono ?_; rintro e2 w2 ⟨rfl, hd2⟩; have J2 := Aside0.mk (J.out.below hd2.below); have bk2 := J2.out.2.2.1; have cz0 := blk_cell bk2 0; have cz1 := blk_cell bk2 1; have cz2 := blk_cell bk2 2; have cf1 := blk_frozen bk2 1))
                        have J3 := Aside0.mk ((J2.out.set (tx1 := tx ++ [32]) (B tx ++ ⟨#[32]⟩) (by rw [show (⟨#[32]⟩ : ByteArray) = B [32] from rfl, B_append])).set (tx1 := tn) (B tx ++ ⟨#[32]⟩ ++ B tt) (by rw [show (⟨#[32]⟩ : ByteArray) = B [32] from rfl, B_append, B_append, HP.out]))
                        go_roundg (gk - 1)
                        case measure => omega
                        case rel => exact ⟨j + 1, true, pa ++ [pt], by go_num, by rfl, by omega, by omega, ⟨HTN.out ▸ J3.out⟩, REL⟩

                  · have HMO := Aside0.mk (show ¬ ((cutB row2).2 = true ∧ rows.drop (j + 1) ≠ []) from fun h => h.2 (List.drop_eq_nil_of_le (by omega)))
                    have hi1 : decide ((j : Int) + 1 < (rows.length : Int)) = false := decide_eq_false (by omega)
                    clear hx3

                    have HPU := Aside0.mk (putU_snoc pa (row2))
                    have HNX := Aside0.mk (show rows.drop j = row2 :: rows.drop (j + 1) by rw [drop_get rows j hj, HROW2.out])
                    have hpl : row2.length ≤ row2.length := Nat.le_refl _
                    have hsm := HB.out.2.2
                    have hsn := HB.out.2.1
                    have hij := HB.out.1
                    rw [HNX.out] at hsm
                    simp only [List.map_cons, List.sum_cons] at hsm
                    have hsz_ : row2.length = n + 1 := by have := B_size row2; rw [HRB.out] at this; omega
                    obtain ⟨ji, hji⟩ : ∃ x : Int, wrap64 ((rb.size : Int) - 1) = x := ⟨_, rfl⟩
                    have hjv : ji = (n : Int) := by rw [← hji, hs2]; unfold wrap64; omega
                    have hjw : IntKind.i64.wrap ((rb.size : Int) - 1) = ji := (i64_w _).trans hji
                    have k0 := eq_true (show 0 ≤ ji by omega)
                    have k1 := eq_true (show ji < (rb.size : Int) by omega)
                    have k2 := eq_true (show ji ≤ (rb.size : Int) by omega)
                    have k0b := decide_eq_true (show 0 ≤ ji by omega)
                    have k1b := decide_eq_true (show ji < (rb.size : Int) by omega)
                    have k2b := decide_eq_true (show ji ≤ (rb.size : Int) by omega)
                    have k3 : (0 : Nat) < rb.size := by omega
                    have k4 := eq_true (show (rb.size : Int) > 0 by omega)
                    have k4b := decide_eq_true (show (rb.size : Int) > 0 by omega)
                    have hjt : ji.toNat = n := by omega
                    have hjm : ji.toNat < rb.size := by omega
                    have hyj : rb[ji.toNat]'hjm = y := by rw [← hy]; congr 1
                    clear hs2 hy hjv hjt hsz_ hn2
                    have hpul := putU_len pa
                    have htl := trimB_le (row2)
                    obtain ⟨kT, hkT⟩ := (refTrim_ev (row2) (by omega)).get
                    obtain ⟨tt, htt⟩ : ∃ x, trimB (row2) = x := ⟨_, rfl⟩
                    obtain ⟨tx, htx⟩ : ∃ x, putU pa = x := ⟨_, rfl⟩
                    obtain ⟨tn, htn⟩ : ∃ x, putU (pa ++ [row2]) = x := ⟨_, rfl⟩
                    have HPU1 := HPU.out
                    clear HPU
                    rw [htt, htx, htn] at HPU1
                    rw [htt] at hkT htl
                    rw [htx] at hpul
                    have HT := Aside0.mk (show flatironref04_Trim.f kT (rb) = some (B tt) from by rw [← HRB.out]; exact hkT)
                    have J := Aside0.mk (show RInv w 0 gL _ _ rows out (i + 1) tx false _ from htx ▸ HJ.out)
                    have HTN := Aside0.mk htn
                    clear htt htx htn hkT HJ
                    have hz1 : (B tt).toList.isEmpty = tt.isEmpty := by rw [B_toList]
                    have hz2 : (B tx).toList.isEmpty = tx.isEmpty := by rw [B_toList]
                    have hz3 : (B tt).size = tt.length := B_size tt
                    have hz4 : (B tx).size = tx.length := B_size tx
                    have hct1 : (9223372036854775807 < tx.length + tt.length) = False := eq_false (by omega)
                    have hct2 : (9223372036854775807 < tx.length + 1) = False := eq_false (by omega)
                    have hct3 : (9223372036854775807 < tx.length + 1 + tt.length) = False := eq_false (by omega)
                    have REL := Aside0.mk (show RG rows R out i l.length false false (j + 1) (pa ++ [row2]) from ⟨(fun h => by cases h), fun _ => ⟨by omega, by rw [← HM.out.2.1, HNX.out, joinS_one _ _ _ _ _ HMO.out]; simp, HM.out.2.2 _ _ HNX.out _ (.inl rfl)⟩, by omega, by have := HB.out.2.1; rw [List.length_append, List.length_singleton]; omega, by simp only [List.map_append, List.sum_append, List.map_cons, List.map_nil, List.sum_cons, List.sum_nil, List.length_append, List.length_singleton]; omega⟩)
                    by_cases he1 : tt = []
                    · have hy1 : tt.isEmpty = true := by rw [he1]; rfl
                      rw [if_neg (fun h => h.1 he1)] at HPU1
                      have HP := Aside0.mk HPU1
                      clear HPU1 he1
                      go_wp2_with (first | (go_at_call 65; refine (flatironref04_Trim.calls kT _ _ _ HT.out).mono ?_; rintro e2 w2 ⟨rfl, hd2⟩; have J2 := Aside0.mk (J.out.below hd2.below); have bk2 := J2.out.2.2.1; have cz0 := blk_cell bk2 0; have cz1 := blk_cell bk2 1; have cz2 := blk_cell bk2 2; have cf1 := blk_frozen bk2 1))
                      have J3 := Aside0.mk (J2.out.set (tx1 := tn) (B tx ++ B tt) (by rw [B_append, HP.out]))
                      go_roundg (gk - 1)
                      case measure => omega
                      case rel => exact ⟨j + 1, false, pa ++ [row2], by go_num, by rfl, by omega, by omega, ⟨HTN.out ▸ J3.out⟩, REL⟩
                    · have hy1 : tt.isEmpty = false := List.isEmpty_eq_false_iff.2 he1
                      by_cases he2 : tx = []
                      · have hy2 : tx.isEmpty = true := by rw [he2]; rfl
                        rw [if_neg (fun h => h.2 he2)] at HPU1
                        have HP := Aside0.mk HPU1
                        clear HPU1 he1 he2
                        go_wp2_with (first | (go_at_call 65; refine (flatironref04_Trim.calls kT _ _ _ HT.out).mono ?_; rintro e2 w2 ⟨rfl, hd2⟩; have J2 := Aside0.mk (J.out.below hd2.below); have bk2 := J2.out.2.2.1; have cz0 := blk_cell bk2 0; have cz1 := blk_cell bk2 1; have cz2 := blk_cell bk2 2; have cf1 := blk_frozen bk2 1))
                        have J3 := Aside0.mk (J2.out.set (tx1 := tn) (B tx ++ B tt) (by rw [B_append, HP.out]))
                        go_roundg (gk - 1)
                        case measure => omega
                        case rel => exact ⟨j + 1, false, pa ++ [row2], by go_num, by rfl, by omega, by omega, ⟨HTN.out ▸ J3.out⟩, REL⟩
                      · have hy2 : tx.isEmpty = false := List.isEmpty_eq_false_iff.2 he2
                        rw [if_pos ⟨he1, he2⟩] at HPU1
                        have HP := Aside0.mk HPU1
                        clear HPU1 he1 he2
                        go_wp2_with (first | (go_at_call 65; refine (flatironref04_Trim.calls kT _ _ _ HT.out).mono ?_; rintro e2 w2 ⟨rfl, hd2⟩; have J2 := Aside0.mk (J.out.below hd2.below); have bk2 := J2.out.2.2.1; have cz0 := blk_cell bk2 0; have cz1 := blk_cell bk2 1; have cz2 := blk_cell bk2 2; have cf1 := blk_frozen bk2 1))
                        have J3 := Aside0.mk ((J2.out.set (tx1 := tx ++ [32]) (B tx ++ ⟨#[32]⟩) (by rw [show (⟨#[32]⟩ : ByteArray) = B [32] from rfl, B_append])).set (tx1 := tn) (B tx ++ ⟨#[32]⟩ ++ B tt) (by rw [show (⟨#[32]⟩ : ByteArray) = B [32] from rfl, B_append, B_append, HP.out]))
                        go_roundg (gk - 1)
                        case measure => omega
                        case rel => exact ⟨j + 1, false, pa ++ [row2], by go_num, by rfl, by omega, by omega, ⟨HTN.out ▸ J3.out⟩, REL⟩

            | false =>
              have HM2 := Aside0.mk (HGH.out.2.1 rfl)
              have hpn := HGH.out.2.2.2.1
              have hsm := HGH.out.2.2.2.2
              clear HGH
              have hij := HM2.out.1
              have hpl := putU_len pa
              obtain ⟨tx, htx⟩ : ∃ x, putU pa = x := ⟨_, rfl⟩
              rw [htx] at hpl
              have HJ1 := HJ.out
              rw [htx] at HJ1
              have J := Aside0.mk HJ1
              have bk1 := J.out.2.2.1
              have cz0 := blk_cell bk1 0
              have cz1 := blk_cell bk1 1
              have cz2 := blk_cell bk1 2
              have cf1 := blk_frozen bk1 1
              clear bk1
              have htu : textU pa = trimB (bareA tx 0 []) := by unfold textU; rw [HM2.out.2.2, htx]; rfl
              obtain ⟨fx, hfx⟩ : ∃ x, trimB (bareA tx 0 []) = x := ⟨_, rfl⟩
              have hbl := bareA_len tx 0 []
              have htl := trimB_le (bareA tx 0 [])
              simp only [List.length_nil, Nat.zero_add, Nat.sub_zero] at hbl
              obtain ⟨kB, hkB⟩ := (refBare_ev tx (by omega)).get
              obtain ⟨kT, hkT⟩ := (refTrim_ev (bareA tx 0 []) (by omega)).get
              rw [hfx] at hkT htu htl
              have HKB := Aside0.mk hkB
              have HKT := Aside0.mk hkT
              have hlr : lineR ((i + 1 : Nat) : Int) pa = if fx = [] then [] else [⟨((i + 1 : Nat) : Int), B fx, false⟩] := by unfold lineR; rw [htu, HM2.out.2.2]
              clear HJ1 htx HJ htu hkB hkT hfx
              have hz2 : (B fx).toList.isEmpty = fx.isEmpty := by rw [B_toList]
              by_cases he2 : fx = []
              · have hy2 : fx.isEmpty = true := by rw [he2]; rfl
                rw [if_pos he2] at hlr
                have HLN := Aside0.mk hlr
                clear hlr he2
                go_wp2_with (first | (go_at_call 66; refine (flatironref08_bare.calls kB _ _ _ HKB.out).mono ?_; rintro e2 w2 ⟨rfl, hd2⟩; have J2 := Aside0.mk (J.out.below hd2.below); clear cz0 cz1 cz2 cf1 hd2) | (go_at_call 65; refine (flatironref04_Trim.calls kT _ _ _ HKT.out).mono ?_; rintro e3 w3 ⟨rfl, hd3⟩; have J3 := Aside0.mk (J2.out.below hd3.below); have bk3 := J3.out.2.2.1; have cz0 := blk_cell bk3 0; have cz1 := blk_cell bk3 1; have cz2 := blk_cell bk3 2; have cf1 := blk_frozen bk3 1; have J4 := Aside0.mk (J3.out.set (tx1 := fx) (B fx) rfl); clear bk3 hd3))
                go_roundg (go - 1)
                case measure => (have h1_ := HGG.out; have h2_ := HM2.out.1; have h3_ := HG.out; omega)
                case rel => exact ⟨j, out, by go_num, hj0, (by have h1_ := HGG.out; have h2_ := HM2.out.1; omega), ⟨Kd.R_mono J4.out.1 (fun _ _ => trivial)⟩, ⟨Kd.R_mono J4.out.2.1 (fun _ _ => trivial)⟩, ⟨J4.out.2.2.2.1⟩, ⟨by rw [← HM2.out.2.1, HLN.out]; simp⟩, ⟨by have := HN.out; simp; omega⟩⟩
              · have hy2 : fx.isEmpty = false := List.isEmpty_eq_false_iff.2 he2
                rw [if_neg he2] at hlr
                have HLN := Aside0.mk hlr
                clear hlr he2
                go_wp2_with (first | (go_at_call 66; refine (flatironref08_bare.calls kB _ _ _ HKB.out).mono ?_; rintro e2 w2 ⟨rfl, hd2⟩; have J2 := Aside0.mk (J.out.below hd2.below); clear cz0 cz1 cz2 cf1 hd2) | (go_at_call 65; refine (flatironref04_Trim.calls kT _ _ _ HKT.out).mono ?_; rintro e3 w3 ⟨rfl, hd3⟩; have J3 := Aside0.mk (J2.out.below hd3.below); have bk3 := J3.out.2.2.1; have cz0 := blk_cell bk3 0; have cz1 := blk_cell bk3 1; have cz2 := blk_cell bk3 2; have cf1 := blk_frozen bk3 1; have J4 := Aside0.mk (J3.out.set (tx1 := fx) (B fx) rfl); clear bk3 hd3) | ((with_reducible refine gate_builtin (b := .append) (xs := #[.tmp 93, .tmp 95]) rfl ?_); at_builtin; refine Kd.R_append k40 (w0 := w) w.heap.size rfl (.tmp 93) (.tmp 95) 36 40 (.agg #[.int .i64 0, .string ⟨#[]⟩, .bool false]) 32 rfl Tryd.underlying36 infoR rfl (by decide) (by omega) (.slice Ao out.length co) out (⟨((i + 1 : Nat) : Int), B fx, false⟩ : S40) [.int .i64 ((i + 1 : Nat) : Int), .string (B fx), .bool false] (fun _ => True) (fun _ => False) rfl (by first | (go_simp; done) | (go_simp; rfl)) (k40_mkM _ _ _ _) (fun _ hk => hk.elim) (fun _ _ => trivial) (Kd.R_mono J4.out.2.1 (fun _ _ => trivial)) J4.out.2.2.2.1 J4.out.2.2.2.1.size (by have := HN.out; omega) ?_; intro v1 w5 ho hb hg hat; have HO5 := Aside0.mk ho; have HW5 := Aside0.mk hb; have HA5 := Aside0.mk (R_grown_ty J4.out.1 hg (fun k hk => own_typed J4.out.2.1.2.choose_spec.1 k hk) (by decide)); clear ho hb hg hat))
                go_roundg (go - 1)
                case measure => (have h1_ := HGG.out; have h2_ := HM2.out.1; have h3_ := HG.out; omega)
                case rel => exact ⟨j, out ++ [⟨((i + 1 : Nat) : Int), B fx, false⟩], by go_num, hj0, (by have h1_ := HGG.out; have h2_ := HM2.out.1; omega), ⟨Kd.R_mono HA5.out (fun _ _ => trivial)⟩, ⟨HO5.out⟩, ⟨HW5.out⟩, ⟨by rw [← HM2.out.2.1, HLN.out]; simp⟩, ⟨by have := HN.out; simp; omega⟩⟩


    · go_wp2
      go_ret
      refine ⟨_, rfl, ?_, HW.out⟩
      have := HR.out
      rw [List.drop_eq_nil_of_le (by omega), joinS] at this
      simp at this
      rw [← this]
      exact HO.out

def flatironref08_Of.f (a0 : ByteArray) : Option (List S40) := if a0.size < 1048576 then some (linesR a0.data.toList) else none
theorem flatironref08_Of.calls (a0 : ByteArray) (r : List S40) (w : World) (h : flatironref08_Of.f a0 = some r) :
    Calls Tryd.prog 20 #[.string a0] w fun e w' => ∃ v0_ : Value, e = .returned (v0_) ∧ Kd.R k40 40 w' w.heap.size (fun _ => True) v0_ r ∧ Below w.heap.size w w' := by
  unfold flatironref08_Of.f at h
  by_cases hsz : a0.size < 1048576
  case neg => rw [if_neg hsz] at h; exact absurd h (by simp)
  rw [if_pos hsz] at h
  obtain rfl := Option.some.inj h
  obtain ⟨l, rfl, hl⟩ := ex_B a0
  rw [B_data]
  exact refOf_calls l w (by rw [B_size] at hsz; exact hsz)
end Go.Proofs.YtgpabkdmagifjaaDoor.X
