/- lines.Of as a plain function, with its contract; condition: a text of fewer than 1048576 bytes. -/
import Derived.Test.YtgpabkdmagifjaaDoorHBare
import Derived.Test.YtgpabkdmagifjaaDoorPLinesB
import Derived.WalkKit
import Derived.Lib.Hide
import Derived.Deep.LoopGhost
import Derived.RangeFuncBox
namespace Go.Proofs.YtgpabkdmagifjaaDoor.X
open Go.RowKit Go.Proofs.YtgpabkdmagifjaaDoorW.PrintWords Go.Proofs.YtgpabkdmagifjaaDoorW.PrintLast Go.Proofs.YtgpabkdmagifjaaDoorW.PrintMore Go.Proofs.YtgpabkdmagifjaaDoor.XL08 Go.Proofs.YtgpabkdmagifjaaDoor.XT08
set_option linter.unusedSimpArgs false
set_option linter.unusedVariables false

/-- All blocks of other types than two are as they were. -/
def OffTy (t1 t2 : Nat) (w W : World) : Prop := w.heap.size ≤ W.heap.size ∧ ∀ (g : Nat) (cs : Array Value) (t : Nat) (fr : Nat × Nat), w.heap[g]? = some (Obj.cells cs t fr) → t ≠ t1 → t ≠ t2 → W.heap[g]? = some (Obj.cells cs t fr)
theorem OffTy.refl (t1 t2 : Nat) (w : World) : OffTy t1 t2 w w := ⟨Nat.le_refl _, fun _ _ _ _ h _ _ => h⟩
theorem OffTy.trans {t1 t2 : Nat} {w W X : World} (h : OffTy t1 t2 w W) (k : OffTy t1 t2 W X) : OffTy t1 t2 w X := ⟨Nat.le_trans h.1 k.1, fun g cs t fr hg h1 h2 => k.2 g cs t fr (h.2 g cs t fr hg h1 h2) h1 h2⟩
theorem OffTy.below {t1 t2 : Nat} {w W : World} (h : Below w.heap.size w W) : OffTy t1 t2 w W := ⟨h.size, fun g cs t fr hg _ _ => (h.block g (blk_lt hg)).trans hg⟩
theorem OffTy.set {t1 t2 : Nat} {w : World} {p : Addr} {u : Value} (h : ∀ cs t fr, w.heap[p.block]? = some (Obj.cells cs t fr) → t = t1 ∨ t = t2) : OffTy t1 t2 w (w.setCell p u) := by
  refine ⟨(KeepsWalks.setCell w _ u).size, fun g cs t fr hg h1 h2 => ?_⟩
  by_cases e : g = p.block
  · subst e
    rcases h cs t fr hg with h | h
    · exact absurd h h1
    · exact absurd h h2
  · exact (Below.heap_setCell w p u g e).trans hg
theorem OffTy.grown {t1 t2 : Nat} {w W : World} {row : Option Nat} (hg : w.grownBy W row) (h : ∀ k, row = some k → ∀ cs t fr, w.heap[k]? = some (Obj.cells cs t fr) → t = t1 ∨ t = t2) : OffTy t1 t2 w W := by
  refine ⟨hg.size, fun g cs t fr hk h1 h2 => ?_⟩
  by_cases e : some g = row
  · rcases h g e.symm cs t fr hk with h | h
    · exact absurd h h1
    · exact absurd h h2
  · exact (hg.block g (blk_lt hk) e).trans hk

theorem bareA_len (l : List UInt8) : ∀ (i : Nat) (acc : List UInt8), (bareA l i acc).length ≤ acc.length + (l.length - i) := by
  have : ∀ d i acc, l.length - i ≤ d → (bareA l i acc).length ≤ acc.length + (l.length - i) := by
    intro d
    induction d with
    | zero => intro i acc hd; rw [bareA_end l i acc (by omega)]; omega
    | succ d ih =>
      intro i acc hd
      by_cases hi : i < l.length
      · by_cases h2 : l[i] = 92 ∧ ∃ h4 : i + 1 < l.length, l[i + 1] = 35
        · obtain ⟨h3, h4, h5⟩ := h2
          rw [bareA_esc l i acc hi h3 h4 h5]
          have := ih (i + 2) (acc ++ [35]) (by omega)
          simp at this; omega
        · by_cases h3 : l[i] = 35
          · rw [bareA_hit l i acc hi h3]; omega
          · rw [bareA_one l i acc hi h3 h2]
            have := ih (i + 1) (acc ++ [l[i]]) (by omega)
            simp at this; omega
      · rw [bareA_end l i acc (by omega)]; omega
  exact fun i acc => this _ i acc (Nat.le_refl _)

theorem Boxed.below' {w W : World} {Bo t N : Nat} {v : Value} (h : Boxed w Bo t v) (hb : Below N w W) (hl : Bo < N) : Boxed W Bo t v := (hb.block Bo hl).trans h
set_option maxRecDepth 100000 in
set_option maxHeartbeats 4000000 in
theorem ofLit_calls (n : Int) (parts : List (List UInt8)) (A : Option Addr) (c Bo base : Nat) (vo : Value) (out : List S39) (w : World)
    (hne : parts ≠ []) (hn : parts.length < 4294967281) (hs : (parts.map List.length).sum + parts.length ≤ 4294967280)
    (hC : Kd.C Kd.string w A (parts.map B).length (parts.map B)) (hc : (parts.map B).length ≤ c)
    (hbox : Boxed w Bo 34 vo) (hO : Kd.R k39 39 w base (fun _ => True) vo out) (hBo : base ≤ Bo) (hol : out.length < 2000000000) :
    Calls Tryd.prog 59 #[.int .i64 n, .slice A (parts.map B).length c, .pointer (some ⟨Bo, 0, none⟩)] w fun e w' => (∃ v, e = .returned v) ∧
      ∃ vo', Boxed w' Bo 34 vo' ∧ Kd.R k39 39 w' base (fun _ => True) vo' (out ++ lineL n parts) ∧ Below base w w' ∧ OffTy 34 39 w w' := by
  obtain ⟨kp, hkp⟩ := (put_ev parts hn (by omega)).get
  obtain ⟨b, o, rfl, hlt, hcell⟩ := reads_cells hC (by rw [List.length_map]; exact List.length_pos_iff.2 hne)
  obtain ⟨p0, ps, rfl⟩ : ∃ p0 ps, parts = p0 :: ps := by cases parts with | nil => exact absurd rfl hne | cons p ps => exact ⟨p, ps, rfl⟩
  have h0 := hcell 0 (B p0) rfl
  rw [Nat.add_zero] at h0
  have hlen0 : ((p0 :: ps).map B).length = ps.length + 1 := by simp
  have hput : ∀ W, Kd.C Kd.string W (some ⟨b, o, none⟩) (ps.length + 1) ((p0 :: ps).map B) → Calls Tryd.prog 61 #[.slice (some ⟨b, o, none⟩) (ps.length + 1) c] W fun e w' => e = .returned (.string (B (putU (p0 :: ps)))) ∧ Below W.heap.size W w' := by
    intro W h
    have := lines_put.calls kp (some ⟨b, o, none⟩) c ((p0 :: ps).map B) (B (putU (p0 :: ps))) W (by rw [hlen0]; exact h) hc hkp
    rw [hlen0] at this
    exact this
  have hpl : (putU (p0 :: ps)).length < 4294967281 := by have := putU_len (p0 :: ps); omega
  rw [hlen0] at hC hc ⊢
  have hi0 : (0 : Int) < ((ps.length + 1 : Nat) : Int) := by omega
  have hrec : Lib.hasPrefix (B p0).data.toList (⟨#[9]⟩ : ByteArray).data.toList = recU (p0 :: ps) := by rw [B_data]; rfl
  have htext : textU (p0 :: ps) = if recU (p0 :: ps) = true then putU (p0 :: ps) else trimB (bareA (putU (p0 :: ps)) 0 []) := rfl
  have hline : lineL n (p0 :: ps) = if textU (p0 :: ps) = [] then [] else [⟨n, B (textU (p0 :: ps)), recU (p0 :: ps)⟩] := rfl
  obtain ⟨rc, hrc⟩ : ∃ x, recU (p0 :: ps) = x := ⟨_, rfl⟩
  obtain ⟨pu, hpu⟩ : ∃ x, putU (p0 :: ps) = x := ⟨_, rfl⟩
  obtain ⟨tx, htx⟩ : ∃ x, textU (p0 :: ps) = x := ⟨_, rfl⟩
  obtain ⟨ln, hln⟩ : ∃ x, lineL n (p0 :: ps) = x := ⟨_, rfl⟩
  rw [hrc, hpu, htx] at htext
  rw [hrc, htx, hln] at hline
  rw [hpu] at hput hpl
  rw [hrc] at hrec
  rw [hln]
  have HPl := Aside0.mk hpl
  have HLine := Aside0.mk hline
  have HText := Aside0.mk htext
  have HO0 := Aside0.mk (Kd.R_mono (Kd.R_bound hO) (fun k hk => hk.2.2.1) (ok' := fun k => k < w.heap.size))
  have HC := Aside0.mk hC
  have HP := Aside0.mk hput
  have hbl := hbox.lt
  have hnb : some Bo ≠ vo.ownBlock := by
    intro e
    obtain ⟨inner, ho, _⟩ := hO.2
    obtain ⟨cells, hcc⟩ := own_typed ho Bo e.symm
    rw [show w.heap[Bo]? = _ from hbox] at hcc
    simp at hcc
  have HT := Aside0.mk (Trim_eq (bareA pu 0 []) (by have := bareA_len pu 0 []; simp at this; omega))
  clear hpl hput hC hrc hpu htx hln hcell hkp hs hn hne hO
  have hbase : base ≤ w.heap.size := by omega
  have infoL : (Tryd.prog.info? 39).map (fun i => (i.zero, i.size, i.bytes)) = some (some (.agg #[(.int .i64 0), (.string ⟨#[]⟩), (.bool false)]), 3, 32) := by kernel_rfl
  have fin0 : ∀ X, Below w.heap.size w X → Boxed X Bo 34 vo ∧ Kd.R k39 39 X base (fun _ => True) vo out ∧ Below base w X ∧ OffTy 34 39 w X := by
    intro X hX
    exact ⟨Boxed.below' hbox hX hbl, Kd.R_mono (Kd.R_below HO0.out hX) (fun _ _ => trivial), hX.mono hbase, OffTy.below hX⟩
  have fin1 : ∀ X v1 w5, Below w.heap.size w X → Kd.R k39 39 w5 base (fun _ => True) v1 (out ++ ln) → Below base w w5 → X.grownBy w5 vo.ownBlock → Boxed w5 Bo 34 vo ∧ Boxed (w5.setCell ⟨Bo, 0, none⟩ v1) Bo 34 v1 ∧ Kd.R k39 39 (w5.setCell ⟨Bo, 0, none⟩ v1) base (fun _ => True) v1 (out ++ ln) ∧ Below base w (w5.setCell ⟨Bo, 0, none⟩ v1) ∧ OffTy 34 39 w (w5.setCell ⟨Bo, 0, none⟩ v1) := by
    intro X v1 w5 hX ho hb hg
    have hbX := Boxed.below' hbox hX hbl
    have hb5 : Boxed w5 Bo 34 vo := hbX.kept hg hnb
    refine ⟨hb5, hb5.set v1, Kd.R_mono (Kd.R_far (p := ⟨Bo, 0, none⟩) (Kd.R_types ho hb5 (by decide)) (fun _ hk => hk.2) v1) (fun _ _ => trivial), hb.setCell hBo v1, ?_⟩
    refine ((OffTy.below hX).trans (OffTy.grown hg ?_)).trans (OffTy.set ?_)
    · intro k hk cs t fr hh
      obtain ⟨inner, hoo, _⟩ := (Kd.R_below HO0.out hX).2
      obtain ⟨cells, hcc⟩ := own_typed hoo k hk
      rw [hh] at hcc
      injection hcc with hcc
      injection hcc with _ hcc _
      exact .inr hcc
    · intro cs t fr hh
      rw [show w5.heap[Bo]? = _ from hb5] at hh
      injection hh with hh
      injection hh with _ hh _
      exact .inl hh.symm
  cases rc with
  | true =>
    rw [if_pos rfl] at htext
    subst htext
    by_cases he : tx = []
    · rw [if_pos he] at hline
      have HLine := Aside0.mk hline
      have hee : (B tx).toList.isEmpty = true := by rw [B_toList]; rw [he]; rfl
      have HE := Aside0.mk he
      clear he hline
      go_enter Tryd.func59, Tryd.ntmps59
      go_wp2_with (first | (go_at_call 60; refine (strings_HasPrefix.calls _ _ true _ (congrArg some hrec)).mono ?_; rintro e1 w1 ⟨rfl, hd1⟩; have H1 := Aside0.mk (below_alloc hd1.below (.cells #[.int .i64 n, .string ⟨#[]⟩, .bool true] 39))) | (go_at_call 61; refine (HP.out _ (Kd.C_below HC.out H1.out)).mono ?_; rintro e2 w2 ⟨rfl, hb2⟩; obtain ⟨gL, hgL⟩ : ∃ g, w1.heap.size = g := ⟨_, rfl⟩; have hgw : w.heap.size ≤ gL := hgL ▸ hd1.below.size; have BKL := blk_below (blk_new w1 _) hb2; replace H1 := Aside0.mk (below_step H1.out hb2); rw [hgL] at BKL ⊢; have cz0 := blk_cell BKL 0; have cz1 := blk_cell BKL 1; have cz2 := blk_cell BKL 2; have cf1 := blk_frozen BKL 1; have HX := Aside0.mk (below_set (j := 1) (v := .string (B tx)) H1.out hgw); have cB := (Boxed.below' hbox HX.out hbl).cell; have fB := (Boxed.below' hbox HX.out hbl).frozen; have BKX := blk_put BKL 1 (.string (B tx)) rfl; clear hb2 hgL))
      go_end0
      obtain ⟨q1, q2, q3, q4⟩ := fin0 _ HX.out
      exact ⟨⟨_, rfl⟩, vo, q1, by rw [HLine.out, List.append_nil]; exact q2, q3, q4⟩
    · rw [if_neg he] at hline
      have HLine := Aside0.mk hline
      have hee : (B tx).toList.isEmpty = false := by rw [B_toList]; exact List.isEmpty_eq_false_iff.2 he
      have HE := Aside0.mk he
      clear he hline
      go_enter Tryd.func59, Tryd.ntmps59
      go_wp2_with (first | (go_at_call 60; refine (strings_HasPrefix.calls _ _ true _ (congrArg some hrec)).mono ?_; rintro e1 w1 ⟨rfl, hd1⟩; have H1 := Aside0.mk (below_alloc hd1.below (.cells #[.int .i64 n, .string ⟨#[]⟩, .bool true] 39))) | (go_at_call 61; refine (HP.out _ (Kd.C_below HC.out H1.out)).mono ?_; rintro e2 w2 ⟨rfl, hb2⟩; obtain ⟨gL, hgL⟩ : ∃ g, w1.heap.size = g := ⟨_, rfl⟩; have hgw : w.heap.size ≤ gL := hgL ▸ hd1.below.size; have BKL := blk_below (blk_new w1 _) hb2; replace H1 := Aside0.mk (below_step H1.out hb2); rw [hgL] at BKL ⊢; have cz0 := blk_cell BKL 0; have cz1 := blk_cell BKL 1; have cz2 := blk_cell BKL 2; have cf1 := blk_frozen BKL 1; have HX := Aside0.mk (below_set (j := 1) (v := .string (B tx)) H1.out hgw); have cB := (Boxed.below' hbox HX.out hbl).cell; have fB := (Boxed.below' hbox HX.out hbl).frozen; have BKX := blk_put BKL 1 (.string (B tx)) rfl; clear hb2 hgL) | ((with_reducible refine gate_builtin (b := .append) (xs := #[.tmp 26, .tmp 28]) rfl ?_); at_builtin; refine Kd.R_append k39 (w0 := w) base rfl (.tmp 26) (.tmp 28) 34 39 (.agg #[.int .i64 0, .string ⟨#[]⟩, .bool false]) 32 rfl Tryd.underlying34 infoL rfl (by decide) (by omega) vo out (⟨n, B tx, true⟩ : S39) [.int .i64 n, .string (B tx), .bool true] (fun _ => True) (fun _ => False) rfl (by first | (go_simp; done) | (go_simp; rfl)) (k39_mkM _ _ _ _) (fun _ hk => hk.elim) (fun _ _ => trivial) (Kd.R_mono (Kd.R_below HO0.out HX.out) (fun _ _ => trivial)) (HX.out.mono hbase) (Nat.le_trans hbase HX.out.size) (by omega) ?_; intro v1 w5 ho hb hg hat; rw [← HLine.out] at ho; obtain ⟨q1, q2, q3, q4, q5⟩ := fin1 _ v1 w5 HX.out ho hb hg; obtain ⟨ad, cp, ev⟩ := Kd.R_slice1 ho (by rw [HLine.out]; simp); subst ev; simp only [List.length_append] at q1 q2 q3 q4 q5; have cB5 := q1.cell; have fB5 := q1.frozen))
      go_end0
      exact ⟨⟨_, rfl⟩, _, q2, q3, q4, q5⟩
  | false =>
    rw [if_neg (by decide)] at htext
    have HTx := Aside0.mk htext
    clear htext HText
    by_cases he : tx = []
    · rw [if_pos he] at hline
      have HLine := Aside0.mk hline
      have hee : (B tx).toList.isEmpty = true := by rw [B_toList]; rw [he]; rfl
      have HE := Aside0.mk he
      clear he hline
      go_enter Tryd.func59, Tryd.ntmps59
      go_wp2_with (first | (go_at_call 60; refine (strings_HasPrefix.calls _ _ false _ (congrArg some hrec)).mono ?_; rintro e1 w1 ⟨rfl, hd1⟩; have H1 := Aside0.mk (below_alloc hd1.below (.cells #[.int .i64 n, .string ⟨#[]⟩, .bool false] 39))) | (go_at_call 61; refine (HP.out _ (Kd.C_below HC.out H1.out)).mono ?_; rintro e2 w2 ⟨rfl, hb2⟩; obtain ⟨gL, hgL⟩ : ∃ g, w1.heap.size = g := ⟨_, rfl⟩; have hgw : w.heap.size ≤ gL := hgL ▸ hd1.below.size; have BKL := blk_below (blk_new w1 _) hb2; replace H1 := Aside0.mk (below_step H1.out hb2); rw [hgL] at BKL ⊢; have cz0 := blk_cell BKL 0; have cz1 := blk_cell BKL 1; have cz2 := blk_cell BKL 2; have cf1 := blk_frozen BKL 1; have HX := Aside0.mk (below_set (j := 1) (v := .string (B pu)) H1.out hgw); have cB := (Boxed.below' hbox HX.out hbl).cell; have fB := (Boxed.below' hbox HX.out hbl).frozen; have BKX := blk_put BKL 1 (.string (B pu)) rfl; clear hb2 hgL) | (go_at_call 63; refine (bare_calls pu HPl.out _).mono ?_; rintro e3 w3 ⟨rfl, hb3⟩; replace BKX := blk_below BKX hb3; replace HX := Aside0.mk (below_step HX.out hb3); clear hb3 cz0 cz1 cz2 cf1 cB fB BKL H1) | (go_at_call 62; refine (words_Trim.calls (B (bareA pu 0 [])) (B tx) _ (by rw [HTx.out]; exact HT.out)).mono ?_; rintro e4 w4 ⟨rfl, hb4⟩; replace BKX := blk_below BKX hb4; replace HX := Aside0.mk (below_step HX.out hb4); have cz0 := blk_cell BKX 0; have cz1 := blk_cell BKX 1; have cz2 := blk_cell BKX 2; have cf1 := blk_frozen BKX 1; replace HX := Aside0.mk (below_set (j := 1) (v := .string (B tx)) HX.out hgw); have cB := (Boxed.below' hbox HX.out hbl).cell; have fB := (Boxed.below' hbox HX.out hbl).frozen; replace BKX := blk_put BKX 1 (.string (B tx)) rfl; clear hb4))
      go_end0
      obtain ⟨q1, q2, q3, q4⟩ := fin0 _ HX.out
      exact ⟨⟨_, rfl⟩, vo, q1, by rw [HLine.out, List.append_nil]; exact q2, q3, q4⟩
    · rw [if_neg he] at hline
      have HLine := Aside0.mk hline
      have hee : (B tx).toList.isEmpty = false := by rw [B_toList]; exact List.isEmpty_eq_false_iff.2 he
      have HE := Aside0.mk he
      clear he hline
      go_enter Tryd.func59, Tryd.ntmps59
      go_wp2_with (first | (go_at_call 60; refine (strings_HasPrefix.calls _ _ false _ (congrArg some hrec)).mono ?_; rintro e1 w1 ⟨rfl, hd1⟩; have H1 := Aside0.mk (below_alloc hd1.below (.cells #[.int .i64 n, .string ⟨#[]⟩, .bool false] 39))) | (go_at_call 61; refine (HP.out _ (Kd.C_below HC.out H1.out)).mono ?_; rintro e2 w2 ⟨rfl, hb2⟩; obtain ⟨gL, hgL⟩ : ∃ g, w1.heap.size = g := ⟨_, rfl⟩; have hgw : w.heap.size ≤ gL := hgL ▸ hd1.below.size; have BKL := blk_below (blk_new w1 _) hb2; replace H1 := Aside0.mk (below_step H1.out hb2); rw [hgL] at BKL ⊢; have cz0 := blk_cell BKL 0; have cz1 := blk_cell BKL 1; have cz2 := blk_cell BKL 2; have cf1 := blk_frozen BKL 1; have HX := Aside0.mk (below_set (j := 1) (v := .string (B pu)) H1.out hgw); have cB := (Boxed.below' hbox HX.out hbl).cell; have fB := (Boxed.below' hbox HX.out hbl).frozen; have BKX := blk_put BKL 1 (.string (B pu)) rfl; clear hb2 hgL) | (go_at_call 63; refine (bare_calls pu HPl.out _).mono ?_; rintro e3 w3 ⟨rfl, hb3⟩; replace BKX := blk_below BKX hb3; replace HX := Aside0.mk (below_step HX.out hb3); clear hb3 cz0 cz1 cz2 cf1 cB fB BKL H1) | (go_at_call 62; refine (words_Trim.calls (B (bareA pu 0 [])) (B tx) _ (by rw [HTx.out]; exact HT.out)).mono ?_; rintro e4 w4 ⟨rfl, hb4⟩; replace BKX := blk_below BKX hb4; replace HX := Aside0.mk (below_step HX.out hb4); have cz0 := blk_cell BKX 0; have cz1 := blk_cell BKX 1; have cz2 := blk_cell BKX 2; have cf1 := blk_frozen BKX 1; replace HX := Aside0.mk (below_set (j := 1) (v := .string (B tx)) HX.out hgw); have cB := (Boxed.below' hbox HX.out hbl).cell; have fB := (Boxed.below' hbox HX.out hbl).frozen; replace BKX := blk_put BKX 1 (.string (B tx)) rfl; clear hb4) | ((with_reducible refine gate_builtin (b := .append) (xs := #[.tmp 26, .tmp 28]) rfl ?_); at_builtin; refine Kd.R_append k39 (w0 := w) base rfl (.tmp 26) (.tmp 28) 34 39 (.agg #[.int .i64 0, .string ⟨#[]⟩, .bool false]) 32 rfl Tryd.underlying34 infoL rfl (by decide) (by omega) vo out (⟨n, B tx, false⟩ : S39) [.int .i64 n, .string (B tx), .bool false] (fun _ => True) (fun _ => False) rfl (by first | (go_simp; done) | (go_simp; rfl)) (k39_mkM _ _ _ _) (fun _ hk => hk.elim) (fun _ _ => trivial) (Kd.R_mono (Kd.R_below HO0.out HX.out) (fun _ _ => trivial)) (HX.out.mono hbase) (Nat.le_trans hbase HX.out.size) (by omega) ?_; intro v1 w5 ho hb hg hat; rw [← HLine.out] at ho; obtain ⟨q1, q2, q3, q4, q5⟩ := fin1 _ v1 w5 HX.out ho hb hg; obtain ⟨ad, cp, ev⟩ := Kd.R_slice1 ho (by rw [HLine.out]; simp); subst ev; simp only [List.length_append] at q1 q2 q3 q4 q5; have cB5 := q1.cell; have fB5 := q1.frozen))
      go_end0
      exact ⟨⟨_, rfl⟩, _, q2, q3, q4, q5⟩
end Go.Proofs.YtgpabkdmagifjaaDoor.X
