/- Texts of this claim, one behind the other (merged by the session's own program merge.py: a claim bears sixty files): HCmd, PLexE, PLexF, HParse, HRight, HOf, PLexG, PLexI, PParseB, XW06x0, XW06x1, XW06x2, XW06x, PParseC, PParseD, HSame, HLawParse, PParseE, PParseF, HLawShows. -/
import Derived.Deep.RegionLaw
import Derived.BigRegion
import Derived.RangeFuncBox
import Derived.Test.YtogbdjboblfokaaDoorProg
import Derived.Below
import Derived.Deep.Draws
import Derived.Deep.AppendLies
import Derived.Maps.AppendAt
import Derived.OwnWalk
import Derived.Laws.BytesArg
import Derived.Laws.MakeOwn
import Derived.Laws.OwnMore
import Derived.Deep.OwnRows
import Derived.Tactics
import Derived.Lib.ConvBytes
import Derived.Laws.Slices
import Derived.WalkKit
import Derived.KernelRfl
import Derived.RowKit3
import Derived.Deep.LoopGhost
import Derived.Deep.QuietTactic
import Derived.BigQuiet
import Derived.WideLaws
import Derived.Deep.DeepCutAuto
import Derived.Deep.CutBlock
import Derived.Deep.RegionHeld3
import Derived.Laws.Rows
import Derived.Lib.AppendStr
import Derived.ArgAppend
import Derived.Laws.IdiomCopy
import Derived.OrdersHeld
import Derived.Laws.BitsLemmas
import Derived.RowKit
import Derived.WalkLawsBesides
import Derived.Test.YtogbdjboblfokaaDoorWWords
import Derived.Test.YtogbdjboblfokaaDoorWLast
import Derived.Test.YtogbdjboblfokaaDoorWTab
import Derived.Test.YtogbdjboblfokaaDoorWFour
import Derived.Test.YtogbdjboblfokaaDoorWQPut
import Derived.Test.YtogbdjboblfokaaDoorWApart
import Derived.Test.YtogbdjboblfokaaDoorWArr
import Derived.Test.YtogbdjboblfokaaDoorWZeros
import Derived.Test.YtogbdjboblfokaaDoorWFoot
import Derived.Test.YtogbdjboblfokaaDoorWKept
import Derived.Test.YtogbdjboblfokaaDoorWShare
import Derived.Test.YtogbdjboblfokaaDoorWN
import Derived.Test.YtogbdjboblfokaaDoorWFootNe
import Derived.Test.YtogbdjboblfokaaDoorWAt
import Derived.Test.YtogbdjboblfokaaDoorWEqStruct
import Derived.Test.YtogbdjboblfokaaDoorWRepsOne
import Derived.Test.YtogbdjboblfokaaDoorWInv
import Derived.Test.YtogbdjboblfokaaDoorWInvWords
import Derived.Test.YtogbdjboblfokaaDoorWGuard
import Derived.Test.YtogbdjboblfokaaDoorWNEv
import Derived.Test.YtogbdjboblfokaaDoorWMore
import Derived.Test.YtogbdjboblfokaaDoorZPSB
/- parse.reader.command as a contract over the tokens' row. -/
namespace Go.Proofs.YtogbdjboblfokaaDoor.X
open Go.RowKit Go.Proofs.YtogbdjboblfokaaDoorW.PrintWords Go.Proofs.YtogbdjboblfokaaDoorW.PrintLast Go.Proofs.YtogbdjboblfokaaDoorW.PrintMore Go.Proofs.YtogbdjboblfokaaDoor.XW05 Go.Proofs.YtogbdjboblfokaaDoor.XT06
set_option linter.unusedSimpArgs false
set_option linter.unusedVariables false

theorem R_grown_ty {α : Type} {d : Kd α} {e base t : Nat} {ok : Nat → Prop} {w w1 : World} {v : Value} {xs : List α} {row : Option Nat} (h : d.R e w base ok v xs) (hg : w.grownBy w1 row)
    (ht : ∀ k, row = some k → ∃ cells, w.heap[k]? = some (.cells cells t (0, 0))) (hne : ∀ q, q ∈ e :: d.E → q ≠ t) : d.R e w1 base ok v xs := by
  refine Kd.R_mono (Kd.R_grown (Kd.R_bound h) hg (fun k hk e_ => ?_)) (fun k hk => hk.1)
  obtain ⟨_, _, _, q, hq, cells, hc⟩ := hk
  obtain ⟨cells', hc'⟩ := ht k e_.symm
  rw [hc] at hc'
  injection hc' with hc'
  injection hc' with _ hc' _
  exact hne q hq hc'
theorem blk_grown_ty {g t t' : Nat} {cs : Array Value} {w w1 : World} {row : Option Nat} (h : w.heap[g]? = some (.cells cs t' (0, 0))) (hg : w.grownBy w1 row)
    (ht : ∀ k, row = some k → ∃ cells, w.heap[k]? = some (.cells cells t (0, 0))) (hne : t' ≠ t) : w1.heap[g]? = some (.cells cs t' (0, 0)) := by
  refine blk_grown h hg (fun e => ?_)
  obtain ⟨cells, hc⟩ := ht g e.symm
  rw [h] at hc
  injection hc with hc
  injection hc with _ hc _
  exact hne hc
theorem R_row_ty {α : Type} {d : Kd α} {e base : Nat} {ok : Nat → Prop} {w : World} {v : Value} {xs : List α} (h : d.R e w base ok v xs) : ∀ k, v.ownBlock = some k → ∃ cells, w.heap[k]? = some (.cells cells e (0, 0)) := by
  obtain ⟨inner, hown, _⟩ := h.2
  exact fun k hk => own_typed hown k hk
theorem R_is {α : Type} {d : Kd α} {e base : Nat} {ok : Nat → Prop} {w : World} {v : Value} {xs : List α} (h : d.R e w base ok v xs) : ∃ A n c, v = .slice A n c := by
  obtain ⟨A, c, e⟩ := Kd.R_slice h
  exact ⟨A, _, c, e⟩
def toT (t : Int × List UInt8) : S42 := ⟨t.1, B t.2⟩

/-- What holds between the rounds of command. -/
structure CI (w : World) (base : Nat) (ok : Nat → Prop) (br b N C : Nat) (toks : List Tok) (on : Int) (vw vt : Value) (j : Nat) (ws : List (List UInt8)) (ts : List (Int × List UInt8)) (W : World) : Prop where
  rd : RdI br b j N W
  tok : Kd.R k66 66 W base ok (.slice (some ⟨b, 0, none⟩) N C) (toks.map s83)
  c4 : W.heap[w.heap.size]? = some (.cells #[.int .i64 0, .slice none 0 0, .slice none 0 0] 40 (0, 0))
  c6 : W.heap[w.heap.size + 1]? = some (.cells #[.int .i64 on, vw, vt] 40 (0, 0))
  rw : Kd.R Kd.string 9 W w.heap.size (fun _ => True) vw (ws.map B)
  rt : Kd.R k42 42 W w.heap.size (fun _ => True) vt (ts.map toT)
  gr : w.grownBy W (some br)
section
variable {w W W1 : World} {base br b N C j : Nat} {ok : Nat → Prop} {toks : List Tok} {on : Int} {vw vt : Value} {ws : List (List UInt8)} {ts : List (Int × List UInt8)}
theorem RdI.ty {br b i N : Nat} {W : World} (h : RdI br b i N W) : ∀ k, some br = some k → ∃ cells, W.heap[k]? = some (.cells cells 62 (0, 0)) := by
  obtain ⟨_, A, c, hb, _⟩ := h
  intro k hk
  injection hk with hk
  subst hk
  exact ⟨_, hb⟩
theorem RdI.grown {br b i N t : Nat} {W W1 : World} {row : Option Nat} (h : RdI br b i N W) (hg : W.grownBy W1 row) (ht : ∀ k, row = some k → ∃ cells, W.heap[k]? = some (.cells cells t (0, 0))) (hne : 62 ≠ t) : RdI br b i N W1 := by
  obtain ⟨hi, A, c, hb, hA⟩ := h
  exact ⟨hi, A, c, blk_grown_ty hb hg ht hne, hA⟩
theorem CI.new (h : CI w base ok br b N C toks on vw vt j ws ts W) (hg : W.grownBy W1 none) : CI w base ok br b N C toks on vw vt j ws ts W1 := by
  have nn : ∀ (t : Nat) (k : Nat), (none : Option Nat) = some k → ∃ cells, W.heap[k]? = some (.cells cells t (0, 0)) := fun _ _ e => by cases e
  exact ⟨h.rd.grown hg (nn 0) (by decide), R_grown_ty h.tok hg (nn 0) (by decide), blk_grown_ty h.c4 hg (nn 0) (by decide), blk_grown_ty h.c6 hg (nn 0) (by decide), R_grown_ty h.rw hg (nn 0) (by decide), R_grown_ty h.rt hg (nn 0) (by decide), h.gr.trans ⟨hg.os, hg.tape, hg.output, hg.size, fun i hi _ => hg.block i hi (by simp)⟩⟩
theorem CI.take (h : CI w base ok br b N C toks on vw vt j ws ts W) {j1 : Nat} (hr : RdI br b j1 N W1) (hg : W.grownBy W1 (some br)) : CI w base ok br b N C toks on vw vt j1 ws ts W1 :=
  ⟨hr, R_grown_ty h.tok hg h.rd.ty (by decide), blk_grown_ty h.c4 hg h.rd.ty (by decide), blk_grown_ty h.c6 hg h.rd.ty (by decide), R_grown_ty h.rw hg h.rd.ty (by decide), R_grown_ty h.rt hg h.rd.ty (by decide), h.gr.trans hg⟩
theorem CI.word (h : CI w base ok br b N C toks on vw vt j ws ts W) {v1 : Value} {ws1 : List (List UInt8)} (hg : W.grownBy W1 vw.ownBlock) (ho : Kd.R Kd.string 9 W1 w.heap.size (fun _ => True) v1 (ws1.map B)) :
    CI w base ok br b N C toks on v1 vt j ws1 ts (W1.setCell ⟨w.heap.size + 1, 1, none⟩ v1) := by
  have ht := R_row_ty h.rw
  have c6 := blk_grown_ty h.c6 hg ht (by decide)
  have hs := World.grownBy_set W1 (w.heap.size + 1) 1 v1
  have hst : ∀ k, some (w.heap.size + 1) = some k → ∃ cells, W1.heap[k]? = some (.cells cells 40 (0, 0)) := by
    intro k hk; injection hk with hk; subst hk; exact ⟨_, c6⟩
  have c4 := blk_grown_ty h.c4 hg ht (by decide)
  refine ⟨(h.rd.grown hg ht (by decide)).grown hs hst (by decide), R_grown_ty (R_grown_ty h.tok hg ht (by decide)) hs hst (by decide), ?_, blk_put c6 1 v1 rfl, R_grown_ty ho hs hst (by decide), R_grown_ty (R_grown_ty h.rt hg ht (by decide)) hs hst (by decide), ?_⟩
  · exact blk_far c4 (by simp) v1
  · refine (h.gr.andThen hg (fun k hk => ?_)).andThen hs (fun k hk => ?_)
    · exact .inl (Kd.R_base h.rw k hk)
    · injection hk with hk; exact .inl (by omega)
theorem CI.way (h : CI w base ok br b N C toks on vw vt j ws ts W) {v1 : Value} {ts1 : List (Int × List UInt8)} (hg : W.grownBy W1 vt.ownBlock) (ho : Kd.R k42 42 W1 w.heap.size (fun _ => True) v1 (ts1.map toT)) :
    CI w base ok br b N C toks on vw v1 j ws ts1 (W1.setCell ⟨w.heap.size + 1, 2, none⟩ v1) := by
  have ht := R_row_ty h.rt
  have c6 := blk_grown_ty h.c6 hg ht (by decide)
  have hs := World.grownBy_set W1 (w.heap.size + 1) 2 v1
  have hst : ∀ k, some (w.heap.size + 1) = some k → ∃ cells, W1.heap[k]? = some (.cells cells 40 (0, 0)) := by
    intro k hk; injection hk with hk; subst hk; exact ⟨_, c6⟩
  have c4 := blk_grown_ty h.c4 hg ht (by decide)
  refine ⟨(h.rd.grown hg ht (by decide)).grown hs hst (by decide), R_grown_ty (R_grown_ty h.tok hg ht (by decide)) hs hst (by decide), ?_, blk_put c6 2 v1 rfl, R_grown_ty (R_grown_ty h.rw hg ht (by decide)) hs hst (by decide), R_grown_ty ho hs hst (by decide), ?_⟩
  · exact blk_far c4 (by simp) v1
  · refine (h.gr.andThen hg (fun k hk => ?_)).andThen hs (fun k hk => ?_)
    · exact .inl (Kd.R_base h.rt k hk)
    · injection hk with hk; exact .inl (by omega)
end

theorem CI.fin {w W : World} {base br b N C j : Nat} {ok : Nat → Prop} {toks : List Tok} {on : Int} {vw vt : Value} {ws : List (List UInt8)} {ts : List (Int × List UInt8)} (h : CI w base ok br b N C toks on vw vt j ws ts W) (x y z : Value) {X : World}
    (hX : X = ((W.setCell ⟨w.heap.size, 0, none⟩ x).setCell ⟨w.heap.size, 1, none⟩ y).setCell ⟨w.heap.size, 2, none⟩ z) :
    RdI br b j N X ∧ Kd.R Kd.string 9 X w.heap.size (fun _ => True) vw (ws.map B) ∧ Kd.R k42 42 X w.heap.size (fun _ => True) vt (ts.map toT) ∧ w.grownBy X (some br) ∧ X.heap[w.heap.size]? = some (.cells #[x, y, z] 40 (0, 0)) := by
  subst hX
  have b1 := blk_put h.c4 0 x (cs' := #[x, .slice none 0 0, .slice none 0 0]) rfl
  have b2 := blk_put b1 1 y (cs' := #[x, y, .slice none 0 0]) rfl
  have b3 := blk_put b2 2 z (cs' := #[x, y, z]) rfl
  have g1 := World.grownBy_set W w.heap.size 0 x
  have g2 := World.grownBy_set (W.setCell ⟨w.heap.size, 0, none⟩ x) w.heap.size 1 y
  have g3 := World.grownBy_set ((W.setCell ⟨w.heap.size, 0, none⟩ x).setCell ⟨w.heap.size, 1, none⟩ y) w.heap.size 2 z
  have g := (g1.trans g2).trans g3
  have ht : ∀ k, some w.heap.size = some k → ∃ cells, W.heap[k]? = some (.cells cells 40 (0, 0)) := by
    intro k hk; injection hk with hk; subst hk; exact ⟨_, h.c4⟩
  exact ⟨h.rd.grown g ht (by decide), R_grown_ty h.rw g ht (by decide), R_grown_ty h.rt g ht (by decide), h.gr.andThen g (fun k hk => by injection hk with hk; exact .inl (by omega)), b3⟩
/-- What command's answer says. -/
def CmdEnd (br b N : Nat) (toks : List Tok) (w w' : World) (on' : Int) (vw vt : Value) (okb : Bool) : Option (Cmd × List Tok) → Prop
  | none => okb = false
  | some (c, r) => okb = true ∧ on' = c.on ∧ ∃ j, r = toks.drop j ∧ RdI br b j N w' ∧ Kd.R Kd.string 9 w' w.heap.size (fun _ => True) vw (c.words.map B) ∧ Kd.R k42 42 w' w.heap.size (fun _ => True) vt (c.tos.map toT)
theorem field1 (k : Int) (x : ByteArray) (W : World) : Sem.run Tryd.prog (Instr.field 66 (Value.agg #[Value.int IntKind.i64 k, Value.string x]) 1) W = .ok (.string x) W := by kernel_rfl
theorem grown_drew0 (W : World) : W.grownBy W.drew none := ⟨rfl, rfl, rfl, Nat.le_refl _, fun _ _ _ => rfl⟩
set_option maxRecDepth 100000 in
set_option maxHeartbeats 8000000 in
theorem command_calls {base : Nat} {ok : Nat → Prop} (br b i N C : Nat) (on : Int) (toks : List Tok) (w : World) (hN : toks.length = N) (hNl : N < 1000000000) (h6 : ∀ x ∈ toks, x.1 ≤ 6) (h : RdI br b i N w)
    (hT : Kd.R k66 66 w base ok (.slice (some ⟨b, 0, none⟩) N C) (toks.map s83)) :
    Calls Tryd.prog 20 #[.pointer (some ⟨br, 0, none⟩), .int .i64 on] w fun e w' => ∃ (on' : Int) (Aw : Option Addr) (nw cw : Nat) (At : Option Addr) (nt ct : Nat) (okb : Bool), e = .returned (.tuple #[.agg #[.int .i64 on', .slice Aw nw cw, .slice At nt ct], .bool okb]) ∧ w.grownBy w' (some br) ∧
      CmdEnd br b N toks w w' on' (.slice Aw nw cw) (.slice At nt ct) okb (cmdS on [] [] (toks.drop i)) := by
  have infoS : (Tryd.prog.info? 9).map (fun i => (i.zero, i.size, i.bytes)) = some (some (.string ⟨#[]⟩), 1, 16) := by kernel_rfl
  have infoT : (Tryd.prog.info? 42).map (fun i => (i.zero, i.size, i.bytes)) = some (some (.agg #[.int .i64 0, .string ⟨#[]⟩]), 2, 24) := by kernel_rfl
  obtain ⟨CM, hCM⟩ : ∃ x, cmdS on [] [] (toks.drop i) = x := ⟨_, rfl⟩
  rw [hCM]
  have HJ0 := Aside0.mk (show CI w base ok br b N C toks on (.slice none 0 0) (.slice none 0 0) i [] [] ((w.alloc (.cells #[.int .i64 0, .slice none 0 0, .slice none 0 0] 40)).alloc (.cells #[.int .i64 on, .slice none 0 0, .slice none 0 0] 40)) from by
    have nn : ∀ (t : Nat) (k : Nat), (none : Option Nat) = some k → ∃ cells, w.heap[k]? = some (.cells cells t (0, 0)) := fun _ _ e => by cases e
    have hg : w.grownBy ((w.alloc (.cells #[.int .i64 0, .slice none 0 0, .slice none 0 0] 40)).alloc (.cells #[.int .i64 on, .slice none 0 0, .slice none 0 0] 40)) none := (World.grownBy_alloc _ _ _).trans (World.grownBy_alloc _ _ _)
    refine ⟨h.grown hg (nn 0) (by decide), R_grown_ty hT hg (nn 0) (by decide), blk_alloc (blk_new w _) _, ?_, Kd.R_nil _ _ _ _ _, Kd.R_nil _ _ _ _ _, (World.grownBy_alloc _ _ _).trans (World.grownBy_alloc _ _ _)⟩
    have := blk_new (w.alloc (.cells #[.int .i64 0, .slice none 0 0, .slice none 0 0] 40)) (.cells #[.int .i64 on, .slice none 0 0, .slice none 0 0] 40 (0, 0))
    rw [show (w.alloc (.cells #[.int .i64 0, .slice none 0 0, .slice none 0 0] 40)).heap.size = w.heap.size + 1 by simp] at this
    exact this)
  have HCM := Aside0.mk hCM
  clear hCM h hT
  go_enter Tryd.func20, Tryd.ntmps20
  go_wp2
  go_loopg [7] (N + 1) (fun g v7 wr => ∃ (j : Nat) (ws : List (List UInt8)) (ts : List (Int × List UInt8)) (vw vt : Value), j ≤ N ∧ N - j < g ∧ ws.length ≤ j ∧ ts.length ≤ j
    ∧ Aside0 (CI w base ok br b N C toks on vw vt j ws ts wr) ∧ Aside0 (cmdS on ws ts (toks.drop j) = CM))
  case atStart => exact ⟨i, [], [], _, _, HJ0.out.rd.1, by have := HJ0.out.rd.1; omega, by simp, by simp, HJ0, HCM⟩
  case round =>
    obtain ⟨j, ws, ts, vw, vt, hj, hg, hws, hts, HJ, HR⟩ := hrel
    obtain ⟨Aw, cw, ew⟩ := Kd.R_slice HJ.out.rw
    rw [List.length_map] at ew
    obtain ⟨At, ct, et⟩ := Kd.R_slice HJ.out.rt
    rw [List.length_map] at et
    subst ew et
    have HJd := Aside0.mk (HJ.out.new (grown_drew0 _))
    have c1d : wr.drew.cell? ⟨w.heap.size + 1, 1, none⟩ = some (.slice Aw ws.length cw) := blk_cell HJd.out.c6 1
    have c2d : wr.drew.cell? ⟨w.heap.size + 1, 2, none⟩ = some (.slice At ts.length ct) := blk_cell HJd.out.c6 2
    by_cases hlt : j < N
    · have hdr := drop_get toks j (by omega)
      obtain ⟨k, x, hx⟩ : ∃ k x, toks[j]'(by omega) = (k, x) := ⟨_, _, rfl⟩
      have hk6 : k ≤ 6 := by have := h6 _ (List.getElem_mem (show j < toks.length by omega)); rw [hx] at this; exact this
      have hn : nextK (toks.drop j) = (k : Int) := by rw [hdr, hx]; rfl
      have htk : ∀ W, RdI br b j N W → Kd.R k66 66 W base ok (.slice (some ⟨b, 0, none⟩) N C) (toks.map s83) → Calls Tryd.prog 21 #[.pointer (some ⟨br, 0, none⟩)] W fun e w' => e = .returned (.agg #[.int .i64 (k : Int), .string (B x)]) ∧ RdI br b (j + 1) N w' ∧ W.grownBy w' (some br) := by
        intro W h1 h2
        have := take_calls br b j N C toks W hN h1 (by omega) h2
        rw [hx] at this
        exact this
      rw [hx] at hdr
      have hnx : ∀ W, RdI br b j N W → Kd.R k66 66 W base ok (.slice (some ⟨b, 0, none⟩) N C) (toks.map s83) → Calls Tryd.prog 43 #[.pointer (some ⟨br, 0, none⟩)] W fun e w' => e = .returned (.int .i64 (k : Int)) ∧ w' = W := by
        intro W h1 h2
        have := next_calls br b j N C toks W hN h1 h2
        rw [hn] at this
        exact this
      have HDR := Aside0.mk hdr
      have HTK := Aside0.mk htk
      have HNX := Aside0.mk hnx
      clear hn hdr htk hnx hx
      by_cases h0 : k = 0
      · subst h0
        have hz : ((((0 : Nat) : Int)) == 0) = true := rfl
        go_wp2_with (go_at_call 43; refine (HNX.out _ HJ.out.rd HJ.out.tok).mono ?_; rintro e1 w1 ⟨rfl, rfl⟩)
        have hfield := field1 (0 : Int) (B x)
        go_region_law (first | (refine Kd.R_append_step Kd.string (w0 := w2) w.heap.size (by rfl) (.tmp 21) (.tmp 25) 37 9 (.string ⟨#[]⟩) 16 rfl Tryd.underlying37 infoS rfl (by decide) (by omega) (.slice Aw ws.length cw) (ws.map B) (B x) [.string (B x)] (fun _ => True) (fun _ => False) rfl rfl rfl (fun _ hk => hk.elim) (fun _ _ => trivial) J2.out.rw (Below.refl _ _) J2.out.gr.size (by rw [List.length_map]; omega) ?_; intro v1 w3 ho hb hg3 hat; obtain ⟨A1, n1, q1, e1⟩ := R_is ho; subst e1; rw [show ws.map B ++ [B x] = (ws ++ [x]).map B by simp] at ho; have J3 := Aside0.mk (J2.out.word hg3 ho); have k6 := blk_grown_ty J2.out.c6 hg3 (R_row_ty J2.out.rw) (by decide); have s1 := blk_cell k6 1; have s2 := blk_frozen k6 1; clear ho hb hg3 hat k6) | ((go_simp; go_wp2_with (go_at_call 21; refine (HTK.out _ HJd.out.rd HJd.out.tok).mono ?_; rintro e2 w2 ⟨rfl, hr2, hg2⟩; have J2 := Aside0.mk (HJd.out.take hr2 hg2); have cc1 := blk_cell J2.out.c6 1; have cc1a := blk_cell (blk_alloc J2.out.c6 (.cells #[.string (B x)] 9)) 1; clear hr2 hg2))))
        all_goals
          go_wp2
          go_roundg (gk - 1)
          case measure => omega
          case rel => exact ⟨j + 1, ws ++ [x], ts, _, _, by omega, by omega, by simp; omega, by omega, J3, ⟨by rw [← HR.out, HDR.out, cmdS_word]⟩⟩
      · by_cases h4 : 4 ≤ k
        · obtain ⟨kk, hkk⟩ : ∃ kk : Nat, (k : Int) = (kk : Int) := ⟨k, rfl⟩
          by_cases hy : ∃ (h : j + 1 < toks.length) (y : List UInt8), toks[j + 1] = (0, y)
          · obtain ⟨hj1, y, hy⟩ := hy
            have htk2 : ∀ W, RdI br b (j + 1) N W → Kd.R k66 66 W base ok (.slice (some ⟨b, 0, none⟩) N C) (toks.map s83) → Calls Tryd.prog 21 #[.pointer (some ⟨br, 0, none⟩)] W fun e w' => e = .returned (.agg #[.int .i64 (0 : Int), .string (B y)]) ∧ RdI br b (j + 2) N w' ∧ W.grownBy w' (some br) := by
              intro W h1 h2
              have := take_calls br b (j + 1) N C toks W hN h1 hj1 h2
              rw [hy] at this
              exact this
            have hdr2 := drop_get toks (j + 1) hj1
            rw [hy] at hdr2
            have hnx2 : ∀ W, RdI br b (j + 1) N W → Kd.R k66 66 W base ok (.slice (some ⟨b, 0, none⟩) N C) (toks.map s83) → Calls Tryd.prog 43 #[.pointer (some ⟨br, 0, none⟩)] W fun e w' => e = .returned (.int .i64 0) ∧ w' = W := by
              intro W h1 h2
              have := next_calls br b (j + 1) N C toks W hN h1 h2
              rw [hdr2] at this
              exact this
            have HTK2 := Aside0.mk htk2
            have HNX2 := Aside0.mk hnx2
            have HRR := Aside0.mk (show cmdS on ws (ts ++ [((k : Int), y)]) (toks.drop (j + 2)) = CM by rw [← HR.out, HDR.out, hdr2, cmdS_to _ _ _ k h4])
            have hfield := field1 (0 : Int) (B y)
            have hkk2 : k = 4 ∨ k = 5 ∨ k = 6 := by omega
            have HL := Aside0.mk hj1
            clear htk2 hnx2 hdr2 hy h0 h4 hkk kk hk6 hj1
            rcases hkk2 with rfl | rfl | rfl
            · go_wp2_with (first | (go_at_call 43; first | (refine (HNX2.out _ J2.out.rd J2.out.tok).mono ?_; rintro e4 w4 ⟨rfl, rfl⟩) | (refine (HNX.out _ HJ.out.rd HJ.out.tok).mono ?_; rintro e1 w1 ⟨rfl, rfl⟩)) | (go_at_call 21; refine (HTK.out _ HJ.out.rd HJ.out.tok).mono ?_; rintro e2 w2 ⟨rfl, hr2, hg2⟩; have J2 := Aside0.mk (HJ.out.take hr2 hg2); have J2d := Aside0.mk (J2.out.new (grown_drew0 _)); have c3d : w2.drew.cell? ⟨w.heap.size + 1, 2, none⟩ = some (.slice At ts.length ct) := blk_cell J2d.out.c6 2; have d0 := blk_cell J2.out.c4 0; have d1 := blk_cell J2.out.c4 1; have d2 := blk_cell J2.out.c4 2; have q0 := blk_frozen J2.out.c4 0; have q1 := blk_frozen J2.out.c4 1; have q2 := blk_frozen J2.out.c4 2; clear hr2 hg2))
              go_region_law (first | (refine Kd.R_append_step k42 (w0 := w3) w.heap.size (by rfl) (.tmp 39) (.tmp 45) 38 42 (.agg #[.int .i64 0, .string ⟨#[]⟩]) 24 rfl Tryd.underlying38 infoT rfl (by decide) (by omega) (.slice At ts.length ct) (ts.map toT) (⟨(4 : Int), B y⟩ : S42) [.int .i64 (4 : Int), .string (B y)] (fun _ => True) (fun _ => False) rfl rfl (k42_mkM _ _ _ _) (fun _ hk => hk.elim) (fun _ _ => trivial) J3.out.rt (Below.refl _ _) J3.out.gr.size (by rw [List.length_map]; omega) ?_; intro v1 w4 ho hb hg3 hat; obtain ⟨A1, n1, q1, e1⟩ := R_is ho; subst e1; rw [show ts.map toT ++ [(⟨(4 : Int), B y⟩ : S42)] = (ts ++ [((4 : Int), y)]).map toT by simp [toT]] at ho; have J4 := Aside0.mk (J3.out.way hg3 ho); have k6 := blk_grown_ty J3.out.c6 hg3 (R_row_ty J3.out.rt) (by decide); have s1 := blk_cell k6 2; have s2 := blk_frozen k6 2; clear ho hb hg3 hat k6) | ((go_simp; go_wp2_with (go_at_call 21; refine (HTK2.out _ J2d.out.rd J2d.out.tok).mono ?_; rintro e3 w3 ⟨rfl, hr3, hg3⟩; have J3 := Aside0.mk (J2d.out.take hr3 hg3); have cc1 := blk_cell J3.out.c6 2; have cc1a := blk_cell (blk_alloc J3.out.c6 (.cells #[.int .i64 (4 : Int), .string (B y)] 42)) 2; clear hr3 hg3))))
              all_goals
                go_wp2
                go_roundg (gk - 1)
                case measure => have := HL.out; omega
                case rel => exact ⟨j + 2, ws, ts ++ [((4 : Int), y)], _, _, by have := HL.out; omega, by have := HL.out; omega, by omega, by simp; omega, J4, HRR⟩
            · go_wp2_with (first | (go_at_call 43; first | (refine (HNX2.out _ J2.out.rd J2.out.tok).mono ?_; rintro e4 w4 ⟨rfl, rfl⟩) | (refine (HNX.out _ HJ.out.rd HJ.out.tok).mono ?_; rintro e1 w1 ⟨rfl, rfl⟩)) | (go_at_call 21; refine (HTK.out _ HJ.out.rd HJ.out.tok).mono ?_; rintro e2 w2 ⟨rfl, hr2, hg2⟩; have J2 := Aside0.mk (HJ.out.take hr2 hg2); have J2d := Aside0.mk (J2.out.new (grown_drew0 _)); have c3d : w2.drew.cell? ⟨w.heap.size + 1, 2, none⟩ = some (.slice At ts.length ct) := blk_cell J2d.out.c6 2; have d0 := blk_cell J2.out.c4 0; have d1 := blk_cell J2.out.c4 1; have d2 := blk_cell J2.out.c4 2; have q0 := blk_frozen J2.out.c4 0; have q1 := blk_frozen J2.out.c4 1; have q2 := blk_frozen J2.out.c4 2; clear hr2 hg2))
              go_region_law (first | (refine Kd.R_append_step k42 (w0 := w3) w.heap.size (by rfl) (.tmp 39) (.tmp 45) 38 42 (.agg #[.int .i64 0, .string ⟨#[]⟩]) 24 rfl Tryd.underlying38 infoT rfl (by decide) (by omega) (.slice At ts.length ct) (ts.map toT) (⟨(5 : Int), B y⟩ : S42) [.int .i64 (5 : Int), .string (B y)] (fun _ => True) (fun _ => False) rfl rfl (k42_mkM _ _ _ _) (fun _ hk => hk.elim) (fun _ _ => trivial) J3.out.rt (Below.refl _ _) J3.out.gr.size (by rw [List.length_map]; omega) ?_; intro v1 w4 ho hb hg3 hat; obtain ⟨A1, n1, q1, e1⟩ := R_is ho; subst e1; rw [show ts.map toT ++ [(⟨(5 : Int), B y⟩ : S42)] = (ts ++ [((5 : Int), y)]).map toT by simp [toT]] at ho; have J4 := Aside0.mk (J3.out.way hg3 ho); have k6 := blk_grown_ty J3.out.c6 hg3 (R_row_ty J3.out.rt) (by decide); have s1 := blk_cell k6 2; have s2 := blk_frozen k6 2; clear ho hb hg3 hat k6) | ((go_simp; go_wp2_with (go_at_call 21; refine (HTK2.out _ J2d.out.rd J2d.out.tok).mono ?_; rintro e3 w3 ⟨rfl, hr3, hg3⟩; have J3 := Aside0.mk (J2d.out.take hr3 hg3); have cc1 := blk_cell J3.out.c6 2; have cc1a := blk_cell (blk_alloc J3.out.c6 (.cells #[.int .i64 (5 : Int), .string (B y)] 42)) 2; clear hr3 hg3))))
              all_goals
                go_wp2
                go_roundg (gk - 1)
                case measure => have := HL.out; omega
                case rel => exact ⟨j + 2, ws, ts ++ [((5 : Int), y)], _, _, by have := HL.out; omega, by have := HL.out; omega, by omega, by simp; omega, J4, HRR⟩
            · go_wp2_with (first | (go_at_call 43; first | (refine (HNX2.out _ J2.out.rd J2.out.tok).mono ?_; rintro e4 w4 ⟨rfl, rfl⟩) | (refine (HNX.out _ HJ.out.rd HJ.out.tok).mono ?_; rintro e1 w1 ⟨rfl, rfl⟩)) | (go_at_call 21; refine (HTK.out _ HJ.out.rd HJ.out.tok).mono ?_; rintro e2 w2 ⟨rfl, hr2, hg2⟩; have J2 := Aside0.mk (HJ.out.take hr2 hg2); have J2d := Aside0.mk (J2.out.new (grown_drew0 _)); have c3d : w2.drew.cell? ⟨w.heap.size + 1, 2, none⟩ = some (.slice At ts.length ct) := blk_cell J2d.out.c6 2; have d0 := blk_cell J2.out.c4 0; have d1 := blk_cell J2.out.c4 1; have d2 := blk_cell J2.out.c4 2; have q0 := blk_frozen J2.out.c4 0; have q1 := blk_frozen J2.out.c4 1; have q2 := blk_frozen J2.out.c4 2; clear hr2 hg2))
              go_region_law (first | (refine Kd.R_append_step k42 (w0 := w3) w.heap.size (by rfl) (.tmp 39) (.tmp 45) 38 42 (.agg #[.int .i64 0, .string ⟨#[]⟩]) 24 rfl Tryd.underlying38 infoT rfl (by decide) (by omega) (.slice At ts.length ct) (ts.map toT) (⟨(6 : Int), B y⟩ : S42) [.int .i64 (6 : Int), .string (B y)] (fun _ => True) (fun _ => False) rfl rfl (k42_mkM _ _ _ _) (fun _ hk => hk.elim) (fun _ _ => trivial) J3.out.rt (Below.refl _ _) J3.out.gr.size (by rw [List.length_map]; omega) ?_; intro v1 w4 ho hb hg3 hat; obtain ⟨A1, n1, q1, e1⟩ := R_is ho; subst e1; rw [show ts.map toT ++ [(⟨(6 : Int), B y⟩ : S42)] = (ts ++ [((6 : Int), y)]).map toT by simp [toT]] at ho; have J4 := Aside0.mk (J3.out.way hg3 ho); have k6 := blk_grown_ty J3.out.c6 hg3 (R_row_ty J3.out.rt) (by decide); have s1 := blk_cell k6 2; have s2 := blk_frozen k6 2; clear ho hb hg3 hat k6) | ((go_simp; go_wp2_with (go_at_call 21; refine (HTK2.out _ J2d.out.rd J2d.out.tok).mono ?_; rintro e3 w3 ⟨rfl, hr3, hg3⟩; have J3 := Aside0.mk (J2d.out.take hr3 hg3); have cc1 := blk_cell J3.out.c6 2; have cc1a := blk_cell (blk_alloc J3.out.c6 (.cells #[.int .i64 (6 : Int), .string (B y)] 42)) 2; clear hr3 hg3))))
              all_goals
                go_wp2
                go_roundg (gk - 1)
                case measure => have := HL.out; omega
                case rel => exact ⟨j + 2, ws, ts ++ [((6 : Int), y)], _, _, by have := HL.out; omega, by have := HL.out; omega, by omega, by simp; omega, J4, HRR⟩
          · have hnk : ∃ kx : Int, nextK (toks.drop (j + 1)) = kx ∧ (kx == 0) = false := by
              refine ⟨_, rfl, ?_⟩
              by_cases hj1 : j + 1 < toks.length
              · rw [drop_get toks (j + 1) hj1]
                obtain ⟨ky, y, hyy⟩ : ∃ ky y, toks[j + 1] = (ky, y) := ⟨_, _, rfl⟩
                rw [hyy]
                have : ¬ ky = 0 := by rintro rfl; exact hy ⟨hj1, y, hyy⟩
                simp [nextK, this]
              · rw [List.drop_eq_nil_of_le (by omega)]
                rfl
            obtain ⟨kx, hkx, hkx0⟩ := hnk
            have hcm : CM = none := by
              rw [← HR.out, HDR.out]
              refine cmdS_to0 _ _ _ k h4 x _ (fun y r' e => ?_)
              have hj1 : j + 1 < toks.length := by
                have := congrArg List.length e
                simp at this
                omega
              rw [drop_get toks (j + 1) hj1] at e
              injection e with e _
              exact hy ⟨hj1, y, e⟩
            have HCMN := Aside0.mk hcm
            have hnx2 : ∀ W, RdI br b (j + 1) N W → Kd.R k66 66 W base ok (.slice (some ⟨b, 0, none⟩) N C) (toks.map s83) → Calls Tryd.prog 43 #[.pointer (some ⟨br, 0, none⟩)] W fun e w' => e = .returned (.int .i64 kx) ∧ w' = W := by
              intro W h1 h2
              have := next_calls br b (j + 1) N C toks W hN h1 h2
              rw [hkx] at this
              exact this
            have HNX2 := Aside0.mk hnx2
            have hkk2 : k = 4 ∨ k = 5 ∨ k = 6 := by omega
            clear hnx2 hkx hcm hy h0 h4 hkk kk hk6
            rcases hkk2 with rfl | rfl | rfl
            all_goals
              go_wp2_with (first | (go_at_call 43; first | (refine (HNX2.out _ J2.out.rd J2.out.tok).mono ?_; rintro e4 w4 ⟨rfl, rfl⟩) | (refine (HNX.out _ HJ.out.rd HJ.out.tok).mono ?_; rintro e1 w1 ⟨rfl, rfl⟩)) | (go_at_call 21; refine (HTK.out _ HJ.out.rd HJ.out.tok).mono ?_; rintro e2 w2 ⟨rfl, hr2, hg2⟩; have J2 := Aside0.mk (HJ.out.take hr2 hg2); have J2d := Aside0.mk (J2.out.new (grown_drew0 _)); have c3d : w2.drew.cell? ⟨w.heap.size + 1, 2, none⟩ = some (.slice At ts.length ct) := blk_cell J2d.out.c6 2; have d0 := blk_cell J2.out.c4 0; have d1 := blk_cell J2.out.c4 1; have d2 := blk_cell J2.out.c4 2; have q0 := blk_frozen J2.out.c4 0; have q1 := blk_frozen J2.out.c4 1; have q2 := blk_frozen J2.out.c4 2; clear hr2 hg2))
              have FIN := Aside0.mk (J2.out.fin (.int .i64 0) (.slice none 0 0) (.slice none 0 0) rfl)
              refine bodyPost_ret (results_ct rfl _ _ w.heap.size 40 #[.int .i64 0, .slice none 0 0, .slice none 0 0] (0, 0) _ rfl FIN.out.2.2.2.2 Tryd.underlying40 rfl (by kernel_rfl)) rfl ?_
              rw [HCMN.out]
              exact ⟨_, _, _, _, _, _, _, _, rfl, FIN.out.2.2.2.1, rfl⟩
        · have HDE := Aside0.mk (show cmdS on ws ts (toks.drop j) = if ws = [] then none else some (⟨on, ws, ts⟩, toks.drop j) by rw [HDR.out, cmdS_end _ _ _ k h0 h4])
          have hkk2 : k = 1 ∨ k = 2 ∨ k = 3 := by omega
          clear h0 h4 hk6
          rcases hkk2 with rfl | rfl | rfl
          all_goals
            have c0d : wr.drew.cell? ⟨w.heap.size + 1, 0, none⟩ = some (.int .i64 on) := blk_cell HJd.out.c6 0
            have d0 : wr.drew.cell? ⟨w.heap.size, 0, none⟩ = some (.int .i64 0) := blk_cell HJd.out.c4 0
            have d1 : wr.drew.cell? ⟨w.heap.size, 1, none⟩ = some (.slice none 0 0) := blk_cell HJd.out.c4 1
            have d2 : wr.drew.cell? ⟨w.heap.size, 2, none⟩ = some (.slice none 0 0) := blk_cell HJd.out.c4 2
            have e0 : wr.cell? ⟨w.heap.size, 0, none⟩ = some (.int .i64 0) := blk_cell HJ.out.c4 0
            have e1 : wr.cell? ⟨w.heap.size, 1, none⟩ = some (.slice none 0 0) := blk_cell HJ.out.c4 1
            have e2 : wr.cell? ⟨w.heap.size, 2, none⟩ = some (.slice none 0 0) := blk_cell HJ.out.c4 2
            have z0 := blk_frozen HJ.out.c4 0
            have z1 := blk_frozen HJ.out.c4 1
            have z2 := blk_frozen HJ.out.c4 2
            have y0 : wr.cell? ⟨w.heap.size + 1, 0, none⟩ = some (.int .i64 on) := blk_cell HJ.out.c6 0
            have y1 : wr.cell? ⟨w.heap.size + 1, 1, none⟩ = some (.slice Aw ws.length cw) := blk_cell HJ.out.c6 1
            have y2 : wr.cell? ⟨w.heap.size + 1, 2, none⟩ = some (.slice At ts.length ct) := blk_cell HJ.out.c6 2
            have q0 := blk_frozen HJd.out.c4 0
            have q1 := blk_frozen HJd.out.c4 1
            have q2 := blk_frozen HJd.out.c4 2
            have FIN := Aside0.mk (HJd.out.fin (.int .i64 on) (.slice Aw ws.length cw) (.slice At ts.length ct) rfl)
            by_cases hw0 : ws = []
            · have hcm : CM = none := by rw [← HR.out, HDE.out, if_pos hw0]
              have HCMN := Aside0.mk hcm
              have HW0 := Aside0.mk hw0
              clear hcm hw0
              go_wp2_with (go_at_call 43; refine (HNX.out _ HJ.out.rd HJ.out.tok).mono ?_; rintro e1 w1 ⟨rfl, rfl⟩)
              go_region
              all_goals
                go_wp2
                refine bodyPost_ret (results_ct rfl _ _ w.heap.size 40 #[.int .i64 on, .slice Aw ws.length cw, .slice At ts.length ct] (0, 0) _ rfl FIN.out.2.2.2.2 Tryd.underlying40 rfl (by kernel_rfl)) rfl ?_
                rw [HCMN.out]
                exact ⟨_, _, _, _, _, _, _, _, rfl, FIN.out.2.2.2.1, (show decide (0 < ws.length) = false by rw [HW0.out]; rfl)⟩
            · have hcm : CM = some (⟨on, ws, ts⟩, toks.drop j) := by rw [← HR.out, HDE.out, if_neg hw0]
              have HCMN := Aside0.mk hcm
              have HW0 := Aside0.mk hw0
              clear hcm hw0
              go_wp2_with (go_at_call 43; refine (HNX.out _ HJ.out.rd HJ.out.tok).mono ?_; rintro e1 w1 ⟨rfl, rfl⟩)
              go_region
              all_goals
                go_wp2
                refine bodyPost_ret (results_ct rfl _ _ w.heap.size 40 #[.int .i64 on, .slice Aw ws.length cw, .slice At ts.length ct] (0, 0) _ rfl FIN.out.2.2.2.2 Tryd.underlying40 rfl (by kernel_rfl)) rfl ?_
                rw [HCMN.out]
                exact ⟨_, _, _, _, _, _, _, _, rfl, FIN.out.2.2.2.1, decide_eq_true (List.length_pos_iff.2 HW0.out), rfl, j, rfl, FIN.out.1, FIN.out.2.1, FIN.out.2.2.1⟩
    · have hd : toks.drop j = [] := List.drop_eq_nil_of_le (by omega)
      have hnx : ∀ W, RdI br b j N W → Kd.R k66 66 W base ok (.slice (some ⟨b, 0, none⟩) N C) (toks.map s83) → Calls Tryd.prog 43 #[.pointer (some ⟨br, 0, none⟩)] W fun e w' => e = .returned (.int .i64 (-1)) ∧ w' = W := by
        intro W h1 h2
        have := next_calls br b j N C toks W hN h1 h2
        rw [hd] at this
        exact this
      have HNX := Aside0.mk hnx
      have HDE := Aside0.mk (show cmdS on ws ts (toks.drop j) = if ws = [] then none else some (⟨on, ws, ts⟩, toks.drop j) by rw [hd, cmdS_nil])
      clear hnx hd
      have c0d : wr.drew.cell? ⟨w.heap.size + 1, 0, none⟩ = some (.int .i64 on) := blk_cell HJd.out.c6 0
      have d0 : wr.drew.cell? ⟨w.heap.size, 0, none⟩ = some (.int .i64 0) := blk_cell HJd.out.c4 0
      have d1 : wr.drew.cell? ⟨w.heap.size, 1, none⟩ = some (.slice none 0 0) := blk_cell HJd.out.c4 1
      have d2 : wr.drew.cell? ⟨w.heap.size, 2, none⟩ = some (.slice none 0 0) := blk_cell HJd.out.c4 2
      have e0 : wr.cell? ⟨w.heap.size, 0, none⟩ = some (.int .i64 0) := blk_cell HJ.out.c4 0
      have e1 : wr.cell? ⟨w.heap.size, 1, none⟩ = some (.slice none 0 0) := blk_cell HJ.out.c4 1
      have e2 : wr.cell? ⟨w.heap.size, 2, none⟩ = some (.slice none 0 0) := blk_cell HJ.out.c4 2
      have z0 := blk_frozen HJ.out.c4 0
      have z1 := blk_frozen HJ.out.c4 1
      have z2 := blk_frozen HJ.out.c4 2
      have y0 : wr.cell? ⟨w.heap.size + 1, 0, none⟩ = some (.int .i64 on) := blk_cell HJ.out.c6 0
      have y1 : wr.cell? ⟨w.heap.size + 1, 1, none⟩ = some (.slice Aw ws.length cw) := blk_cell HJ.out.c6 1
      have y2 : wr.cell? ⟨w.heap.size + 1, 2, none⟩ = some (.slice At ts.length ct) := blk_cell HJ.out.c6 2
      have q0 := blk_frozen HJd.out.c4 0
      have q1 := blk_frozen HJd.out.c4 1
      have q2 := blk_frozen HJd.out.c4 2
      have FIN := Aside0.mk (HJd.out.fin (.int .i64 on) (.slice Aw ws.length cw) (.slice At ts.length ct) rfl)
      by_cases hw0 : ws = []
      · have hcm : CM = none := by rw [← HR.out, HDE.out, if_pos hw0]
        have HCMN := Aside0.mk hcm
        have HW0 := Aside0.mk hw0
        clear hcm hw0
        go_wp2_with (go_at_call 43; refine (HNX.out _ HJ.out.rd HJ.out.tok).mono ?_; rintro e1 w1 ⟨rfl, rfl⟩)
        go_region
        all_goals
          go_wp2
          refine bodyPost_ret (results_ct rfl _ _ w.heap.size 40 #[.int .i64 on, .slice Aw ws.length cw, .slice At ts.length ct] (0, 0) _ rfl FIN.out.2.2.2.2 Tryd.underlying40 rfl (by kernel_rfl)) rfl ?_
          rw [HCMN.out]
          exact ⟨_, _, _, _, _, _, _, _, rfl, FIN.out.2.2.2.1, (show decide (0 < ws.length) = false by rw [HW0.out]; rfl)⟩
      · have hcm : CM = some (⟨on, ws, ts⟩, toks.drop j) := by rw [← HR.out, HDE.out, if_neg hw0]
        have HCMN := Aside0.mk hcm
        have HW0 := Aside0.mk hw0
        clear hcm hw0
        go_wp2_with (go_at_call 43; refine (HNX.out _ HJ.out.rd HJ.out.tok).mono ?_; rintro e1 w1 ⟨rfl, rfl⟩)
        go_region
        all_goals
          go_wp2
          refine bodyPost_ret (results_ct rfl _ _ w.heap.size 40 #[.int .i64 on, .slice Aw ws.length cw, .slice At ts.length ct] (0, 0) _ rfl FIN.out.2.2.2.2 Tryd.underlying40 rfl (by kernel_rfl)) rfl ?_
          rw [HCMN.out]
          exact ⟨_, _, _, _, _, _, _, _, rfl, FIN.out.2.2.2.1, decide_eq_true (List.length_pos_iff.2 HW0.out), rfl, j, rfl, FIN.out.1, FIN.out.2.1, FIN.out.2.2.1⟩
end Go.Proofs.YtogbdjboblfokaaDoor.X
/- lex.Quote and lex.Show say the plain ones; plain Lean. -/
namespace Go.Proofs.YtogbdjboblfokaaDoor.X
open Go.RowKit Go.Proofs.YtogbdjboblfokaaDoorW.PrintWords Go.Proofs.YtogbdjboblfokaaDoorW.PrintLast Go.Proofs.YtogbdjboblfokaaDoorW.PrintMore Go.Proofs.YtogbdjboblfokaaDoor.XW05
open Go.Proofs.YtogbdjboblfokaaDoor.XT06
set_option linter.unusedSimpArgs false
set_option linter.unusedVariables false

theorem any_eq (cs : List UInt8) : ∀ l : List UInt8, decide (0 ≤ Lib.indexAny l cs) = l.any (fun b => cs.contains b) := by
  intro l
  induction l with
  | nil => rfl
  | cons b l ih =>
    have hg := Lib.indexAny_ge cs l
    rw [Lib.indexAny, List.any_cons]
    by_cases hb : cs.contains b = true
    · rw [if_pos hb, hb]; rfl
    · rw [if_neg hb, ← ih, show cs.contains b = false by simpa using hb, Bool.false_or]
      by_cases hm : Lib.indexAny l cs = -1
      · rw [if_pos (beq_iff_eq.2 hm), hm]
      · rw [if_neg (fun h => hm (beq_iff_eq.1 h))]
        rw [decide_eq_true (by omega : 0 ≤ Lib.indexAny l cs + 1), decide_eq_true (by omega : 0 ≤ Lib.indexAny l cs)]
theorem plain_eq (t : List UInt8) (ht : t.length < 4294967281) : lex_plain.f (B t) = some (plainU t) := by
  unfold lex_plain.f
  cases t with
  | nil => rw [if_pos (by rw [B_toList])]; rfl
  | cons b m =>
    rw [if_neg (by rw [B_toList]; simp)]
    unfold strings_ContainsAny.f strings_IndexAny.f
    rw [if_pos ⟨by rw [B_size]; exact ht, by decide, by decide⟩, B_data]
    simp only [Option.map_some, Option.bind_some]
    rw [any_eq]
    congr 1
    unfold plainU
    rw [decide_eq_true (by simp), Bool.true_and, List.all_eq_not_any_not]
    simp only [Bool.not_not]
    rfl
theorem index39 (b : UInt8) (l : List UInt8) : Lib.index (b :: l) [39] = if b = 39 then 0 else if Lib.index l [39] = -1 then -1 else Lib.index l [39] + 1 := by
  rw [Lib.index]
  have e : (([39] : List UInt8).isPrefixOf (b :: l) = true) = (b = 39) := by
    simp only [List.isPrefixOf, Bool.and_true, beq_iff_eq]
    exact propext eq_comm
  by_cases hb : b = 39
  · rw [if_pos (e.symm ▸ hb), if_pos hb]
  · rw [if_neg (fun h => hb (e ▸ h)), if_neg hb]
    by_cases hm : Lib.index l [39] = -1
    · rw [if_pos (beq_iff_eq.2 hm), if_pos hm]
    · rw [if_neg (fun h => hm (beq_iff_eq.1 h)), if_neg hm]
theorem flat_index (l : List UInt8) : (Lib.index l [39] = -1 ∧ flat l = l) ∨ ∃ i : Nat, Lib.index l [39] = (i : Int) ∧ i < l.length ∧ flat l = l.take i ++ [39, 92, 39, 39] ++ flat (l.drop (i + 1)) := by
  induction l with
  | nil => exact .inl ⟨rfl, rfl⟩
  | cons b m ih =>
    rw [index39]
    by_cases hb : b = 39
    · refine .inr ⟨0, by rw [if_pos hb]; rfl, by simp, ?_⟩
      rw [flat_cons, if_pos hb]
      rfl
    · rw [if_neg hb]
      rcases ih with ⟨h1, h2⟩ | ⟨i, h1, h2, h3⟩
      · rw [if_pos h1]
        refine .inl ⟨rfl, ?_⟩
        rw [flat_cons, if_neg hb, h2]
        rfl
      · rw [if_neg (by omega), h1]
        refine .inr ⟨i + 1, by omega, by simp; omega, ?_⟩
        rw [flat_cons, if_neg hb, h3]
        simp
theorem replaceK_flat : ∀ (k : Nat) (l : List UInt8), Lib.count l [39] = k → Lib.replaceK [39] [39, 92, 39, 39] k l = flat l := by
  intro k
  induction k with
  | zero =>
    intro l h
    rcases flat_index l with ⟨h1, h2⟩ | ⟨i, h1, h2, h3⟩
    · rw [h2]; rfl
    · rw [Lib.count_hit (by simp) h1] at h; omega
  | succ k ih =>
    intro l h
    rcases flat_index l with ⟨h1, h2⟩ | ⟨i, h1, h2, h3⟩
    · rw [Lib.count_miss h1] at h; omega
    · rw [Lib.count_hit (by simp) h1] at h
      rw [Lib.replaceK_hit _ _ _ _ i h1, h3]
      rw [ih _ (by simp only [List.length_cons, List.length_nil] at h ⊢; omega)]
      rfl
theorem flat_len (t : List UInt8) : (flat t).length ≤ 4 * t.length := by
  induction t with
  | nil => simp [flat_nil]
  | cons b t ih =>
    rw [flat_cons]
    split <;> simp <;> omega
theorem replaceAll_eq (t : List UInt8) (ht : t.length < 4000000) : strings_ReplaceAll.f (B t) (⟨#[39]⟩ : ByteArray) (⟨#[39, 92, 39, 39]⟩ : ByteArray) = some (B (flat t)) := by
  unfold strings_ReplaceAll.f strings_Replace.f
  have h1 : Lib.countB (B t) (⟨#[39]⟩ : ByteArray) ≤ t.length + 1 := by unfold Lib.countB; rw [B_data]; exact Lib.count_le _ _
  rw [if_pos ⟨by rw [B_size]; omega, by decide, by rw [B_size, show (⟨#[39, 92, 39, 39]⟩ : ByteArray).size = 4 from rfl]; omega⟩, B_data]
  rw [Option.bind_some]
  have e : Lib.replace t [39] [39, 92, 39, 39] (-1) = flat t := by
    unfold Lib.replace
    rw [if_neg (by decide)]
    unfold Lib.replaceNum
    rw [if_pos (.inl (by decide))]
    exact replaceK_flat _ t rfl
  show some (⟨(Lib.replace t [39] [39, 92, 39, 39] (-1)).toArray⟩ : ByteArray) = _
  rw [e]
  rfl
theorem Quote_eq (t : List UInt8) (ht : t.length < 4000000) : lex_Quote.f (B t) = some (B (quoteU t)) := by
  unfold lex_Quote.f quoteU
  rw [plain_eq t (by omega), Option.bind_some]
  have hf := flat_len t
  by_cases h : plainU t = true
  · rw [if_pos h, if_pos h]
  · rw [if_neg h, if_neg h, replaceAll_eq t ht, Option.bind_some]
    have e1 : (⟨#[39]⟩ : ByteArray) = B [39] := rfl
    rw [e1, B_append, B_append, B_size, B_size, if_pos (by omega), if_pos (by simp; omega)]
    rfl
end Go.Proofs.YtogbdjboblfokaaDoor.X
/- lex.Show says the plain line; how long tokens and lines are; plain Lean. -/
namespace Go.Proofs.YtogbdjboblfokaaDoor.X
open Go.RowKit Go.Proofs.YtogbdjboblfokaaDoorW.PrintWords Go.Proofs.YtogbdjboblfokaaDoorW.PrintLast Go.Proofs.YtogbdjboblfokaaDoorW.PrintMore Go.Proofs.YtogbdjboblfokaaDoor.XW05
open Go.Proofs.YtogbdjboblfokaaDoor.XT06
set_option linter.unusedSimpArgs false
set_option linter.unusedVariables false

theorem join_eq : ∀ A : List (List UInt8), Lib.join A [32] = joinU A := by
  intro A
  induction A with
  | nil => rfl
  | cons x A ih =>
    cases A with
    | nil => simp [Lib.join, joinU]
    | cons y A => simp [Lib.join, joinU] at ih ⊢; rw [ih]
theorem Join_eq (A : List (List UInt8)) (h1 : A.length ≤ 140737488355328) (h2 : (joinU A).length ≤ 140737488355328) : strings_Join.f (A.map B) (⟨#[32]⟩ : ByteArray) = some (B (joinU A)) := by
  have e : (A.map B).map (fun x => x.data.toList) = A := by
    rw [List.map_map]
    conv => rhs; rw [← List.map_id A]
    apply List.map_congr_left
    intro x _
    simp [B_data]
  have e2 : Lib.join ((A.map B).map (fun x => x.data.toList)) (⟨#[32]⟩ : ByteArray).data.toList = joinU A := by rw [e]; exact join_eq A
  unfold strings_Join.f
  rw [if_pos ⟨by rw [List.length_map]; exact h1, by rw [e2]; exact h2⟩]
  unfold joined
  rw [e2]
  rfl
def pickM (T : List (List UInt8 × Nat)) (k : Nat) (s : List UInt8) : List UInt8 :=
  match T with
  | [] => s
  | m :: T => pickM T k (if m.2 = k then m.1 else s)
theorem pickM_eq (x : Nat × List UInt8) (h : okTok x) : pickM marksT x.1 (quoteU x.2) = show1 x := by
  obtain ⟨k, t⟩ := x
  rcases h with h0 | ⟨h1, h6, ht⟩
  · simp only at h0
    subst h0
    simp [pickM, marksT, show1]
  · simp only at h1 h6
    have hk : k = 1 ∨ k = 2 ∨ k = 3 ∨ k = 4 ∨ k = 5 ∨ k = 6 := by omega
    rcases hk with rfl | rfl | rfl | rfl | rfl | rfl <;> simp [pickM, marksT, show1, markT]
theorem show_inner {v : ByteArray} (x3 : List ByteArray) (X9 : List S66) (x10 x11 : Int) (kd : Nat) (tx : ByteArray) (h3 : x3.length < 8796093022208) : ∀ i, i ≤ marksT.length → ∀ s, Ev (fun k => lex_Show.l0 k (x3 ++ [B (pickM (marksT.drop i) kd s)]) X9 x10 (wrap64 (x11 + 1))) v →
    Ev (fun k => lex_Show.l1 k x3 (B s) X9 x10 x11 (marksT.map s94) (marksT.length : Int) (i : Int) (kd : Int) tx) v := by
  refine upto_ind ?_ ?_
  · intro s h
    refine Ev.step (fun k => by rw [lex_Show.l1]) ?_
    refine Ev.neg (by omega) ?_
    refine Ev.pos (by omega) ?_
    rw [List.drop_length] at h
    exact h
  · intro i hi ih s h
    have hi6 : i < 6 := hi
    have r : rd_T118 (marksT.map s94) (i : Int) = s94 marksT[i] := by
      unfold rd_T118
      rw [show ((i : Int)).toNat = i from rfl, List.getD_eq_getElem?_getD, List.getElem?_map, List.getElem?_eq_getElem hi]
      rfl
    rw [← wrap_succ i (by omega)] at ih
    rw [List.drop_eq_getElem_cons hi, pickM] at h
    refine Ev.step (fun k => by rw [lex_Show.l1]) ?_
    rw [r]
    refine Ev.pos (by omega) ?_
    refine Ev.pos (by omega) ?_
    refine Ev.pos (by simp; omega) ?_
    refine Ev.iff (show ((s94 marksT[i]).f1 = (kd : Int)) = (marksT[i].2 = kd) from propext (by show ((marksT[i].2 : Int) = (kd : Int)) ↔ _; omega)) ?_ ?_
    · intro hk
      exact ih _ (Eq.mp (congrArg (fun z => Ev (fun k => lex_Show.l0 k (x3 ++ [B (pickM (marksT.drop (i + 1)) kd z)]) X9 x10 (wrap64 (x11 + 1))) v) (if_pos hk)) h)
    · intro hk
      exact ih _ (Eq.mp (congrArg (fun z => Ev (fun k => lex_Show.l0 k (x3 ++ [B (pickM (marksT.drop (i + 1)) kd z)]) X9 x10 (wrap64 (x11 + 1))) v) (if_neg hk)) h)
theorem show_outer (l : List (Nat × List UInt8)) (hl : l.length < 4000000) (hok : ∀ x ∈ l, okTok x) (hlen : ∀ x ∈ l, x.2.length < 4000000) (hj : (joinU (l.map show1)).length ≤ 140737488355328) :
    ∀ i, i ≤ l.length → Ev (fun k => lex_Show.l0 k (((l.take i).map show1).map B) (l.map s83) (l.length : Int) (i : Int)) (B (joinU (l.map show1))) := by
  refine upto_ind ?_ ?_
  · refine Ev.step (fun k => by rw [lex_Show.l0]) ?_
    refine Ev.neg (by omega) ?_
    rw [List.take_length]
    exact Ev.bind (Ev.of (Join_eq _ (by simp; omega) hj)) (Ev.ret _)
  · intro i hi ih
    have r : rd_T66 (l.map s83) (i : Int) = s83 l[i] := by
      unfold rd_T66
      rw [show ((i : Int)).toNat = i from rfl, List.getD_eq_getElem?_getD, List.getElem?_map, List.getElem?_eq_getElem hi]
      rfl
    rw [← wrap_succ i (by omega)] at ih
    refine Ev.step (fun k => by rw [lex_Show.l0]) ?_
    rw [r]
    refine Ev.pos (by omega) ?_
    refine Ev.pos (by omega) ?_
    refine Ev.pos (by simp; omega) ?_
    refine Ev.bind (Ev.of (Quote_eq l[i].2 (hlen _ (List.getElem_mem hi)))) ?_
    have hm : lex_marks.f = some (marksT.map s94) := by unfold lex_marks.f; rfl
    refine Ev.bind (Ev.of hm) ?_
    have := show_inner (v := B (joinU (l.map show1))) (((l.take i).map show1).map B) (l.map s83) (l.length : Int) (i : Int) l[i].1 (B l[i].2) (by simp; omega) 0 (by decide) (quoteU l[i].2) (by
      rw [List.drop_zero, pickM_eq _ (hok _ (List.getElem_mem hi))]
      rw [List.take_succ_eq_append_getElem hi, List.map_append, List.map_append] at ih
      exact ih)
    exact this
theorem Show_ev (l : List (Nat × List UInt8)) (hl : l.length < 4000000) (hok : ∀ x ∈ l, okTok x) (hlen : ∀ x ∈ l, x.2.length < 4000000) (hj : (joinU (l.map show1)).length ≤ 140737488355328) :
    Ev (fun k => lex_Show.f k (l.map s83)) (B (joinU (l.map show1))) := by
  refine Ev.congr (fun k => by rw [lex_Show.f]) ?_
  have := show_outer l hl hok hlen hj 0 (by omega)
  rw [List.length_map]
  exact this
theorem qS_both (e : UInt8) : ∀ d (l acc t r : List UInt8), l.length ≤ d → qS e acc l = some (t, r) → t.length + r.length ≤ acc.length + l.length := by
  intro d
  induction d with
  | zero =>
    intro l acc t r hd h
    cases l with
    | nil => rw [qS_nil] at h; exact absurd h (by simp)
    | cons b m => simp at hd
  | succ d ih =>
    intro l acc t r hd h
    cases l with
    | nil => rw [qS_nil] at h; exact absurd h (by simp)
    | cons b m =>
      simp only [List.length_cons] at hd ⊢
      cases m with
      | nil =>
        rw [qS_single] at h
        split at h
        · injection h with h; injection h with h1 h2; subst h1 h2; simp
        · exact absurd h (by simp)
      | cons c m' =>
        simp only [List.length_cons] at hd ⊢
        rw [qS_two] at h
        split at h
        · injection h with h; injection h with h1 h2; subst h1 h2; simp only [List.length_cons]; omega
        · split at h
          · have := ih m' _ t r (by omega) h
            simp only [List.length_append, List.length_cons, List.length_nil] at this; omega
          · have := ih (c :: m') _ t r (by simp; omega) h
            simp only [List.length_append, List.length_cons, List.length_nil] at this; omega
theorem wS_len : ∀ d (l acc t r : List UInt8), l.length ≤ d → wS acc l = some (t, r) → t.length ≤ acc.length + l.length := by
  intro d
  induction d with
  | zero =>
    intro l acc t r hd h
    cases l with
    | nil => rw [wS_nil] at h; injection h with h; injection h with h1 h2; subst h1; omega
    | cons b m => simp at hd
  | succ d ih =>
    intro l acc t r hd h
    cases l with
    | nil => rw [wS_nil] at h; injection h with h; injection h with h1 h2; subst h1; omega
    | cons b m =>
      simp only [List.length_cons] at hd ⊢
      by_cases hs : stopB b = true
      · rw [wS_stop _ _ _ hs] at h; injection h with h; injection h with h1 h2; subst h1; omega
      · by_cases hq : b = 39 ∨ b = 34
        · cases hqs : qS b [] m with
          | none => rw [wS_q0 _ _ _ hs hq hqs] at h; exact absurd h (by simp)
          | some x =>
            obtain ⟨t1, r1⟩ := x
            rw [wS_q _ _ _ _ _ hs hq hqs] at h
            have hl := qS_less hqs
            obtain ⟨p1, hp1, _⟩ := qS_suffix _ _ _ _ _ _ (Nat.le_refl _) hqs
            have := ih r1 _ t r (by omega) h
            have h4 : t1.length + r1.length ≤ m.length := by simpa using qS_both b _ m [] t1 r1 (Nat.le_refl _) hqs
            simp only [List.length_append] at this
            omega
        · by_cases hb : b = 92
          · subst hb
            cases m with
            | nil => rw [wS_b0] at h; exact absurd h (by simp)
            | cons c m' =>
              rw [wS_b] at h
              simp only [List.length_cons] at hd ⊢
              have := ih m' _ t r (by omega) h
              simp only [List.length_append, List.length_cons, List.length_nil] at this; omega
          · rw [wS_one _ _ _ hs (fun h => hq (.inl h)) (fun h => hq (.inr h)) hb] at h
            have := ih m _ t r (by omega) h
            simp only [List.length_append, List.length_cons, List.length_nil] at this; omega
theorem tokS_len (N : Nat) : ∀ d (l : List UInt8) (out res : List (Nat × List UInt8)), l.length ≤ d → l.length ≤ N → (∀ x ∈ out, x.2.length ≤ N) → tokS out l = some res → res.length ≤ out.length + l.length ∧ ∀ x ∈ res, x.2.length ≤ N := by
  intro d
  induction d with
  | zero =>
    intro l out res hd hN ho h
    cases l with
    | nil => rw [tokS_nil] at h; injection h with h; subst h; exact ⟨by omega, ho⟩
    | cons b r => simp at hd
  | succ d ih =>
    intro l out res hd hN ho h
    cases l with
    | nil => rw [tokS_nil] at h; injection h with h; subst h; exact ⟨by omega, ho⟩
    | cons b r =>
      simp only [List.length_cons] at hd hN ⊢
      by_cases hb : blk b = true
      · rw [tokS_blk _ _ _ hb] at h
        have := ih r out res (by omega) (by omega) ho h
        exact ⟨by omega, this.2⟩
      · cases hm : markS (b :: r) with
        | some x =>
          obtain ⟨k, n, r'⟩ := x
          rw [tokS_mark _ _ _ hb k n r' hm] at h
          obtain ⟨⟨p, hp, hl⟩, h0, h1, h6⟩ := markS_suffix hm
          have hlen := congrArg List.length hp
          simp only [List.length_append, List.length_cons] at hlen
          have := ih r' _ res (by omega) (by omega) (by
            intro x hx
            rcases List.mem_append.1 hx with hx | hx
            · exact ho x hx
            · rw [List.mem_singleton.1 hx]; exact Nat.zero_le _) h
          refine ⟨?_, this.2⟩
          have := this.1
          simp only [List.length_append, List.length_cons, List.length_nil] at this
          omega
        | none =>
          cases hw : wS [] (b :: r) with
          | none => rw [tokS_bad _ _ _ hb hm hw] at h; exact absurd h (by simp)
          | some x =>
            obtain ⟨t, r'⟩ := x
            have hwl := wS_len _ _ _ _ _ (Nat.le_refl _) hw
            simp only [List.length_cons, List.length_nil] at hwl
            rw [tokS_word _ _ _ hb hm t r' hw] at h
            split at h
            · rename_i hlt
              simp only [List.length_cons] at hlt
              have := ih r' _ res (by omega) (by omega) (by
                intro x hx
                rcases List.mem_append.1 hx with hx | hx
                · exact ho x hx
                · rw [List.mem_singleton.1 hx]; show t.length ≤ N; omega) h
              refine ⟨?_, this.2⟩
              have := this.1
              simp only [List.length_append, List.length_cons, List.length_nil] at this
              omega
            · exact absurd h (by simp)
theorem show1_len (x : Nat × List UInt8) : (show1 x).length ≤ 4 * x.2.length + 2 := by
  unfold show1
  split
  · unfold quoteU
    split
    · omega
    · have := flat_len x.2
      simp; omega
  · unfold markT
    repeat' split
    all_goals simp
theorem joinU_len (M : Nat) : ∀ A : List (List UInt8), (∀ x ∈ A, x.length ≤ M) → (joinU A).length ≤ A.length * (M + 1) := by
  intro A
  induction A with
  | nil => intro _; simp [joinU]
  | cons x A ih =>
    intro h
    have hx := h x (by simp)
    cases A with
    | nil => simp [joinU]; omega
    | cons y A =>
      have := ih (fun z hz => h z (by simp [hz]))
      rw [joinU, List.length_append, List.length_cons, List.length_cons, Nat.succ_mul]
      omega
end Go.Proofs.YtogbdjboblfokaaDoor.X
/- parse.Line as a plain function, with its contract; condition: a text of fewer than 500000000 bytes. -/
namespace Go.Proofs.YtogbdjboblfokaaDoor.X
open Go.RowKit Go.Proofs.YtogbdjboblfokaaDoorW.PrintWords Go.Proofs.YtogbdjboblfokaaDoorW.PrintLast Go.Proofs.YtogbdjboblfokaaDoorW.PrintMore Go.Proofs.YtogbdjboblfokaaDoor.XW05 Go.Proofs.YtogbdjboblfokaaDoor.XT06
set_option linter.unusedSimpArgs false
set_option linter.unusedVariables false

def toS (c : Cmd) : S40 := ⟨c.on, c.words.map B, c.tos.map toT⟩
def resL (o : Option (List Cmd)) : List S40 × Int := match o with | some res => (res.map toS, 0) | none => ([], 6)
def parseU (l : List UInt8) : Option (List Cmd) := match tokS [] l with | none => none | some toks => lineS [] 1 toks
def parse_Line.f (a0 : ByteArray) : Option (List S40 × Int) := if a0.size < 500000000 then some (resL (parseU a0.data.toList)) else none
theorem M_apart {α : Type} {d : Kd α} {base e' : Nat} {ok : Nat → Prop} {w : World} {v : Value} {x : α} {cs : List Value} (h : d.M w base ok x cs) (hty : ∀ k, v.ownBlock = some k → ∃ cells, w.heap[k]? = some (.cells cells e' (0, 0))) (ht : ∀ q ∈ d.E, q ≠ e') : d.M w base (fun k => ok k ∧ some k ≠ v.ownBlock) x cs := by
  refine d.M_mono (fun k hk => ⟨hk.1, fun e => ?_⟩) (d.M_bound h)
  obtain ⟨_, _, _, q, hq, cells, hc⟩ := hk
  obtain ⟨cells', hc'⟩ := hty k e.symm
  rw [hc] at hc'
  injection hc' with hc'
  injection hc' with _ hc' _
  exact ht q hq hc'

theorem S_grown_ty {α : Type} {d : Kd α} {e base t : Nat} {ok : Nat → Prop} {w w1 : World} {v : Value} {xs : List α} {row : Option Nat} (h : Kd.S d e w base ok v xs) (hg : w.grownBy w1 row)
    (ht : ∀ k, row = some k → ∃ cells, w.heap[k]? = some (.cells cells t (0, 0))) (hne : ∀ q, q ∈ e :: d.E → q ≠ t) : Kd.S d e w1 base ok v xs := by
  obtain ⟨f, hf⟩ := h
  exact ⟨f, R_grown_ty hf hg ht hne⟩
/-- What holds between the rounds of Line. -/
structure LI (w : World) (br b N C : Nat) (toks : List Tok) (vo : Value) (j : Nat) (outs : List Cmd) (W : World) : Prop where
  rd : RdI br b j N W
  tok : 0 < N → Kd.R k66 66 W w.heap.size (fun _ => True) (.slice (some ⟨b, 0, none⟩) N C) (toks.map s83)
  out : Kd.S k40 40 W w.heap.size (fun _ => True) vo (outs.map toS)
  bel : Below w.heap.size w W
  hbr : w.heap.size ≤ br
section
variable {w W W1 : World} {br b N C j : Nat} {toks : List Tok} {vo : Value} {outs : List Cmd}
theorem LI.new (h : LI w br b N C toks vo j outs W) (hg : W.grownBy W1 none) : LI w br b N C toks vo j outs W1 := by
  have nn : ∀ (t : Nat) (k : Nat), (none : Option Nat) = some k → ∃ cells, W.heap[k]? = some (.cells cells t (0, 0)) := fun _ _ e => by cases e
  exact ⟨h.rd.grown hg (nn 0) (by decide), fun h0 => R_grown_ty (h.tok h0) hg (nn 0) (by decide), S_grown_ty h.out hg (nn 0) (by decide), h.bel.grown hg h.bel.size (fun k hk => by cases hk), h.hbr⟩
theorem LI.take (h : LI w br b N C toks vo j outs W) {j1 : Nat} (hr : RdI br b j1 N W1) (hg : W.grownBy W1 (some br)) : LI w br b N C toks vo j1 outs W1 :=
  ⟨hr, fun h0 => R_grown_ty (h.tok h0) hg h.rd.ty (by decide), S_grown_ty h.out hg h.rd.ty (by decide), h.bel.grown hg h.bel.size (fun k hk => by injection hk with hk; subst hk; exact h.hbr), h.hbr⟩
theorem LI.app (h : LI w br b N C toks vo j outs W) {v1 : Value} {outs1 : List Cmd} (hg : W.grownBy W1 vo.ownBlock) (ho : Kd.S k40 40 W1 w.heap.size (fun _ => True) v1 (outs1.map toS)) : LI w br b N C toks v1 j outs1 W1 :=
  ⟨h.rd.grown hg (Kd.S_typed h.out) (by decide), fun h0 => R_grown_ty (h.tok h0) hg (Kd.S_typed h.out) (by decide), ho, h.bel.grown hg h.bel.size (Kd.S_base h.out), h.hbr⟩
end
theorem RdI.cell {br b j N : Nat} {W : World} (h : RdI br b j N W) : ∃ A c, W.cell? ⟨br, 0, none⟩ = some (.slice A (N - j) c) := by
  obtain ⟨_, A, c, hb, _⟩ := h
  exact ⟨A, c, blk_cell hb 0⟩
theorem field0 (k : Int) (x : ByteArray) (W : World) : Sem.run Tryd.prog (Instr.field 66 (Value.agg #[Value.int IntKind.i64 k, Value.string x]) 0) W = .ok (.int .i64 k) W := by kernel_rfl
set_option maxRecDepth 100000 in
set_option maxHeartbeats 8000000 in
theorem parse_Line.calls (a0 : ByteArray) (r1 : List S40) (r2 : Int) (w : World) (h : parse_Line.f a0 = some (r1, r2)) :
    Calls Tryd.prog 7 #[.string a0] w fun e w' => ∃ v0_ : Value, e = .returned (.tuple #[v0_, .int .i64 r2]) ∧ Kd.S k40 40 w' w.heap.size (fun _ => True) v0_ r1 ∧ Below w.heap.size w w' := by
  unfold parse_Line.f at h
  by_cases hsz : a0.size < 500000000
  case neg => rw [if_neg hsz] at h; exact absurd h (by simp)
  rw [if_pos hsz] at h
  have h := Option.some.inj h
  obtain ⟨l, rfl, hl⟩ := ex_B a0
  rw [B_data] at h
  have hl' : l.length < 500000000 := by rw [B_size] at hsz; exact hsz
  have infoC : (Tryd.prog.info? 40).map (fun i => (i.zero, i.size, i.bytes)) = some (some (.agg #[.int .i64 0, .slice none 0 0, .slice none 0 0]), 3, 56) := by kernel_rfl
  obtain ⟨kt, hkt⟩ := (Tokens_ev l (by omega)).get
  have hlen : ∀ toks, tokS [] l = some toks → toks.length ≤ l.length ∧ ∀ x ∈ toks, x.1 ≤ 6 := by
    intro toks ht
    obtain ⟨h1, _⟩ := tokS_len l.length _ l [] toks (Nat.le_refl _) (Nat.le_refl _) (by simp) ht
    refine ⟨by simpa using h1, fun x hx => ?_⟩
    rcases tokS_ok _ l [] toks (Nat.le_refl _) (by simp) ht x hx with h | h
    · omega
    · exact h.2.1
  unfold parseU at h
  cases ht : tokS [] l with
  | none =>
    rw [ht] at h hkt
    obtain ⟨rfl, rfl⟩ := Prod.mk.inj h
    go_enter Tryd.func7, Tryd.ntmps7
    go_wp2_with (go_at_call 19; refine (lex_Tokens.calls kt (B l) [] 6 _ hkt).mono ?_; rintro e1 w1 ⟨v1, rfl, ho1, hb1⟩)
    go_ret2
    exact ⟨_, rfl, Kd.S_nil _ _ _ _ _, hb1⟩
  | some toks =>
    rw [ht] at h hkt
    obtain ⟨hN, h6⟩ := hlen toks ht
    simp only [resT] at hkt
    obtain ⟨LM, hLM⟩ : ∃ x, lineS [] 1 toks = x := ⟨_, rfl⟩
    simp only [hLM] at h
    have HRES := Aside0.mk h
    clear h ht hlen
    have hnn : toks.length < 1000000000 := by omega
    have HNN := Aside0.mk hnn
    have HH6 := Aside0.mk h6
    have HLM := Aside0.mk hLM
    clear hN hnn h6 hLM hl' hsz hl
    go_enter Tryd.func7, Tryd.ntmps7
    go_wp2_with (go_at_call 19; refine (lex_Tokens.calls kt (B l) (toks.map s83) 0 _ hkt).mono ?_; rintro e1 w1 ⟨v1, rfl, ho1, hb1⟩; obtain ⟨Av, cv, ev⟩ := Kd.R_slice ho1; subst ev; rw [List.length_map] at ho1 ⊢)
    have hst : ∃ b C, LI w w1.heap.size b toks.length C toks (.slice none 0 0) 0 [] (w1.alloc (.cells #[.slice Av toks.length cv] 62)) := by
      have hbn := blk_new w1 (.cells #[.slice Av toks.length cv] 62 (0, 0))
      have hbl : Below w.heap.size w (w1.alloc (.cells #[.slice Av toks.length cv] 62)) := below_alloc hb1 _
      by_cases hz : 0 < toks.length
      · obtain ⟨g, cap, eg, _⟩ := Kd.R_form ho1 (by rw [List.length_map]; exact hz)
        injection eg with e1 e2 e3
        subst e1 e3
        have hcap := (Kd.R_reads' ho1).2.1
        exact ⟨g, cv, ⟨Nat.zero_le _, _, cv, hbn, fun _ => ⟨by rw [Nat.zero_mul], hcap⟩⟩, fun _ => Kd.R_alloc ho1 _, Kd.S_nil _ _ _ _ _, hbl, hb1.size⟩
      · exact ⟨0, 0, ⟨Nat.zero_le _, Av, cv, hbn, fun h => absurd h hz⟩, fun h => absurd h hz, Kd.S_nil _ _ _ _ _, hbl, hb1.size⟩
    obtain ⟨b, C, hst⟩ := hst
    have HST := Aside0.mk hst
    obtain ⟨br, hbr⟩ : ∃ br, w1.heap.size = br := ⟨_, rfl⟩
    rw [hbr] at HST ⊢
    clear hst ho1 hb1 hbr hkt
    go_loopg [7, 8] (toks.length + 1) (fun g v7 v8 wr => ∃ (j : Nat) (on : Int) (outs : List Cmd), v7 = .int .i64 on ∧ j ≤ toks.length ∧ toks.length - j < g ∧ Aside0 (outs.length ≤ j) ∧ Aside0 (LI w br b toks.length C toks v8 j outs wr) ∧ Aside0 (lineS outs on (toks.drop j) = LM))
    case atStart => exact ⟨0, 1, [], rfl, Nat.zero_le _, by omega, ⟨by simp⟩, HST, HLM⟩
    case round =>
      obtain ⟨j, on, outs, rfl, hj, hg, HOL, HJ, HR⟩ := hrel
      obtain ⟨Ao, co, eo⟩ := Kd.S_slice HJ.out.out
      rw [List.length_map] at eo
      subst eo
      obtain ⟨A, c0, hc0⟩ := HJ.out.rd.cell
      by_cases hlt : j < toks.length
      · have HPOS := Aside0.mk (show 0 < toks.length by omega)
        have hn0 : toks.drop j ≠ [] := fun e => by have := congrArg List.length e; simp at this; omega
        obtain ⟨n, hn⟩ : ∃ n, toks.length - j = n := ⟨_, rfl⟩
        rw [hn] at hc0
        have hn1 : (0 : Int) < (n : Int) := by omega
        have hn2 : 0 < n := by omega
        cases hcm : cmdS on [] [] (toks.drop j) with
        | none =>
          have HCM := Aside0.mk hcm
          have HRN := Aside0.mk (show resL none = (r1, r2) by rw [← HRES.out, ← HR.out, lineS_bad _ _ _ hn0 hcm])
          clear hcm hn0
          go_wp2_with (go_at_call 20; refine (command_calls br b j toks.length C on toks _ rfl HNN.out HH6.out HJ.out.rd (HJ.out.tok HPOS.out)).mono ?_; rintro e2 w2 ⟨on', Aw, nw, cw, At, nt, ct, okb, rfl, hg2, hce⟩; rw [HCM.out] at hce; have hokb : okb = false := hce; subst hokb; have hbl2 := HJ.out.bel.grown hg2 HJ.out.bel.size (fun k hk => by injection hk with hk; subst hk; exact HJ.out.hbr))
          go_ret2
          obtain ⟨rfl, rfl⟩ := Prod.mk.inj HRN.out
          exact ⟨_, rfl, Kd.S_nil _ _ _ _ _, by first | exact hbl2 | exact below_alloc hbl2 _⟩
        | some cr =>
          obtain ⟨c, r⟩ := cr
          have HCM := Aside0.mk hcm
          have hless := cmdS_less _ _ _ _ hcm
          have HREST := Aside0.mk (show ∀ j2, r = toks.drop j2 → j2 ≤ toks.length → j < j2 ∧ (r = [] ↔ j2 = toks.length) by
            rintro j2 rfl hj2
            simp only [List.length_drop] at hless
            refine ⟨by omega, ?_⟩
            rw [List.drop_eq_nil_iff]; omega)
          have HLAST := Aside0.mk (show r = [] → LM = some (outs ++ [c]) by rintro rfl; rw [← HR.out, lineS_last _ _ _ hn0 c hcm])
          have HMORE := Aside0.mk (show ∀ k x m, r = (k, x) :: m → LM = if k ≠ 1 ∧ m = [] then none else lineS (outs ++ [c]) (k : Int) m by rintro k x m rfl; rw [← HR.out, lineS_more _ _ _ hn0 c k x m hcm])
          clear hcm hn0 hless
          cases r with
          | nil =>
            have HRN := Aside0.mk (show resL (some (outs ++ [c])) = (r1, r2) by rw [← HRES.out, HLAST.out rfl])
            go_wp2_with (first | (go_at_call 20; refine (command_calls br b j toks.length C on toks _ rfl HNN.out HH6.out HJ.out.rd (HJ.out.tok HPOS.out)).mono ?_; rintro e2 w2 ⟨on', Aw, nw, cw, At, nt, ct, okb, rfl, hg2, hce⟩; rw [HCM.out] at hce; obtain ⟨rfl, rfl, j2, hr, hrd2, hw2, ht2⟩ := hce; have J2 := Aside0.mk (HJ.out.take hrd2 hg2); have J2a := Aside0.mk (J2.out.new (World.grownBy_alloc _ (.cells #[.int .i64 c.on, .slice Aw nw cw, .slice At nt ct] 40) none)); have HP := Aside0.mk (k40_mkM (w2.alloc (.cells #[.int .i64 c.on, .slice Aw nw cw, .slice At nt ct] 40)) w.heap.size (fun k => wr.heap.size ≤ k) (toS c) (Kd.R_lower (Kd.R_alloc (Kd.R_mono (Kd.R_bound hw2) (fun k hk => hk.2.1)) _) HJ.out.bel.size) (Kd.R_lower (Kd.R_alloc (Kd.R_mono (Kd.R_bound ht2) (fun k hk => hk.2.1)) _) HJ.out.bel.size)); have HS := Aside0.mk (Kd.S_alloc (S_grown_ty (Kd.S_mono (Kd.S_bound HJ.out.out) (ok' := fun k => True ∧ ¬ (wr.heap.size ≤ k)) (fun k hk => ⟨trivial, Nat.not_le_of_lt hk.2.2.1⟩)) hg2 HJ.out.rd.ty (by decide)) (.cells #[.int .i64 c.on, .slice Aw nw cw, .slice At nt ct] 40)); have HW2 := Aside0.mk (HREST.out j2 hr hrd2.1); have HR2 := Aside0.mk hr; clear hr hrd2 hw2 ht2 hg2) | ((with_reducible refine gate_builtin (b := .append) (xs := #[.tmp 36, .tmp 38]) rfl ?_); at_builtin; refine Kd.S_append k40 (w0 := w) w.heap.size rfl (.tmp 36) (.tmp 38) 23 40 (.agg #[.int .i64 0, .slice none 0 0, .slice none 0 0]) 56 rfl Tryd.underlying23 infoC rfl (by decide) (by omega) (.slice Ao outs.length co) (outs.map toS) (toS c) [.int .i64 c.on, .slice Aw nw cw, .slice At nt ct] (fun _ => True) (fun k => wr.heap.size ≤ k) rfl (by first | (go_simp; done) | (go_simp; rfl)) HP.out (fun k hk => ⟨trivial, fun e => Nat.not_le_of_lt (Kd.S_lt HJ.out.out k e.symm) hk⟩) (fun _ _ => trivial) HS.out J2a.out.bel J2a.out.bel.size (by have := HOL.out; have := HNN.out; rw [List.length_map]; omega) ?_; intro v1 w5 ho hb hg5 hat; obtain ⟨A1, n1, q1, ev⟩ := R_is (Kd.S_R ho); subst ev; rw [show outs.map toS ++ [toS c] = (outs ++ [c]).map toS by simp] at ho; have J5 := Aside0.mk (J2a.out.app hg5 ho); obtain ⟨A5, c5, hc5⟩ := J5.out.rd.cell; rw [show toks.length - j2 = 0 by have := HW2.out.2.mp (by first | rfl | trivial); omega] at hc5; clear ho hb hg5 hat))
            go_ret2
            obtain ⟨rfl, rfl⟩ := Prod.mk.inj HRN.out
            exact ⟨_, rfl, J5.out.out, J5.out.bel⟩
          | cons kx m =>
            obtain ⟨k, x⟩ := kx
            have HD := Aside0.mk (show ∀ j2, (k, x) :: m = toks.drop j2 → j2 < toks.length ∧ m = toks.drop (j2 + 1) ∧ (m = [] ↔ j2 + 1 = toks.length) by
              intro j2 h
              have hlt2 : j2 < toks.length := by have := congrArg List.length h; simp at this; omega
              have h' := h
              rw [drop_get toks j2 hlt2] at h'
              injection h' with _ h'
              refine ⟨hlt2, h', ?_⟩
              rw [h', List.drop_eq_nil_iff]; omega)
            have HTK := Aside0.mk (show ∀ j2 W, (k, x) :: m = toks.drop j2 → j2 < toks.length → RdI br b j2 toks.length W → Kd.R k66 66 W w.heap.size (fun _ => True) (.slice (some ⟨b, 0, none⟩) toks.length C) (toks.map s83) →
                Calls Tryd.prog 21 #[.pointer (some ⟨br, 0, none⟩)] W fun e w' => e = .returned (.agg #[.int .i64 (k : Int), .string (B x)]) ∧ RdI br b (j2 + 1) toks.length w' ∧ W.grownBy w' (some br) by
              intro j2 W h1 h2 h3 h4
              have := take_calls br b j2 toks.length C toks W rfl h3 h2 h4
              rw [drop_get toks j2 h2] at h1
              injection h1 with h1 _
              rw [← h1] at this
              exact this)
            by_cases hk1 : k = 1
            · subst hk1
              have hfield := field0 (1 : Int) (B x)
              go_wp2_with (first | (go_at_call 20; refine (command_calls br b j toks.length C on toks _ rfl HNN.out HH6.out HJ.out.rd (HJ.out.tok HPOS.out)).mono ?_; rintro e2 w2 ⟨on', Aw, nw, cw, At, nt, ct, okb, rfl, hg2, hce⟩; rw [HCM.out] at hce; obtain ⟨rfl, rfl, j2, hr, hrd2, hw2, ht2⟩ := hce; have J2 := Aside0.mk (HJ.out.take hrd2 hg2); have J2a := Aside0.mk (J2.out.new (World.grownBy_alloc _ (.cells #[.int .i64 c.on, .slice Aw nw cw, .slice At nt ct] 40) none)); have HP := Aside0.mk (k40_mkM (w2.alloc (.cells #[.int .i64 c.on, .slice Aw nw cw, .slice At nt ct] 40)) w.heap.size (fun k => wr.heap.size ≤ k) (toS c) (Kd.R_lower (Kd.R_alloc (Kd.R_mono (Kd.R_bound hw2) (fun k hk => hk.2.1)) _) HJ.out.bel.size) (Kd.R_lower (Kd.R_alloc (Kd.R_mono (Kd.R_bound ht2) (fun k hk => hk.2.1)) _) HJ.out.bel.size)); have HS := Aside0.mk (Kd.S_alloc (S_grown_ty (Kd.S_mono (Kd.S_bound HJ.out.out) (ok' := fun k => True ∧ ¬ (wr.heap.size ≤ k)) (fun k hk => ⟨trivial, Nat.not_le_of_lt hk.2.2.1⟩)) hg2 HJ.out.rd.ty (by decide)) (.cells #[.int .i64 c.on, .slice Aw nw cw, .slice At nt ct] 40)); have HW2 := Aside0.mk (HREST.out j2 hr hrd2.1); have HR2 := Aside0.mk hr; clear hr hrd2 hw2 ht2 hg2) | ((with_reducible refine gate_builtin (b := .append) (xs := #[.tmp 36, .tmp 38]) rfl ?_); at_builtin; refine Kd.S_append k40 (w0 := w) w.heap.size rfl (.tmp 36) (.tmp 38) 23 40 (.agg #[.int .i64 0, .slice none 0 0, .slice none 0 0]) 56 rfl Tryd.underlying23 infoC rfl (by decide) (by omega) (.slice Ao outs.length co) (outs.map toS) (toS c) [.int .i64 c.on, .slice Aw nw cw, .slice At nt ct] (fun _ => True) (fun k => wr.heap.size ≤ k) rfl (by first | (go_simp; done) | (go_simp; rfl)) HP.out (fun k hk => ⟨trivial, fun e => Nat.not_le_of_lt (Kd.S_lt HJ.out.out k e.symm) hk⟩) (fun _ _ => trivial) HS.out J2a.out.bel J2a.out.bel.size (by have := HOL.out; have := HNN.out; rw [List.length_map]; omega) ?_; intro v1 w5 ho hb hg5 hat; obtain ⟨A1, n1, q1, ev⟩ := R_is (Kd.S_R ho); subst ev; rw [show outs.map toS ++ [toS c] = (outs ++ [c]).map toS by simp] at ho; have J5 := Aside0.mk (J2a.out.app hg5 ho); obtain ⟨A5, c5, hc5⟩ := J5.out.rd.cell; rw [show toks.length - j2 = toks.length - j2 - 1 + 1 by have := (HD.out j2 HR2.out).1; omega] at hc5; obtain ⟨n5, hn5⟩ : ∃ n5, toks.length - j2 - 1 = n5 := ⟨_, rfl⟩; rw [hn5] at hc5; clear hn5; have hz5 : (((n5 + 1 : Nat) : Int) == 0) = false := beq_eq_false_iff_ne.2 (by omega); clear ho hb hg5 hat) | (go_at_call 21; refine (HTK.out j2 _ HR2.out (HD.out j2 HR2.out).1 J5.out.rd (J5.out.tok HPOS.out)).mono ?_; rintro e6 w6 ⟨rfl, hr6, hg6⟩; have J6 := Aside0.mk (J5.out.take hr6 hg6); obtain ⟨A6, c6, hc6⟩ := J6.out.rd.cell; clear hr6 hg6))
              go_roundg (gk - 1)
              case measure => have := HW2.out.1; have := (HD.out j2 HR2.out).1; omega
              case rel => exact ⟨j2 + 1, (1 : Int), outs ++ [c], by first | rfl | go_num, by have := (HD.out j2 HR2.out).1; omega, by have := HW2.out.1; have := (HD.out j2 HR2.out).1; omega, ⟨by have := HOL.out; have := HW2.out.1; simp; omega⟩, J6, ⟨by have h1 := HMORE.out 1 x m rfl; rw [if_neg (by simp)] at h1; rw [h1, (HD.out j2 HR2.out).2.1]; try rfl⟩⟩
            · have hfield := field0 (k : Int) (B x)
              have hkz : ((k : Int) == 1) = false := by simp; omega
              by_cases hm : m = []
              · subst hm
                have HRN := Aside0.mk (show resL none = (r1, r2) by rw [← HRES.out, HMORE.out k x [] rfl, if_pos ⟨hk1, rfl⟩])
                go_wp2_with (first | (go_at_call 20; refine (command_calls br b j toks.length C on toks _ rfl HNN.out HH6.out HJ.out.rd (HJ.out.tok HPOS.out)).mono ?_; rintro e2 w2 ⟨on', Aw, nw, cw, At, nt, ct, okb, rfl, hg2, hce⟩; rw [HCM.out] at hce; obtain ⟨rfl, rfl, j2, hr, hrd2, hw2, ht2⟩ := hce; have J2 := Aside0.mk (HJ.out.take hrd2 hg2); have J2a := Aside0.mk (J2.out.new (World.grownBy_alloc _ (.cells #[.int .i64 c.on, .slice Aw nw cw, .slice At nt ct] 40) none)); have HP := Aside0.mk (k40_mkM (w2.alloc (.cells #[.int .i64 c.on, .slice Aw nw cw, .slice At nt ct] 40)) w.heap.size (fun k => wr.heap.size ≤ k) (toS c) (Kd.R_lower (Kd.R_alloc (Kd.R_mono (Kd.R_bound hw2) (fun k hk => hk.2.1)) _) HJ.out.bel.size) (Kd.R_lower (Kd.R_alloc (Kd.R_mono (Kd.R_bound ht2) (fun k hk => hk.2.1)) _) HJ.out.bel.size)); have HS := Aside0.mk (Kd.S_alloc (S_grown_ty (Kd.S_mono (Kd.S_bound HJ.out.out) (ok' := fun k => True ∧ ¬ (wr.heap.size ≤ k)) (fun k hk => ⟨trivial, Nat.not_le_of_lt hk.2.2.1⟩)) hg2 HJ.out.rd.ty (by decide)) (.cells #[.int .i64 c.on, .slice Aw nw cw, .slice At nt ct] 40)); have HW2 := Aside0.mk (HREST.out j2 hr hrd2.1); have HR2 := Aside0.mk hr; clear hr hrd2 hw2 ht2 hg2) | ((with_reducible refine gate_builtin (b := .append) (xs := #[.tmp 36, .tmp 38]) rfl ?_); at_builtin; refine Kd.S_append k40 (w0 := w) w.heap.size rfl (.tmp 36) (.tmp 38) 23 40 (.agg #[.int .i64 0, .slice none 0 0, .slice none 0 0]) 56 rfl Tryd.underlying23 infoC rfl (by decide) (by omega) (.slice Ao outs.length co) (outs.map toS) (toS c) [.int .i64 c.on, .slice Aw nw cw, .slice At nt ct] (fun _ => True) (fun k => wr.heap.size ≤ k) rfl (by first | (go_simp; done) | (go_simp; rfl)) HP.out (fun k hk => ⟨trivial, fun e => Nat.not_le_of_lt (Kd.S_lt HJ.out.out k e.symm) hk⟩) (fun _ _ => trivial) HS.out J2a.out.bel J2a.out.bel.size (by have := HOL.out; have := HNN.out; rw [List.length_map]; omega) ?_; intro v1 w5 ho hb hg5 hat; obtain ⟨A1, n1, q1, ev⟩ := R_is (Kd.S_R ho); subst ev; rw [show outs.map toS ++ [toS c] = (outs ++ [c]).map toS by simp] at ho; have J5 := Aside0.mk (J2a.out.app hg5 ho); obtain ⟨A5, c5, hc5⟩ := J5.out.rd.cell; rw [show toks.length - j2 = toks.length - j2 - 1 + 1 by have := (HD.out j2 HR2.out).1; omega] at hc5; obtain ⟨n5, hn5⟩ : ∃ n5, toks.length - j2 - 1 = n5 := ⟨_, rfl⟩; rw [hn5] at hc5; clear hn5; have hz5 : (((n5 + 1 : Nat) : Int) == 0) = false := beq_eq_false_iff_ne.2 (by omega); clear ho hb hg5 hat) | (go_at_call 21; refine (HTK.out j2 _ HR2.out (HD.out j2 HR2.out).1 J5.out.rd (J5.out.tok HPOS.out)).mono ?_; rintro e6 w6 ⟨rfl, hr6, hg6⟩; have J6 := Aside0.mk (J5.out.take hr6 hg6); obtain ⟨A6, c6, hc6⟩ := J6.out.rd.cell; rw [show toks.length - (j2 + 1) = 0 by have := (HD.out j2 HR2.out).2.2.mp (by first | rfl | trivial); omega] at hc6; clear hr6 hg6))
                go_ret2
                obtain ⟨rfl, rfl⟩ := Prod.mk.inj HRN.out
                exact ⟨_, rfl, Kd.S_nil _ _ _ _ _, J6.out.bel⟩
              · have HM0 := Aside0.mk hm
                clear hm
                go_wp2_with (first | (go_at_call 20; refine (command_calls br b j toks.length C on toks _ rfl HNN.out HH6.out HJ.out.rd (HJ.out.tok HPOS.out)).mono ?_; rintro e2 w2 ⟨on', Aw, nw, cw, At, nt, ct, okb, rfl, hg2, hce⟩; rw [HCM.out] at hce; obtain ⟨rfl, rfl, j2, hr, hrd2, hw2, ht2⟩ := hce; have J2 := Aside0.mk (HJ.out.take hrd2 hg2); have J2a := Aside0.mk (J2.out.new (World.grownBy_alloc _ (.cells #[.int .i64 c.on, .slice Aw nw cw, .slice At nt ct] 40) none)); have HP := Aside0.mk (k40_mkM (w2.alloc (.cells #[.int .i64 c.on, .slice Aw nw cw, .slice At nt ct] 40)) w.heap.size (fun k => wr.heap.size ≤ k) (toS c) (Kd.R_lower (Kd.R_alloc (Kd.R_mono (Kd.R_bound hw2) (fun k hk => hk.2.1)) _) HJ.out.bel.size) (Kd.R_lower (Kd.R_alloc (Kd.R_mono (Kd.R_bound ht2) (fun k hk => hk.2.1)) _) HJ.out.bel.size)); have HS := Aside0.mk (Kd.S_alloc (S_grown_ty (Kd.S_mono (Kd.S_bound HJ.out.out) (ok' := fun k => True ∧ ¬ (wr.heap.size ≤ k)) (fun k hk => ⟨trivial, Nat.not_le_of_lt hk.2.2.1⟩)) hg2 HJ.out.rd.ty (by decide)) (.cells #[.int .i64 c.on, .slice Aw nw cw, .slice At nt ct] 40)); have HW2 := Aside0.mk (HREST.out j2 hr hrd2.1); have HR2 := Aside0.mk hr; clear hr hrd2 hw2 ht2 hg2) | ((with_reducible refine gate_builtin (b := .append) (xs := #[.tmp 36, .tmp 38]) rfl ?_); at_builtin; refine Kd.S_append k40 (w0 := w) w.heap.size rfl (.tmp 36) (.tmp 38) 23 40 (.agg #[.int .i64 0, .slice none 0 0, .slice none 0 0]) 56 rfl Tryd.underlying23 infoC rfl (by decide) (by omega) (.slice Ao outs.length co) (outs.map toS) (toS c) [.int .i64 c.on, .slice Aw nw cw, .slice At nt ct] (fun _ => True) (fun k => wr.heap.size ≤ k) rfl (by first | (go_simp; done) | (go_simp; rfl)) HP.out (fun k hk => ⟨trivial, fun e => Nat.not_le_of_lt (Kd.S_lt HJ.out.out k e.symm) hk⟩) (fun _ _ => trivial) HS.out J2a.out.bel J2a.out.bel.size (by have := HOL.out; have := HNN.out; rw [List.length_map]; omega) ?_; intro v1 w5 ho hb hg5 hat; obtain ⟨A1, n1, q1, ev⟩ := R_is (Kd.S_R ho); subst ev; rw [show outs.map toS ++ [toS c] = (outs ++ [c]).map toS by simp] at ho; have J5 := Aside0.mk (J2a.out.app hg5 ho); obtain ⟨A5, c5, hc5⟩ := J5.out.rd.cell; rw [show toks.length - j2 = toks.length - j2 - 1 + 1 by have := (HD.out j2 HR2.out).1; omega] at hc5; obtain ⟨n5, hn5⟩ : ∃ n5, toks.length - j2 - 1 = n5 := ⟨_, rfl⟩; rw [hn5] at hc5; clear hn5; have hz5 : (((n5 + 1 : Nat) : Int) == 0) = false := beq_eq_false_iff_ne.2 (by omega); clear ho hb hg5 hat) | (go_at_call 21; refine (HTK.out j2 _ HR2.out (HD.out j2 HR2.out).1 J5.out.rd (J5.out.tok HPOS.out)).mono ?_; rintro e6 w6 ⟨rfl, hr6, hg6⟩; have J6 := Aside0.mk (J5.out.take hr6 hg6); obtain ⟨A6, c6, hc6⟩ := J6.out.rd.cell; rw [show toks.length - (j2 + 1) = toks.length - (j2 + 1) - 1 + 1 by have := (HD.out j2 HR2.out).1; have := mt (HD.out j2 HR2.out).2.2.2 HM0.out; omega] at hc6; obtain ⟨n6, hn6⟩ : ∃ n6, toks.length - (j2 + 1) - 1 = n6 := ⟨_, rfl⟩; rw [hn6] at hc6; clear hn6; have hz6 : ((n6 : Int) + 1 == 0) = false := beq_eq_false_iff_ne.2 (by omega); clear hr6 hg6))
                go_roundg (gk - 1)
                case measure => have := HW2.out.1; have := (HD.out j2 HR2.out).1; omega
                case rel => exact ⟨j2 + 1, (k : Int), outs ++ [c], by first | rfl | go_num, by have := (HD.out j2 HR2.out).1; omega, by have := HW2.out.1; have := (HD.out j2 HR2.out).1; omega, ⟨by have := HOL.out; have := HW2.out.1; simp; omega⟩, J6, ⟨by have h1 := HMORE.out k x m rfl; rw [if_neg (fun h => HM0.out h.2)] at h1; rw [h1, (HD.out j2 HR2.out).2.1]; try rfl⟩⟩
      · have hj' : j = toks.length := by omega
        subst hj'
        rw [Nat.sub_self] at hc0
        have HRN := Aside0.mk (show resL (some outs) = (r1, r2) by rw [← HRES.out, ← HR.out, List.drop_length, lineS_nil])
        go_wp2
        go_ret2
        obtain ⟨rfl, rfl⟩ := Prod.mk.inj HRN.out
        exact ⟨_, rfl, HJ.out.out, HJ.out.bel⟩
end Go.Proofs.YtogbdjboblfokaaDoor.X
/- parse.Right as a plain function, with its contract; condition: fewer than 1000000000 commands, and ways of each. -/
namespace Go.Proofs.YtogbdjboblfokaaDoor.X
open Go.RowKit Go.Proofs.YtogbdjboblfokaaDoorW.PrintWords Go.Proofs.YtogbdjboblfokaaDoorW.PrintLast Go.Proofs.YtogbdjboblfokaaDoorW.PrintMore Go.Proofs.YtogbdjboblfokaaDoor.XW05 Go.Proofs.YtogbdjboblfokaaDoor.XT06
set_option linter.unusedSimpArgs false
set_option linter.unusedVariables false

theorem add_none (b o j : Nat) : (⟨b, o, none⟩ : Addr).add j = ⟨b, o + j, none⟩ := by unfold Addr.add; split <;> simp_all
/-- A row that is read: where it lies, and each element's cells. -/
theorem C_form {α : Type} {d : Kd α} {w : World} {A : Option Addr} {n : Nat} {xs : List α} (h : d.C w A n xs) (hn : 0 < n) (hs : 0 < d.sz) :
    ∃ b o, A = some ⟨b, o, none⟩ ∧ b < w.heap.size ∧ ∀ (j : Nat) (hj : j < xs.length), ∃ c, c.length = d.sz ∧ d.K w xs[j] c ∧ ∀ i u, c[i]? = some u → w.cell? ⟨b, o + (j * d.sz + i), none⟩ = some u := by
  obtain ⟨h1, h2, h3⟩ := h
  obtain ⟨⟨b, o, s⟩, rfl, hc⟩ := h3 hn
  obtain ⟨c0, hc0, hk0, hcc0⟩ := hc 0 xs[0] (List.getElem?_eq_getElem (by omega))
  have h0 := hcc0 0 c0[0] (List.getElem?_eq_getElem (by omega))
  have hsn : s = none := by
    cases s with
    | none => rfl
    | some s => simp [Addr.add, World.cell?] at h0; split at h0 <;> simp at h0
  subst hsn
  rw [add_none] at h0
  refine ⟨b, o, rfl, World.block_lt_of_cell? w _ h0, ?_⟩
  intro j hj
  obtain ⟨c, hcl, hk, hcc⟩ := hc j xs[j] (List.getElem?_eq_getElem hj)
  refine ⟨c, hcl, hk, fun i u hi => ?_⟩
  have := hcc i u hi
  rw [add_none] at this
  exact this
theorem toRow {w : World} {A : Option Addr} {n : Nat} {xs : List S42} (h : Kd.C k42 w A n xs) (hn : 0 < n) :
    ∃ b o, A = some ⟨b, o, none⟩ ∧ b < w.heap.size ∧ ∀ (j : Nat) (hj : j < xs.length), w.cell? ⟨b, o + j * 2, none⟩ = some (.int .i64 xs[j].f0) ∧ w.cell? ⟨b, o + j * 2 + 1, none⟩ = some (.string xs[j].f1) := by
  obtain ⟨b, o, rfl, hb, hc⟩ := C_form h hn (show 0 < k42.sz by decide)
  refine ⟨b, o, rfl, hb, fun j hj => ?_⟩
  obtain ⟨c, hcl, hk, hcc⟩ := hc j hj
  obtain rfl := k42_open hk
  exact ⟨hcc 0 _ rfl, hcc 1 _ rfl⟩
theorem cmdRow {w : World} {A : Option Addr} {n : Nat} {xs : List S40} (h : Kd.C k40 w A n xs) (hn : 0 < n) :
    ∃ b o, A = some ⟨b, o, none⟩ ∧ b < w.heap.size ∧ ∀ (j : Nat) (hj : j < xs.length), ∃ A1 c1 A2 c2, w.cell? ⟨b, o + j * 3, none⟩ = some (.int .i64 xs[j].f0) ∧ w.cell? ⟨b, o + j * 3 + 1, none⟩ = some (.slice A1 xs[j].f1.length c1) ∧ w.cell? ⟨b, o + j * 3 + 2, none⟩ = some (.slice A2 xs[j].f2.length c2) ∧
      xs[j].f1.length ≤ c1 ∧ Kd.string.C w A1 xs[j].f1.length xs[j].f1 ∧ xs[j].f2.length ≤ c2 ∧ Kd.C k42 w A2 xs[j].f2.length xs[j].f2 := by
  obtain ⟨b, o, rfl, hb, hc⟩ := C_form h hn (show 0 < k40.sz by decide)
  refine ⟨b, o, rfl, hb, fun j hj => ?_⟩
  obtain ⟨c, hcl, hk, hcc⟩ := hc j hj
  obtain ⟨A1, c1, A2, c2, rfl, l1, g1, l2, g2⟩ := k40_open hk
  exact ⟨A1, c1, A2, c2, hcc 0 _ rfl, hcc 1 _ rfl, hcc 2 _ rfl, l1, g1, l2, g2⟩

def oddT (t : S42) : Bool := t.f0 != 4 && t.f0 != 5 && t.f0 != 6
def oddC (c : S40) : Bool := c.f2.any oddT || c.f1.length == 0 || (c.f0 != 1 && c.f0 != 2 && c.f0 != 3)
set_option maxRecDepth 100000 in
set_option maxHeartbeats 1000000 in
theorem lit2_calls (t : S42) (w : World) : Calls Tryd.prog 31 #[.agg #[.int .i64 t.f0, .string t.f1]] w fun e w' => e = .returned (.bool (oddT t)) ∧ Below w.heap.size w w' := by
  obtain ⟨a, s⟩ := t
  have hb : Below w.heap.size w (w.alloc (.cells #[.int .i64 a, .string s] 42)) := below_alloc (Below.refl _ _) _
  have hbn := blk_new w (.cells #[.int .i64 a, .string s] 42 (0, 0))
  have c0 : (w.alloc (.cells #[.int .i64 a, .string s] 42)).cell? ⟨w.heap.size, 0, none⟩ = some (.int .i64 a) := blk_cell hbn 0
  have HB := Aside0.mk hb
  clear hb hbn
  by_cases h4 : a = 4
  · subst h4
    go_enter Tryd.func31, Tryd.ntmps31
    go_wp2
    go_ret
    exact ⟨rfl, HB.out⟩
  · by_cases h5 : a = 5
    · subst h5
      go_enter Tryd.func31, Tryd.ntmps31
      go_wp2
      go_ret
      exact ⟨rfl, HB.out⟩
    · by_cases h6 : a = 6
      · subst h6
        go_enter Tryd.func31, Tryd.ntmps31
        go_wp2
        go_ret
        exact ⟨rfl, HB.out⟩
      · have e4 : (a != 4) = true := by simpa using h4
        have e5 : (a != 5) = true := by simpa using h5
        have e6 : (a != 6) = true := by simpa using h6
        have HO := Aside0.mk (show oddT ⟨a, s⟩ = true by simp [oddT, h4, h5, h6])
        go_enter Tryd.func31, Tryd.ntmps31
        go_wp2
        go_ret
        exact ⟨by rw [HO.out]; rfl, HB.out⟩
set_option maxRecDepth 100000 in
set_option maxHeartbeats 2000000 in
theorem indexT_calls (A : Option Addr) (c : Nat) (zs : List S42) (w : World) (hC : Kd.C k42 w A zs.length zs) (hl : zs.length < 1000000000) :
    Calls Tryd.prog 52 #[.slice A zs.length c, .func (.func 31) #[] #[]] w fun e w' => ∃ r : Int, e = .returned (.int .i64 r) ∧ decide (r ≥ 0) = zs.any oddT ∧ Below w.heap.size w w' := by
  have HC := Aside0.mk hC
  clear hC
  go_enter Tryd.func52, Tryd.ntmps52
  go_wp2
  go_loopg [5, 8] zs.length (fun g v5 v8 wr => ∃ kk : Nat, kk ≤ zs.length ∧ zs.length - kk ≤ g ∧ v8 = .int .i64 kk ∧ Aside0 (Below w.heap.size w wr) ∧ Aside0 ((zs.take kk).any oddT = false))
  case atStart => exact ⟨0, Nat.zero_le _, by omega, rfl, ⟨Below.refl _ _⟩, ⟨by simp⟩⟩
  case round =>
    obtain ⟨kk, hkk, hg, rfl, HB, HA⟩ := hrel
    by_cases hlt : kk < zs.length
    · obtain ⟨b, o, rfl, hb, hcc⟩ := toRow (Kd.C_below HC.out HB.out) (by omega)
      obtain ⟨c0, c1⟩ := hcc kk hlt
      obtain ⟨z, hz⟩ : ∃ z, zs[kk] = z := ⟨_, rfl⟩
      rw [hz] at c0 c1
      have HZ := Aside0.mk hz
      clear hcc hz
      cases hq : oddT z with
      | true =>
        have HQ := Aside0.mk hq
        clear hq
        go_wp2_with (go_at_call 31; refine (lit2_calls z _).mono ?_; rintro e1 w1 ⟨rfl, hb1⟩; rw [HQ.out]; have hb2 := below_step HB.out hb1)
        go_ret
        refine ⟨_, rfl, ?_, hb2⟩
        have : zs.any oddT = true := List.any_eq_true.2 ⟨z, by rw [← HZ.out]; exact List.getElem_mem _, HQ.out⟩
        rw [this]
        exact decide_eq_true (by omega)
      | false =>
        have HQ := Aside0.mk hq
        clear hq
        go_wp2_with (go_at_call 31; refine (lit2_calls z _).mono ?_; rintro e1 w1 ⟨rfl, hb1⟩; rw [HQ.out]; have HB2 := Aside0.mk (below_step HB.out hb1))
        go_roundg (gk - 1)
        case measure => omega
        case rel => exact ⟨kk + 1, by omega, by omega, by go_num, HB2, ⟨by rw [List.take_succ_eq_append_getElem hlt, List.any_append, HA.out, HZ.out]; simp [HQ.out]⟩⟩
    · have : kk = zs.length := by omega
      subst this
      go_wp2
      go_ret
      refine ⟨_, rfl, ?_, HB.out⟩
      have := HA.out
      rw [List.take_length] at this
      rw [this]
      rfl
set_option maxRecDepth 100000 in
theorem containsT_calls (A : Option Addr) (c : Nat) (zs : List S42) (w : World) (hC : Kd.C k42 w A zs.length zs) (hl : zs.length < 1000000000) :
    Calls Tryd.prog 30 #[.slice A zs.length c, .func (.func 31) #[] #[]] w fun e w' => e = .returned (.bool (zs.any oddT)) ∧ Below w.heap.size w w' := by
  have HC := Aside0.mk hC
  clear hC
  go_enter Tryd.func30, Tryd.ntmps30
  go_wp2_with (go_at_call 52; refine (indexT_calls A c zs _ HC.out hl).mono ?_; rintro e1 w1 ⟨r, rfl, hr, hb1⟩)
  go_ret
  exact ⟨by rw [← hr]; rfl, hb1⟩
set_option maxRecDepth 100000 in
set_option maxHeartbeats 2000000 in
theorem lit1_calls (x : S40) (A1 A2 : Option Addr) (c1 c2 : Nat) (w : World) (h2 : Kd.C k42 w A2 x.f2.length x.f2) (hl : x.f2.length < 1000000000) :
    Calls Tryd.prog 29 #[.agg #[.int .i64 x.f0, .slice A1 x.f1.length c1, .slice A2 x.f2.length c2]] w fun e w' => e = .returned (.bool (oddC x)) ∧ Below w.heap.size w w' := by
  obtain ⟨a, ws, ts⟩ := x
  simp only at h2 hl ⊢
  have hbn := blk_new w (.cells #[.int .i64 a, .slice A1 ws.length c1, .slice A2 ts.length c2] 40 (0, 0))
  have HB := Aside0.mk (show Below w.heap.size w (w.alloc (.cells #[.int .i64 a, .slice A1 ws.length c1, .slice A2 ts.length c2] 40)) from below_alloc (Below.refl _ _) _)
  have c2c : (w.alloc (.cells #[.int .i64 a, .slice A1 ws.length c1, .slice A2 ts.length c2] 40)).cell? ⟨w.heap.size, 2, none⟩ = some (.slice A2 ts.length c2) := blk_cell hbn 2
  have HC := Aside0.mk (Kd.C_below h2 (below_alloc (Below.refl _ _) (.cells #[.int .i64 a, .slice A1 ws.length c1, .slice A2 ts.length c2] 40)))
  have HN := Aside0.mk hbn
  obtain ⟨n, hn⟩ : ∃ n, ws.length = n := ⟨_, rfl⟩
  have HO := Aside0.mk (show oddC ⟨a, ws, ts⟩ = (ts.any oddT || n == 0 || (a != 1 && a != 2 && a != 3)) by rw [← hn]; rfl)
  rw [hn] at HB HC HN c2c ⊢
  clear hbn h2 hn
  cases ho : ts.any oddT with
  | true =>
    rw [ho] at HO
    have HOO := Aside0.mk ho
    clear ho
    go_enter Tryd.func29, Tryd.ntmps29
    go_wp2_with (go_at_call 30; refine (containsT_calls A2 c2 ts _ HC.out hl).mono ?_; rintro e1 w1 ⟨rfl, hb1⟩; rw [HOO.out]; have HB1 := Aside0.mk (below_step HB.out hb1))
    go_ret
    exact ⟨by rw [HO.out]; rfl, HB1.out⟩
  | false =>
    rw [ho] at HO
    have HOO := Aside0.mk ho
    clear ho
    by_cases hn0 : n = 0
    · subst hn0
      go_enter Tryd.func29, Tryd.ntmps29
      go_wp2_with (go_at_call 30; refine (containsT_calls A2 c2 ts _ HC.out hl).mono ?_; rintro e1 w1 ⟨rfl, hb1⟩; rw [HOO.out]; have HB1 := Aside0.mk (below_step HB.out hb1); have bk := blk_below HN.out hb1; have d0 := blk_cell bk 0; have d1 := blk_cell bk 1; clear hb1 bk)
      go_ret
      exact ⟨by rw [HO.out]; rfl, HB1.out⟩
    · have hnz : ((n : Int) == 0) = false := by simpa using hn0
      have hnz2 : (n == 0) = false := by simpa using hn0
      have HO2 := Aside0.mk (show oddC ⟨a, ws, ts⟩ = (a != 1 && a != 2 && a != 3) by rw [HO.out, hnz2]; simp)
      clear hnz2
      by_cases ha1 : a = 1
      · subst ha1
        go_enter Tryd.func29, Tryd.ntmps29
        go_wp2_with (go_at_call 30; refine (containsT_calls A2 c2 ts _ HC.out hl).mono ?_; rintro e1 w1 ⟨rfl, hb1⟩; rw [HOO.out]; have HB1 := Aside0.mk (below_step HB.out hb1); have bk := blk_below HN.out hb1; have d0 := blk_cell bk 0; have d1 := blk_cell bk 1; clear hb1 bk)
        go_ret
        exact ⟨by rw [HO2.out]; rfl, HB1.out⟩
      · by_cases ha2 : a = 2
        · subst ha2
          go_enter Tryd.func29, Tryd.ntmps29
          go_wp2_with (go_at_call 30; refine (containsT_calls A2 c2 ts _ HC.out hl).mono ?_; rintro e1 w1 ⟨rfl, hb1⟩; rw [HOO.out]; have HB1 := Aside0.mk (below_step HB.out hb1); have bk := blk_below HN.out hb1; have d0 := blk_cell bk 0; have d1 := blk_cell bk 1; clear hb1 bk)
          go_ret
          exact ⟨by rw [HO2.out]; rfl, HB1.out⟩
        · by_cases ha3 : a = 3
          · subst ha3
            go_enter Tryd.func29, Tryd.ntmps29
            go_wp2_with (go_at_call 30; refine (containsT_calls A2 c2 ts _ HC.out hl).mono ?_; rintro e1 w1 ⟨rfl, hb1⟩; rw [HOO.out]; have HB1 := Aside0.mk (below_step HB.out hb1); have bk := blk_below HN.out hb1; have d0 := blk_cell bk 0; have d1 := blk_cell bk 1; clear hb1 bk)
            go_ret
            exact ⟨by rw [HO2.out]; rfl, HB1.out⟩
          · have e1 : (a != 1) = true := by simpa using ha1
            have e2 : (a != 2) = true := by simpa using ha2
            have e3 : (a != 3) = true := by simpa using ha3
            have HO3 := Aside0.mk (show oddC ⟨a, ws, ts⟩ = true by rw [HO2.out, e1, e2, e3]; rfl)
            go_enter Tryd.func29, Tryd.ntmps29
            go_wp2_with (go_at_call 30; refine (containsT_calls A2 c2 ts _ HC.out hl).mono ?_; rintro e1 w1 ⟨rfl, hb1⟩; rw [HOO.out]; have HB1 := Aside0.mk (below_step HB.out hb1); have bk := blk_below HN.out hb1; have d0 := blk_cell bk 0; have d1 := blk_cell bk 1; clear hb1 bk)
            go_ret
            exact ⟨by rw [HO3.out]; rfl, HB1.out⟩
set_option maxRecDepth 100000 in
set_option maxHeartbeats 2000000 in
theorem indexC_calls (A : Option Addr) (c : Nat) (zs : List S40) (w : World) (hC : Kd.C k40 w A zs.length zs) (hl : zs.length < 1000000000) (hls : ∀ z ∈ zs, z.f2.length < 1000000000) :
    Calls Tryd.prog 51 #[.slice A zs.length c, .func (.func 29) #[] #[]] w fun e w' => ∃ r : Int, e = .returned (.int .i64 r) ∧ decide (r ≥ 0) = zs.any oddC ∧ Below w.heap.size w w' := by
  have HC := Aside0.mk hC
  have HLS := Aside0.mk hls
  clear hC hls
  go_enter Tryd.func51, Tryd.ntmps51
  go_wp2
  go_loopg [5, 8] zs.length (fun g v5 v8 wr => ∃ kk : Nat, kk ≤ zs.length ∧ zs.length - kk ≤ g ∧ v8 = .int .i64 kk ∧ Aside0 (Below w.heap.size w wr) ∧ Aside0 ((zs.take kk).any oddC = false))
  case atStart => exact ⟨0, Nat.zero_le _, by omega, rfl, ⟨Below.refl _ _⟩, ⟨by simp⟩⟩
  case round =>
    obtain ⟨kk, hkk, hg, rfl, HB, HA⟩ := hrel
    by_cases hlt : kk < zs.length
    · obtain ⟨b, o, rfl, hb, hcc⟩ := cmdRow (Kd.C_below HC.out HB.out) (by omega)
      obtain ⟨A1, c1, A2, c2, d0, d1, d2, l1, g1, l2, g2⟩ := hcc kk hlt
      obtain ⟨z, hz⟩ : ∃ z, zs[kk] = z := ⟨_, rfl⟩
      rw [hz] at d0 d1 d2 l1 g1 l2 g2
      have HZ := Aside0.mk hz
      have HG2 := Aside0.mk g2
      have HLZ := Aside0.mk (show z.f2.length < 1000000000 from HLS.out z (by rw [← hz]; exact List.getElem_mem _))
      clear hcc hz g1 g2
      cases hq : oddC z with
      | true =>
        have HQ := Aside0.mk hq
        clear hq
        go_wp2_with (go_at_call 29; refine (lit1_calls z A1 A2 c1 c2 _ HG2.out HLZ.out).mono ?_; rintro e1 w1 ⟨rfl, hb1⟩; rw [HQ.out]; have hb2 := below_step HB.out hb1)
        go_ret
        refine ⟨_, rfl, ?_, hb2⟩
        have : zs.any oddC = true := List.any_eq_true.2 ⟨z, by rw [← HZ.out]; exact List.getElem_mem _, HQ.out⟩
        rw [this]
        exact decide_eq_true (by omega)
      | false =>
        have HQ := Aside0.mk hq
        clear hq
        go_wp2_with (go_at_call 29; refine (lit1_calls z A1 A2 c1 c2 _ HG2.out HLZ.out).mono ?_; rintro e1 w1 ⟨rfl, hb1⟩; rw [HQ.out]; have HB2 := Aside0.mk (below_step HB.out hb1))
        go_roundg (gk - 1)
        case measure => omega
        case rel => exact ⟨kk + 1, by omega, by omega, by go_num, HB2, ⟨by rw [List.take_succ_eq_append_getElem hlt, List.any_append, HA.out, HZ.out]; simp [HQ.out]⟩⟩
    · have : kk = zs.length := by omega
      subst this
      go_wp2
      go_ret
      refine ⟨_, rfl, ?_, HB.out⟩
      have := HA.out
      rw [List.take_length] at this
      rw [this]
      rfl
set_option maxRecDepth 100000 in
theorem containsC_calls (A : Option Addr) (c : Nat) (zs : List S40) (w : World) (hC : Kd.C k40 w A zs.length zs) (hl : zs.length < 1000000000) (hls : ∀ z ∈ zs, z.f2.length < 1000000000) :
    Calls Tryd.prog 28 #[.slice A zs.length c, .func (.func 29) #[] #[]] w fun e w' => e = .returned (.bool (zs.any oddC)) ∧ Below w.heap.size w w' := by
  have HC := Aside0.mk hC
  have HLS := Aside0.mk hls
  clear hC hls
  go_enter Tryd.func28, Tryd.ntmps28
  go_wp2_with (go_at_call 51; refine (indexC_calls A c zs _ HC.out hl HLS.out).mono ?_; rintro e1 w1 ⟨r, rfl, hr, hb1⟩)
  go_ret
  exact ⟨by rw [← hr]; rfl, hb1⟩
def rightU (zs : List S40) : Bool := !zs.any oddC && (match zs with | [] => true | z :: _ => z.f0 == 1)
def parse_Right.f (zs : List S40) : Option Bool := if zs.length < 1000000000 ∧ (∀ z ∈ zs, z.f2.length < 1000000000) then some (rightU zs) else none
set_option maxRecDepth 100000 in
set_option maxHeartbeats 2000000 in
theorem parse_Right.calls (A0 : Option Addr) (c0 : Nat) (l0 : List S40) (r : Bool) (w : World) (hr0 : Kd.C k40 w A0 l0.length l0) (hc0 : l0.length ≤ c0) (h : parse_Right.f l0 = some r) :
    Calls Tryd.prog 12 #[.slice A0 l0.length c0] w fun e w' => e = .returned (.bool r) ∧ Below w.heap.size w w' := by
  unfold parse_Right.f at h
  by_cases hsz : l0.length < 1000000000 ∧ (∀ z ∈ l0, z.f2.length < 1000000000)
  case neg => rw [if_neg hsz] at h; exact absurd h (by simp)
  rw [if_pos hsz] at h
  obtain rfl := Option.some.inj h
  obtain ⟨hl, hls⟩ := hsz
  have HC := Aside0.mk hr0
  have HLS := Aside0.mk hls
  clear hr0 hls h
  cases hq : l0.any oddC with
  | true =>
    have HQ := Aside0.mk hq
    have HR := Aside0.mk (show rightU l0 = false by simp [rightU, hq])
    clear hq
    go_enter Tryd.func12, Tryd.ntmps12
    go_wp2_with (go_at_call 28; refine (containsC_calls A0 c0 l0 _ HC.out hl HLS.out).mono ?_; rintro e1 w1 ⟨rfl, hb1⟩; rw [HQ.out])
    go_ret
    exact ⟨by rw [HR.out]; rfl, hb1⟩
  | false =>
    have HQ := Aside0.mk hq
    cases l0 with
    | nil =>
      go_enter Tryd.func12, Tryd.ntmps12
      go_wp2_with (go_at_call 28; refine (containsC_calls A0 c0 [] _ HC.out hl HLS.out).mono ?_; rintro e1 w1 ⟨rfl, hb1⟩; rw [HQ.out])
      go_ret
      exact ⟨rfl, hb1⟩
    | cons z zs =>
      obtain ⟨b, o, rfl, hb, hcc⟩ := cmdRow HC.out (by simp)
      obtain ⟨A1, c1, A2, c2, d0, _⟩ := hcc 0 (by simp)
      rw [Nat.zero_mul, Nat.add_zero] at d0
      simp only [List.getElem_cons_zero] at d0
      have D0 := Aside0.mk d0
      have HR := Aside0.mk (show rightU (z :: zs) = (z.f0 == 1) by simp [rightU, hq])
      have hnz : (((z :: zs).length : Int) == 0) = false := by simp; omega
      clear hq hcc d0
      go_enter Tryd.func12, Tryd.ntmps12
      go_wp2_with (go_at_call 28; refine (containsC_calls _ c0 (z :: zs) _ HC.out hl HLS.out).mono ?_; rintro e1 w1 ⟨rfl, hb1⟩; rw [HQ.out]; have d0 := (hb1.cell (World.block_lt_of_cell? w _ D0.out)).trans D0.out)
      go_ret
      exact ⟨by rw [HR.out]; rfl, hb1⟩
end Go.Proofs.YtogbdjboblfokaaDoor.X
/- flatironlaw06.Of: commands, as the document has them, as a contract; condition: fewer than 1000000000 commands, and ways of each. -/
namespace Go.Proofs.YtogbdjboblfokaaDoor.X
open Go.RowKit Go.Proofs.YtogbdjboblfokaaDoorW.PrintWords Go.Proofs.YtogbdjboblfokaaDoorW.PrintLast Go.Proofs.YtogbdjboblfokaaDoorW.PrintMore Go.Proofs.YtogbdjboblfokaaDoor.XW05 Go.Proofs.YtogbdjboblfokaaDoor.XT06
set_option linter.unusedSimpArgs false
set_option linter.unusedVariables false

def cT (t : S42) : S77 := ⟨t.f0, t.f1⟩
def cC (x : S40) : S73 := ⟨x.f0, x.f1, x.f2.map cT⟩
/-- A slice that is no row of the call's own: its three words alone. -/
def slEnc (x : Option Addr × Nat × Nat) : Value := .slice x.1 x.2.1 x.2.2
def kSl : Kd (Option Addr × Nat × Nat) := Kd.scalar slEnc (fun _ => rfl)
def kRC : Kd (Int × (Option Addr × Nat × Nat) × List S77) := Kd.pair (Kd.int .i64) (Kd.pair kSl (Kd.slice 77 k77))
abbrev RCg := Int × (Option Addr × Nat × Nat) × List S77
theorem kRC_mkM (w : World) (base : Nat) (ok : Nat → Prop) (a : Int) (A : Option Addr) (n c : Nat) (ts : List S77) {v : Value} (h : Kd.R k77 77 w base ok v ts) : kRC.M w base ok (a, (A, n, c), ts) [.int .i64 a, .slice A n c, v] :=
  ⟨[.int .i64 a], [.slice A n c, v], rfl, rfl, ⟨[.slice A n c], [v], rfl, rfl, ⟨v, rfl, h⟩⟩⟩
def relC (w : World) (x : S40) (g : RCg) : Prop := g.1 = x.f0 ∧ g.2.1.2.1 = x.f1.length ∧ x.f1.length ≤ g.2.1.2.2 ∧ Kd.string.C w g.2.1.1 x.f1.length x.f1 ∧ g.2.2 = x.f2.map cT
def allC (w : World) (xs : List S40) (gs : List RCg) : Prop := gs.length = xs.length ∧ ∀ j (h1 : j < xs.length) (h2 : j < gs.length), relC w xs[j] gs[j]
theorem allC_snoc {w : World} {xs : List S40} {gs : List RCg} {x : S40} {g : RCg} (h : allC w xs gs) (hx : relC w x g) : allC w (xs ++ [x]) (gs ++ [g]) := by
  refine ⟨by simp [h.1], fun j h1 h2 => ?_⟩
  by_cases hj : j < xs.length
  · rw [List.getElem_append_left hj, List.getElem_append_left (by rw [h.1]; exact hj)]
    exact h.2 j hj _
  · have e : j = xs.length := by simp at h1; omega
    subst e
    rw [List.getElem_append_right (by omega), List.getElem_append_right (by rw [h.1]; omega)]
    simpa [h.1] using hx
theorem C_conv {w W : World} {A : Option Addr} {n : Nat} {L : List S40} {gs : List RCg} (h : Kd.C kRC W A n gs) (hr : allC w L gs) (hb : Below w.heap.size w W) : Kd.C k73 W A n (L.map cC) := by
  obtain ⟨h1, h2, h3⟩ := h
  refine ⟨by rw [List.length_map, ← hr.1]; exact h1, h2, fun hn => ?_⟩
  obtain ⟨ad, e, hc⟩ := h3 hn
  refine ⟨ad, e, fun j p hj => ?_⟩
  obtain ⟨hj1, hj2⟩ := List.getElem?_eq_some_iff.1 hj
  rw [List.length_map] at hj1
  have hj3 : j < gs.length := by rw [hr.1]; exact hj1
  obtain ⟨c, hcl, hk, hcc⟩ := hc j gs[j] (List.getElem?_eq_getElem hj3)
  refine ⟨c, hcl, ?_, hcc⟩
  obtain ⟨r1, r2, r3, r4, r5⟩ := hr.2 j hj1 hj3
  rw [List.getElem_map] at hj2
  subst hj2
  obtain ⟨_, _, rfl, rfl, ⟨_, _, rfl, rfl, ⟨A2, c2, rfl, l2, g2⟩⟩⟩ := hk
  have e1 : kSl = Kd.scalar slEnc (fun _ => rfl) := rfl
  rw [r1, r5] at *
  have hs : slEnc gs[j].2.1 = .slice gs[j].2.1.1 L[j].f1.length gs[j].2.1.2.2 := by rw [← r2]; rfl
  rw [hs]
  exact k73_mk W (cC L[j]) r3 (Kd.C_below r4 hb) l2 g2
/-- What holds between the rounds of the inner loop. -/
structure OI (w : World) (N0 : Nat) (a : Int) (A1 : Option Addr) (n1 c1 : Nat) (vo : Value) (gs : List RCg) (vt : Value) (ts : List S77) (W : World) : Prop where
  box : W.heap[N0 + 1]? = some (.cells #[.int .i64 a, .slice A1 n1 c1, vt] 73 (0, 0))
  row : Kd.R k77 77 W N0 (fun _ => True) vt ts
  out : Kd.R kRC 73 W w.heap.size (fun k => k < N0) vo gs
  bel : Below w.heap.size w W
  le : w.heap.size ≤ N0
section
variable {w W W1 : World} {N0 n1 c1 : Nat} {a : Int} {A1 : Option Addr} {vo vt : Value} {gs : List RCg} {ts : List S77}
theorem OI.lt (h : OI w N0 a A1 n1 c1 vo gs vt ts W) : N0 + 1 < W.heap.size := blk_lt h.box
theorem OI.new (h : OI w N0 a A1 n1 c1 vo gs vt ts W) (hb : Below W.heap.size W W1) : OI w N0 a A1 n1 c1 vo gs vt ts W1 :=
  ⟨blk_below h.box hb, Kd.R_below h.row hb, Kd.R_below h.out hb, below_step h.bel hb, h.le⟩
theorem OI.app (h : OI w N0 a A1 n1 c1 vo gs vt ts W) {v1 : Value} {ts1 : List S77} (hg : W.grownBy W1 vt.ownBlock) (ho : Kd.R k77 77 W1 N0 (fun _ => True) v1 ts1) :
    OI w N0 a A1 n1 c1 vo gs v1 ts1 (W1.setCell ⟨N0 + 1, 2, none⟩ v1) := by
  have hbx := blk_grown_ty h.box hg (R_row_ty h.row) (by decide)
  have hs := World.grownBy_set W1 (N0 + 1) 2 v1
  have hst : ∀ k, some (N0 + 1) = some k → ∃ cells, W1.heap[k]? = some (.cells cells 73 (0, 0)) := by
    intro k hk; injection hk with hk; subst hk; exact ⟨_, hbx⟩
  refine ⟨blk_put hbx 2 v1 rfl, R_grown_ty ho hs hst (by decide), ?_, ?_, h.le⟩
  · refine Kd.R_grown (Kd.R_grown h.out hg (fun k hk e => ?_)) hs (fun k hk e => ?_)
    · have := Kd.R_base h.row k e.symm; omega
    · injection e with e; omega
  · have h1 := h.bel.grown hg h.bel.size (fun k hk => Nat.le_trans h.le (Kd.R_base h.row k hk))
    exact h1.grown hs h1.size (fun k hk => by injection hk with hk; have := h.le; omega)
end
set_option maxRecDepth 100000 in
set_option maxHeartbeats 8000000 in
theorem of_calls (A : Option Addr) (c : Nat) (L : List S40) (w : World) (hC : Kd.C k40 w A L.length L) (hl : L.length < 1000000000) (hls : ∀ z ∈ L, z.f2.length < 1000000000) :
    Calls Tryd.prog 11 #[.slice A L.length c] w fun e w' => ∃ A' c', e = .returned (.slice A' L.length c') ∧ L.length ≤ c' ∧ Kd.C k73 w' A' L.length (L.map cC) ∧ Below w.heap.size w w' := by
  have infoC : (Tryd.prog.info? 73).map (fun i => (i.zero, i.size, i.bytes)) = some (some (.agg #[.int .i64 0, .slice none 0 0, .slice none 0 0]), 3, 56) := by kernel_rfl
  have infoT : (Tryd.prog.info? 77).map (fun i => (i.zero, i.size, i.bytes)) = some (some (.agg #[.int .i64 0, .string ⟨#[]⟩]), 2, 24) := by kernel_rfl
  have HC := Aside0.mk hC
  have HLS := Aside0.mk hls
  clear hC hls
  go_enter Tryd.func11, Tryd.ntmps11
  go_wp2
  go_loopg [3, 11] L.length (fun g v3 v11 wr => ∃ (wo : World) (i : Nat) (gs : List RCg), wo = wr ∧ i ≤ L.length ∧ L.length - i ≤ g ∧ v11 = .int .i64 (i : Int) ∧ Aside0 (Kd.R kRC 73 wr w.heap.size (fun _ => True) v3 gs) ∧ Aside0 (Below w.heap.size w wr) ∧ Aside0 (allC w (L.take i) gs))
  case atStart => exact ⟨_, 0, [], rfl, Nat.zero_le _, by omega, rfl, ⟨Kd.R_nil _ _ _ _ _⟩, ⟨Below.refl _ _⟩, ⟨⟨rfl, by simp⟩⟩⟩
  case round =>
    obtain ⟨wo, i, gs, rfl, hi, hg, rfl, HO, HB, HA⟩ := hrel
    obtain ⟨Ao, co, eo⟩ := Kd.R_slice HO.out
    have hgl : gs.length = i := by have := HA.out.1; rw [this]; simp; omega
    rw [hgl] at eo
    subst eo
    by_cases hlt : i < L.length
    · obtain ⟨b, o, rfl, hb, hcc⟩ := cmdRow HC.out (by omega)
      obtain ⟨A1, c1, A2, c2, d0, d1, d2, l1, g1, l2, g2⟩ := hcc i hlt
      obtain ⟨x, hx⟩ : ∃ x, L[i] = x := ⟨_, rfl⟩
      rw [hx] at d0 d1 d2 l1 g1 l2 g2
      have HX := Aside0.mk hx
      have d0 := (HB.out.cell (World.block_lt_of_cell? w _ d0)).trans d0
      have d1 := (HB.out.cell (World.block_lt_of_cell? w _ d1)).trans d1
      have d2 := (HB.out.cell (World.block_lt_of_cell? w _ d2)).trans d2
      have HG1 := Aside0.mk (And.intro l1 g1)
      have HG2 := Aside0.mk g2
      have HXL := Aside0.mk (show x.f2.length < 1000000000 from HLS.out x (by rw [← hx]; exact List.getElem_mem _))
      clear hcc hx l1 g1 l2 g2
      obtain ⟨go, hgo⟩ : ∃ x, gk = x := ⟨_, rfl⟩
      have b5 := blk_new wo (.cells #[.int .i64 x.f0, .slice A1 x.f1.length c1, .slice A2 x.f2.length c2] 40 (0, 0))
      have f0 : (wo.alloc (.cells #[.int .i64 x.f0, .slice A1 x.f1.length c1, .slice A2 x.f2.length c2] 40)).cell? ⟨wo.heap.size, 0, none⟩ = some (.int .i64 x.f0) := blk_cell b5 0
      have f1 : (wo.alloc (.cells #[.int .i64 x.f0, .slice A1 x.f1.length c1, .slice A2 x.f2.length c2] 40)).cell? ⟨wo.heap.size, 1, none⟩ = some (.slice A1 x.f1.length c1) := blk_cell b5 1
      have f2 : ((wo.alloc (.cells #[.int .i64 x.f0, .slice A1 x.f1.length c1, .slice A2 x.f2.length c2] 40)).alloc (.cells #[.int .i64 x.f0, .slice A1 x.f1.length c1, .slice none 0 0] 73)).cell? ⟨wo.heap.size, 2, none⟩ = some (.slice A2 x.f2.length c2) := blk_cell (blk_alloc b5 _) 2
      have b6 := blk_new (wo.alloc (.cells #[.int .i64 x.f0, .slice A1 x.f1.length c1, .slice A2 x.f2.length c2] 40)) (.cells #[.int .i64 x.f0, .slice A1 x.f1.length c1, .slice none 0 0] 73 (0, 0))
      rw [show (wo.alloc (.cells #[.int .i64 x.f0, .slice A1 x.f1.length c1, .slice A2 x.f2.length c2] 40)).heap.size = wo.heap.size + 1 by simp] at b6
      have hw6 : Below wo.heap.size wo ((wo.alloc (.cells #[.int .i64 x.f0, .slice A1 x.f1.length c1, .slice A2 x.f2.length c2] 40)).alloc (.cells #[.int .i64 x.f0, .slice A1 x.f1.length c1, .slice none 0 0] 73)) := below_alloc (below_alloc (Below.refl _ _) _) _
      have HJ0 := Aside0.mk (show OI w wo.heap.size x.f0 A1 x.f1.length c1 (.slice Ao i co) gs (.slice none 0 0) [] ((wo.alloc (.cells #[.int .i64 x.f0, .slice A1 x.f1.length c1, .slice A2 x.f2.length c2] 40)).alloc (.cells #[.int .i64 x.f0, .slice A1 x.f1.length c1, .slice none 0 0] 73)) from
        ⟨b6, Kd.R_nil _ _ _ _ _, Kd.R_below (Kd.R_mono (Kd.R_bound HO.out) (ok' := fun k => k < wo.heap.size) (fun k hk => hk.2.2.1)) hw6, below_step HB.out hw6, HB.out.size⟩)
      clear b5 b6 hw6 HO
      go_wp2
      go_loopg [23] x.f2.length (fun g v23 wi => ∃ (k : Nat) (ts : List S77) (vt : Value), k ≤ x.f2.length ∧ x.f2.length - k ≤ g ∧ v23 = .int .i64 (k : Int) ∧ Aside0 (OI w wo.heap.size x.f0 A1 x.f1.length c1 (.slice Ao i co) gs vt ts wi) ∧ Aside0 (ts = (x.f2.take k).map cT))
      case atStart => exact ⟨0, [], _, Nat.zero_le _, by omega, rfl, HJ0, ⟨by simp⟩⟩
      case round =>
        obtain ⟨k, ts, vt, hk, hgi, rfl, HJ, HT⟩ := hrel
        obtain ⟨At, ct, et⟩ := Kd.R_slice HJ.out.row
        have htl : ts.length = k := by rw [HT.out]; simp; omega
        rw [htl] at et
        subst et
        by_cases hlk : k < x.f2.length
        · obtain ⟨b2, o2, rfl, hb2, hcc2⟩ := toRow (Kd.C_below HG2.out HJ.out.bel) (by omega)
          obtain ⟨q0, q1⟩ := hcc2 k hlk
          obtain ⟨z, hz⟩ : ∃ z, x.f2[k] = z := ⟨_, rfl⟩
          rw [hz] at q0 q1
          have HZ := Aside0.mk hz
          have HJ8 := Aside0.mk (HJ.out.new (below_alloc (Below.refl _ _) (.cells #[.int .i64 z.f0, .string z.f1] 42)))
          have b8 := blk_new wr (.cells #[.int .i64 z.f0, .string z.f1] 42 (0, 0))
          have p0 := blk_cell b8 0
          have p1 := blk_cell b8 1
          have p2 : (wr.alloc (.cells #[.int .i64 z.f0, .string z.f1] 42)).cell? ⟨wo.heap.size + 1, 2, none⟩ = some (.slice At k ct) := blk_cell HJ8.out.box 2
          have htl' : ts.length < 1000000000 := by have := HXL.out; omega
          clear hcc2 hz b8
          go_wp2_with ((with_reducible refine gate_builtin (b := .append) (xs := #[.tmp 28, .tmp 34]) rfl ?_); at_builtin; refine Kd.R_append k77 (w0 := wr.alloc (.cells #[.int .i64 z.f0, .string z.f1] 42)) wo.heap.size rfl (.tmp 28) (.tmp 34) 71 77 (.agg #[.int .i64 0, .string ⟨#[]⟩]) 24 rfl Tryd.underlying71 infoT rfl (by decide) (by omega) (.slice At k ct) ts (⟨z.f0, z.f1⟩ : S77) [.int .i64 z.f0, .string z.f1] (fun _ => True) (fun _ => False) rfl (by first | (go_simp; done) | (go_simp; rfl)) (k77_mkM _ _ _ _) (fun _ hk => hk.elim) (fun _ _ => trivial) HJ8.out.row (Below.refl _ _) (by have := HJ8.out.lt; omega) (by have := HXL.out; rw [htl]; omega) ?_; intro v1 w5 ho hb hg5 hat; obtain ⟨Av, nv, cv, ev⟩ := R_is ho; subst ev; have J5 := Aside0.mk (HJ8.out.app hg5 ho); have hbx := blk_grown_ty HJ8.out.box hg5 (R_row_ty HJ8.out.row) (by decide); have s1 := blk_cell hbx 2; have s2 := blk_frozen hbx 2; clear ho hb hg5 hat hbx)
          go_roundg (gk - 1)
          case measure => omega
          case rel => exact ⟨k + 1, ts ++ [⟨z.f0, z.f1⟩], _, by omega, by omega, by go_num, J5, ⟨by rw [List.take_succ_eq_append_getElem hlk, List.map_append, ← HT.out, HZ.out]; rfl⟩⟩
        · have hk' : k = x.f2.length := by omega
          subst hk'
          have HTT := Aside0.mk (show ts = x.f2.map cT by rw [HT.out, List.take_length])
          have e0 := blk_cell HJ.out.box 0
          have e1 := blk_cell HJ.out.box 1
          have e2 := blk_cell HJ.out.box 2
          have HPM := Aside0.mk (kRC_mkM wr w.heap.size (fun k => wo.heap.size ≤ k) x.f0 A1 x.f1.length c1 ts (Kd.R_lower (Kd.R_mono (Kd.R_bound HJ.out.row) (fun k hk => hk.2.1)) HJ.out.le))
          have HOO := Aside0.mk (Kd.R_mono HJ.out.out (ok' := fun _ => True) (fun _ _ => trivial))
          go_wp2_with ((with_reducible refine gate_builtin (b := .append) (xs := #[.tmp 38, .tmp 40]) rfl ?_); at_builtin; refine Kd.R_append kRC (w0 := wr) (W := wr) w.heap.size rfl (.tmp 38) (.tmp 40) 27 73 (.agg #[.int .i64 0, .slice none 0 0, .slice none 0 0]) 56 rfl Tryd.underlying27 infoC rfl (by decide) (by omega) (.slice Ao i co) gs (x.f0, (A1, x.f1.length, c1), ts) [.int .i64 x.f0, .slice A1 x.f1.length c1, .slice At x.f2.length ct] (fun _ => True) (fun k => wo.heap.size ≤ k) rfl rfl HPM.out (fun k hk => ⟨trivial, fun e => Nat.not_le_of_lt (HJ.out.out.1 k e.symm) hk⟩) (fun _ _ => trivial) HOO.out (Below.refl _ _) HJ.out.bel.size (by rw [hgl]; omega) ?_; intro v1 w5 ho hb hg5 hat; have HO5 := Aside0.mk ho; have HB5 := Aside0.mk (HJ.out.bel.grown hg5 HJ.out.bel.size (Kd.R_base HOO.out)); clear ho hb hg5 hat)
          go_roundg (go - 1)
          case measure => omega
          case rel => exact ⟨_, i + 1, gs ++ [(x.f0, (A1, x.f1.length, c1), ts)], rfl, by omega, by omega, by go_num, HO5, HB5, ⟨by rw [List.take_succ_eq_append_getElem hlt, HX.out]; exact allC_snoc HA.out ⟨rfl, rfl, HG1.out.1, HG1.out.2, HTT.out⟩⟩⟩
    · have hi' : i = L.length := by omega
      subst hi'
      go_wp2
      go_ret
      obtain ⟨q1, q2, q3⟩ := Kd.R_reads' HO.out
      have q3 := C_conv q3 (by have := HA.out; rw [List.take_length] at this; exact this) HB.out
      rw [hgl] at q3
      exact ⟨_, _, rfl, q2, q3, HB.out⟩
end Go.Proofs.YtogbdjboblfokaaDoor.X
/- The reference's has, mark; plain Lean. -/
namespace Go.Proofs.YtogbdjboblfokaaDoor.X
open Go.RowKit Go.Proofs.YtogbdjboblfokaaDoorW.PrintWords Go.Proofs.YtogbdjboblfokaaDoorW.PrintLast Go.Proofs.YtogbdjboblfokaaDoorW.PrintMore Go.Proofs.YtogbdjboblfokaaDoor.XW05
open Go.Proofs.YtogbdjboblfokaaDoor.XT06
set_option linter.unusedSimpArgs false
set_option linter.unusedVariables false

theorem has_loop (S : List UInt8) (b : UInt8) (hS : S.length < 1000) : ∀ i, i ≤ S.length → Ev (fun k => flatironref05_has.l0 k (B S) (b.toNat : Int) (i : Int)) ((S.drop i).contains b) := by
  refine upto_ind ?_ ?_
  · refine Ev.step (fun k => by rw [flatironref05_has.l0]) ?_
    refine Ev.neg (by rw [B_size]; omega) ?_
    rw [List.drop_length]
    exact Ev.ret _
  · intro i hi ih
    rw [← wrap_succ i (by omega)] at ih
    refine Ev.step (fun k => by rw [flatironref05_has.l0]) ?_
    refine Ev.pos (by rw [B_size]; omega) ?_
    refine Ev.pos (by omega) ?_
    rw [drop_get S i hi, List.contains_cons]
    refine Ev.iff (show (bt (B S) (i : Int) = (b.toNat : Int)) = (S[i] = b) by rw [bt_B S i hi]; exact u8_toNat_eq _ _) ?_ ?_
    · intro h
      refine Ev.eq (Ev.ret _) ?_
      rw [h]; simp
    · intro h
      refine Ev.eq ih ?_
      rw [show (b == S[i]) = false by rw [beq_eq_false_iff_ne]; exact fun e => h e.symm, Bool.false_or]
theorem has_ev (b : UInt8) : Ev (fun k => flatironref05_has.f k (⟨#[32, 9, 10, 59, 38, 124, 60, 62]⟩ : ByteArray) (b.toNat : Int)) (stopB b) := by
  refine Ev.congr (fun k => by rw [flatironref05_has.f]) ?_
  exact has_loop [32, 9, 10, 59, 38, 124, 60, 62] b (by decide) 0 (by decide)
def marksR : List (List UInt8) := [[59], [38, 38], [124, 124], [62], [62, 62], [60]]
end Go.Proofs.YtogbdjboblfokaaDoor.X
/- The reference's reader; plain Lean. -/
namespace Go.Proofs.YtogbdjboblfokaaDoor.X
open Go.RowKit Go.Proofs.YtogbdjboblfokaaDoorW.PrintWords Go.Proofs.YtogbdjboblfokaaDoorW.PrintLast Go.Proofs.YtogbdjboblfokaaDoorW.PrintMore Go.Proofs.YtogbdjboblfokaaDoor.XW05
open Go.Proofs.YtogbdjboblfokaaDoor.XT06
set_option linter.unusedSimpArgs false
set_option linter.unusedVariables false

def s78 (x : Nat × List UInt8) : S75 := ⟨(x.1 : Int), B x.2⟩
end Go.Proofs.YtogbdjboblfokaaDoor.X
/- The reference's Line and Right; parse.Right: what they say, over commands. Plain Lean. -/
namespace Go.Proofs.YtogbdjboblfokaaDoor.X
open Go.RowKit Go.Proofs.YtogbdjboblfokaaDoorW.PrintWords Go.Proofs.YtogbdjboblfokaaDoorW.PrintLast Go.Proofs.YtogbdjboblfokaaDoorW.PrintMore Go.Proofs.YtogbdjboblfokaaDoor.XW05 Go.Proofs.YtogbdjboblfokaaDoor.XT06
set_option linter.unusedSimpArgs false
set_option linter.unusedVariables false

def rC (c : Cmd) : S73 := cC (toS c)
def rT (t : Int × List UInt8) : S77 := ⟨t.1, B t.2⟩
theorem rC_eq (c : Cmd) : rC c = ⟨c.on, c.words.map B, c.tos.map rT⟩ := by
  unfold rC cC toS
  simp only [List.map_map]
  rfl
theorem rd75 (T : List Tok) (i : Nat) (h : i < T.length) : rd_T75 (T.map s78) (i : Int) = s78 T[i] := by
  unfold rd_T75
  rw [show ((i : Int)).toNat = i from rfl, List.getD_eq_getElem?_getD, List.getElem?_map, List.getElem?_eq_getElem h]
  rfl
end Go.Proofs.YtogbdjboblfokaaDoor.X
/- Laid for this claim by the session's own program xprint.py, over the print of the kit: functions of the program as plain Lean functions, each with a proof that a call comes to what its function says, or the row of a law out of these; no condition of its own. -/
namespace Go.Proofs.YtogbdjboblfokaaDoor.XW06
open Go.Proofs.YtogbdjboblfokaaDoor.X Go.Proofs.YtogbdjboblfokaaDoor.XT06 Go.Proofs.YtogbdjboblfokaaDoor.XW05 Go.RowKit Go.Proofs.YtogbdjboblfokaaDoorW.PrintWords Go.Proofs.YtogbdjboblfokaaDoorW.PrintLast Go.Proofs.YtogbdjboblfokaaDoorW.PrintMore
attribute [local go_sem] cell4_1 cell4_1d max2_int min2_int max_two min_two max_three min_three max_four min_four   -- for this text's walks alone
set_option linter.unusedVariables false
set_option linter.unusedSimpArgs false



def errW : Option Int → Value
  | none => .nilIface
  | some c => .iface 0 (.int .i64 c)
theorem errW_none : errW none = .nilIface := rfl
theorem errW_some (c : Int) : errW (some c) = .iface 0 (.int .i64 c) := rfl

theorem info66 : (Tryd.prog.info? 66).map (fun i => (i.zero, i.size, i.bytes)) = some (some (.agg #[(.int .i64 0), (.string ⟨#[]⟩)]), 2, 24) := by kernel_rfl
-- the values' own types
def rd_L2 (xs : List (List ByteArray)) (i : Int) : (List ByteArray) := xs.getD i.toNat ([] : List ByteArray)
theorem at_L2 {w : World} {A : Option Addr} {n : Nat} {xs : List (List ByteArray)} (h : Kd.C (Kd.slice 9 Kd.string) w A n xs) (i : Int) (h0 : 0 ≤ i) (h1 : i < n) : ∃ ad A0 c0, A = some ad ∧ w.cell? (ad.add i.toNat) = some (.slice A0 (rd_L2 xs i).length c0) ∧ (rd_L2 xs i).length ≤ c0 ∧ Kd.string.C w A0 (rd_L2 xs i).length (rd_L2 xs i) := by
  obtain ⟨ad, c, e, _, hK, hc0⟩ := Kd.C_get h ([] : List ByteArray) i h0 h1
  have hc : ∀ j u, c[j]? = some u → w.cell? (ad.add (i.toNat * 1 + j)) = some u := hc0
  obtain ⟨A0, c0, rfl, l0, g0⟩ := hK
  exact ⟨ad, A0, c0, e, by have hq := hc 0 _ rfl; rwa [Nat.mul_one, Nat.add_zero] at hq, l0, g0⟩

end Go.Proofs.YtogbdjboblfokaaDoor.XW06
/- Laid for this claim by the session's own program xprint.py, over the print of the kit: functions of the program as plain Lean functions, each with a proof that a call comes to what its function says, or the row of a law out of these; no condition of its own. -/
namespace Go.Proofs.YtogbdjboblfokaaDoor.XW06
open Go.Proofs.YtogbdjboblfokaaDoor.X Go.Proofs.YtogbdjboblfokaaDoor.XT06 Go.Proofs.YtogbdjboblfokaaDoor.XW05 Go.RowKit Go.Proofs.YtogbdjboblfokaaDoorW.PrintWords Go.Proofs.YtogbdjboblfokaaDoorW.PrintLast Go.Proofs.YtogbdjboblfokaaDoorW.PrintMore
attribute [local go_sem] cell4_1 cell4_1d max2_int min2_int max_two min_two max_three min_three max_four min_four   -- for this text's walks alone
set_option linter.unusedVariables false
set_option linter.unusedSimpArgs false

theorem eqA42 (d : Nat) (w : World) (x0 y0 : Int) (x1 y1 : ByteArray) :
    (Op.equalIn (d + 2) 42 (.agg #[.int .i64 x0, .string x1]) (.agg #[.int .i64 y0, .string y1])).run Tryd.prog w = .ok (x0 == y0 && (x1.toList == y1.toList)) w := by
  refine eqA_of Tryd.underlying42 (by kernel_rfl) ?_
  refine eqf_cons (by rfl) (by go_simp; rfl) (by go_simp; rfl) (by go_simp) ?_
  exact eqf_last (by rfl) (by go_simp; rfl) (by go_simp; rfl) (by go_simp)
end Go.Proofs.YtogbdjboblfokaaDoor.XW06
/- Laid for this claim by the session's own program xprint.py, over the print of the kit: functions of the program as plain Lean functions, each with a proof that a call comes to what its function says, or the row of a law out of these; no condition of its own. -/
namespace Go.Proofs.YtogbdjboblfokaaDoor.XW06
open Go.Proofs.YtogbdjboblfokaaDoor.X Go.Proofs.YtogbdjboblfokaaDoor.XT06 Go.Proofs.YtogbdjboblfokaaDoor.XW05 Go.RowKit Go.Proofs.YtogbdjboblfokaaDoorW.PrintWords Go.Proofs.YtogbdjboblfokaaDoorW.PrintLast Go.Proofs.YtogbdjboblfokaaDoorW.PrintMore
attribute [local go_sem] cell4_1 cell4_1d max2_int min2_int max_two min_two max_three min_three max_four min_four   -- for this text's walks alone
set_option linter.unusedVariables false
set_option linter.unusedSimpArgs false

attribute [local go_sem high] eqA42
/-! ### parse_Show: function 9 -/
mutual
def parse_Show.l0 : Nat → List (S66) → List (S40) → Int → Int → Option (ByteArray × Int)
  | 0, _, _, _, _ => none
  | k + 1, x4, x14, x15, x16 => if x16 < x15 then (if 0 ≤ x16 then (if x16 < (x14.length : Int) then (if x16 > 0 then (if x4.length < 5864062014805 then (parse_Show.j1 k (x4 ++ [(⟨(rd_T40 x14 x16).f0, (⟨#[]⟩ : ByteArray)⟩ : S66)]) x14 x15 x16 ((rd_T40 x14 x16).f0) ((rd_T40 x14 x16).f1) ((rd_T40 x14 x16).f2)) else (none)) else (parse_Show.j1 k x4 x14 x15 x16 ((rd_T40 x14 x16).f0) ((rd_T40 x14 x16).f1) ((rd_T40 x14 x16).f2))) else (none)) else (none)) else ((lex_Show.f k x4).bind fun t102 => (some (t102, 0)))
def parse_Show.j1 : Nat → List (S66) → List (S40) → Int → Int → Int → List ByteArray → List (S42) → Option (ByteArray × Int)
  | 0, _, _, _, _, _, _, _ => none
  | k + 1, x4, x14, x15, x16, x105000, x105001, x105002 => parse_Show.l1 k x4 x14 x15 x16 x105001 (x105001.length : Int) 0 x105000 x105001 x105002
def parse_Show.l1 : Nat → List (S66) → List (S40) → Int → Int → List ByteArray → Int → Int → Int → List ByteArray → List (S42) → Option (ByteArray × Int)
  | 0, _, _, _, _, _, _, _, _, _, _ => none
  | k + 1, x4, x14, x15, x16, x30, x31, x32, x105000, x105001, x105002 => if x32 < x31 then (if 0 ≤ x32 then (if x32 < (x30.length : Int) then (if x4.length < 5864062014805 then (parse_Show.l1 k (x4 ++ [(⟨0, rdOf ByteArray.empty x30 x32⟩ : S66)]) x14 x15 x16 x30 x31 (wrap64 (x32 + 1)) x105000 x105001 x105002) else (none)) else (none)) else (none)) else (parse_Show.l2 k x4 x14 x15 x16 x105002 (x105002.length : Int) 0)
def parse_Show.l2 : Nat → List (S66) → List (S40) → Int → Int → List (S42) → Int → Int → Option (ByteArray × Int)
  | 0, _, _, _, _, _, _, _ => none
  | k + 1, x4, x14, x15, x16, x43, x44, x45 => if x45 < x44 then (if 0 ≤ x45 then (if x45 < (x43.length : Int) then ((some (([(⟨(rd_T42 x43 x45).f0, (⟨#[]⟩ : ByteArray)⟩ : S66), (⟨0, (rd_T42 x43 x45).f1⟩ : S66)] : List (S66)) : List (S66))).bind fun y114 => (if x4.length + y114.length < 5864062014805 then (parse_Show.l2 k (x4 ++ y114) x14 x15 x16 x43 x44 (wrap64 (x45 + 1))) else (none))) else (none)) else (none)) else (parse_Show.l0 k x4 x14 x15 (wrap64 (x16 + 1)))
end
def parse_Show.f (k : Nat) (l0 : List (S40)) : Option (ByteArray × Int) := (parse_Right.f l0).bind fun t101 => (if t101 = true then (parse_Show.l0 k ([] : List (S66)) l0 (l0.length : Int) 0) else (some ((⟨#[]⟩ : ByteArray), 1)))
theorem parse_Show.mono_l : ∀ k, (∀ y0 y1 y2 y3, LeO (parse_Show.l0 k y0 y1 y2 y3) (parse_Show.l0 (k + 1) y0 y1 y2 y3)) ∧ (∀ y0 y1 y2 y3 y4 y5 y6, LeO (parse_Show.j1 k y0 y1 y2 y3 y4 y5 y6) (parse_Show.j1 (k + 1) y0 y1 y2 y3 y4 y5 y6)) ∧ (∀ y0 y1 y2 y3 y4 y5 y6 y7 y8 y9, LeO (parse_Show.l1 k y0 y1 y2 y3 y4 y5 y6 y7 y8 y9) (parse_Show.l1 (k + 1) y0 y1 y2 y3 y4 y5 y6 y7 y8 y9)) ∧ (∀ y0 y1 y2 y3 y4 y5 y6, LeO (parse_Show.l2 k y0 y1 y2 y3 y4 y5 y6) (parse_Show.l2 (k + 1) y0 y1 y2 y3 y4 y5 y6))
  | 0 => ⟨fun _ _ _ _ r h => by simp [parse_Show.l0] at h, fun _ _ _ _ _ _ _ r h => by simp [parse_Show.j1] at h, fun _ _ _ _ _ _ _ _ _ _ r h => by simp [parse_Show.l1] at h, fun _ _ _ _ _ _ _ r h => by simp [parse_Show.l2] at h⟩
  | k + 1 => by
    obtain ⟨ih0, ih1, ih2, ih3⟩ := parse_Show.mono_l k
    refine ⟨?_, ?_, ?_, ?_⟩
    · intro y0 y1 y2 y3
      unfold parse_Show.l0
      repeat' first
      | (with_reducible exact ih0 _ _ _ _)
      | (with_reducible exact ih1 _ _ _ _ _ _ _)
      | (with_reducible exact ih2 _ _ _ _ _ _ _ _ _ _)
      | (with_reducible exact ih3 _ _ _ _ _ _ _)
      | (with_reducible exact lex_Show.mono _ _)
      | (with_reducible exact LeO.refl _)
      | (with_reducible exact LeO.none _)
      | (with_reducible refine LeO.ite ?_ ?_)
      | (with_reducible refine LeO.bind ?_ (fun _ => ?_))
      | exact ih0 _ _ _ _
      | exact ih1 _ _ _ _ _ _ _
      | exact ih2 _ _ _ _ _ _ _ _ _ _
      | exact ih3 _ _ _ _ _ _ _
      | exact lex_Show.mono _ _
      | exact LeO.none _
      | refine LeO.ite ?_ ?_
      | refine LeO.bind ?_ (fun _ => ?_)
    · intro y0 y1 y2 y3 y4 y5 y6
      unfold parse_Show.j1
      repeat' first
      | (with_reducible exact ih0 _ _ _ _)
      | (with_reducible exact ih1 _ _ _ _ _ _ _)
      | (with_reducible exact ih2 _ _ _ _ _ _ _ _ _ _)
      | (with_reducible exact ih3 _ _ _ _ _ _ _)
      | (with_reducible exact lex_Show.mono _ _)
      | (with_reducible exact LeO.refl _)
      | (with_reducible exact LeO.none _)
      | (with_reducible refine LeO.ite ?_ ?_)
      | (with_reducible refine LeO.bind ?_ (fun _ => ?_))
      | exact ih0 _ _ _ _
      | exact ih1 _ _ _ _ _ _ _
      | exact ih2 _ _ _ _ _ _ _ _ _ _
      | exact ih3 _ _ _ _ _ _ _
      | exact lex_Show.mono _ _
      | exact LeO.none _
      | refine LeO.ite ?_ ?_
      | refine LeO.bind ?_ (fun _ => ?_)
    · intro y0 y1 y2 y3 y4 y5 y6 y7 y8 y9
      unfold parse_Show.l1
      repeat' first
      | (with_reducible exact ih0 _ _ _ _)
      | (with_reducible exact ih1 _ _ _ _ _ _ _)
      | (with_reducible exact ih2 _ _ _ _ _ _ _ _ _ _)
      | (with_reducible exact ih3 _ _ _ _ _ _ _)
      | (with_reducible exact lex_Show.mono _ _)
      | (with_reducible exact LeO.refl _)
      | (with_reducible exact LeO.none _)
      | (with_reducible refine LeO.ite ?_ ?_)
      | (with_reducible refine LeO.bind ?_ (fun _ => ?_))
      | exact ih0 _ _ _ _
      | exact ih1 _ _ _ _ _ _ _
      | exact ih2 _ _ _ _ _ _ _ _ _ _
      | exact ih3 _ _ _ _ _ _ _
      | exact lex_Show.mono _ _
      | exact LeO.none _
      | refine LeO.ite ?_ ?_
      | refine LeO.bind ?_ (fun _ => ?_)
    · intro y0 y1 y2 y3 y4 y5 y6
      unfold parse_Show.l2
      repeat' first
      | (with_reducible exact ih0 _ _ _ _)
      | (with_reducible exact ih1 _ _ _ _ _ _ _)
      | (with_reducible exact ih2 _ _ _ _ _ _ _ _ _ _)
      | (with_reducible exact ih3 _ _ _ _ _ _ _)
      | (with_reducible exact lex_Show.mono _ _)
      | (with_reducible exact LeO.refl _)
      | (with_reducible exact LeO.none _)
      | (with_reducible refine LeO.ite ?_ ?_)
      | (with_reducible refine LeO.bind ?_ (fun _ => ?_))
      | exact ih0 _ _ _ _
      | exact ih1 _ _ _ _ _ _ _
      | exact ih2 _ _ _ _ _ _ _ _ _ _
      | exact ih3 _ _ _ _ _ _ _
      | exact lex_Show.mono _ _
      | exact LeO.none _
      | refine LeO.ite ?_ ?_
      | refine LeO.bind ?_ (fun _ => ?_)
theorem parse_Show.mono : ∀ a0 k, LeO (parse_Show.f k a0) (parse_Show.f (k + 1) a0) := by
  intro a0 k
  obtain ⟨ih0, ih1, ih2, ih3⟩ := parse_Show.mono_l k
  unfold parse_Show.f
  repeat' first
      | (with_reducible exact ih0 _ _ _ _)
      | (with_reducible exact ih1 _ _ _ _ _ _ _)
      | (with_reducible exact ih2 _ _ _ _ _ _ _ _ _ _)
      | (with_reducible exact ih3 _ _ _ _ _ _ _)
      | (with_reducible exact lex_Show.mono _ _)
      | (with_reducible exact LeO.refl _)
      | (with_reducible exact LeO.none _)
      | (with_reducible refine LeO.ite ?_ ?_)
      | (with_reducible refine LeO.bind ?_ (fun _ => ?_))
      | exact ih0 _ _ _ _
      | exact ih1 _ _ _ _ _ _ _
      | exact ih2 _ _ _ _ _ _ _ _ _ _
      | exact ih3 _ _ _ _ _ _ _
      | exact lex_Show.mono _ _
      | exact LeO.none _
      | refine LeO.ite ?_ ?_
      | refine LeO.bind ?_ (fun _ => ?_)
set_option maxHeartbeats 8000000 in
set_option maxRecDepth 100000 in
theorem parse_Show.calls (k : Nat) (A0 : Option Addr) (c0 : Nat) (l0 : List (S40)) (r1 : ByteArray) (r2 : Int) (w : World) (hSH : Shp w) (hr0 : Kd.C k40 w A0 l0.length l0) (hc0 : l0.length ≤ c0) (h : parse_Show.f k l0 = some (r1, r2)) :
    Calls Tryd.prog 9 #[.slice A0 l0.length c0] w fun e w' => e = .returned (.tuple #[.string r1, .int .i64 r2]) ∧ Below w.heap.size w w' := by
  have hu40 := Tryd.underlying40
  have hu66 := Tryd.underlying66
  have hu42 := Tryd.underlying42
  have HSH := Aside0.mk hSH
  clear hSH
  have HR0 := Aside0.mk hr0
  have HC0 := Aside0.mk hc0
  clear hr0 hc0
  have HB := Aside0.mk (Below.refl w.heap.size w)
  have H : ((parse_Right.f l0).bind fun t101 => (if t101 = true then (parse_Show.l0 k ([] : List (S66)) l0 (l0.length : Int) 0) else (some ((⟨#[]⟩ : ByteArray), 1)))) = some (r1, r2) := h
  clear h
  replace H := Option.bind_eq_some_iff.mp H
  obtain ⟨t101, A20, H⟩ := H
  replace H : (if t101 = true then (parse_Show.l0 k ([] : List (S66)) l0 (l0.length : Int) 0) else (some ((⟨#[]⟩ : ByteArray), 1))) = some (r1, r2) := H
  have A2 := Aside0.mk A20
  clear A20
  by_cases c3 : t101 = true
  · subst c3
    have H1 : (parse_Show.l0 k ([] : List (S66)) l0 (l0.length : Int) 0) = some (r1, r2) := by rw [if_pos rfl] at H; exact H
    clear H
    have H := H1
    clear H1
    have H' := Aside0.mk H
    clear H
    go_enter Tryd.func9, Tryd.ntmps9
    go_wp2_with (first | ((with_reducible refine gate_callee (f := 12) rfl ?_); refine goesL_ (some 12) rfl rfl Tryd.func12 (by kernel_rfl) rfl #[.slice A0 l0.length c0] rfl (by (try simp only [List.map_toArray, List.map_cons, List.map_nil]); first | done | rfl | (simp only [List.length_drop, List.length_take]; rfl)) ?_; (with_reducible refine (parse_Right.calls _ _ l0 true _ ?side1 ?side2 A2.out).mono ?_); (case side1 => repeat (first | exact HR0.out | (with_reducible refine Kd.C_alloc ?_ _) | (with_reducible refine Kd.C_drewN ?_ _) | (with_reducible refine Kd.C_drew ?_))); (case side2 => exact HC0.out); rintro e w4 ⟨rfl, hb⟩; refine ⟨_, rfl, ?_⟩; have n0_ := Aside0.mk (below_step (by repeat (first | (with_reducible first | exact HB.out | apply below_alloc | apply pw_below_drewN | apply below_drew1) | exact HB.out)) hb); clear HB; have HB := n0_; clear n0_; (try clear hb); (try clear hb2); (try clear hk); (try clear hi)))
    go_loopg [4, 16] k (fun kq v4 v16 w' => ∃ (x4_1 : List (S66)) (x16_1 : Int), v16 = .int .i64 x16_1 ∧ Aside0 (parse_Show.l0 kq x4_1 l0 (l0.length : Int) x16_1 = some (r1, r2)) ∧ Aside0 (kq ≤ k) ∧ Aside0 (Kd.R k66 66 w' w.heap.size (fun _ => True) v4 x4_1) ∧ Aside0 (Below w.heap.size w w'))
    case atStart => exact ⟨(([] : List (S66))), (0), (by first | rfl | (simp; done) | (simp [*]; done)), H', ⟨Nat.le_refl _⟩, ⟨by first | exact Kd.R_nil _ _ _ _ _ | exact Kd.N_nil _ _ _ _ _ | exact Kd.V_nil _ _ _ _ _ | exact Kd.Q_nil _ _ _ _ _ | exact Kd.S_nil _ _ _ _ _⟩, ⟨by repeat (first | (with_reducible first | exact HB.out | apply below_alloc | apply pw_below_drewN | apply below_drew1) | exact HB.out)⟩⟩
    case round =>
      clear H'
      try clear c1
      try clear p2
      try clear c3
      obtain ⟨x4_1, x16_1, rfl, HA, HK1, HO_4, HB⟩ := hrel
      cases gk with
      | zero => exact absurd HA.out (by simp [parse_Show.l0])
      | succ k1 =>
        have H := HA.out
        clear HA
        simp only [parse_Show.l0] at H
        by_cases c5 : x16_1 < (l0.length : Int)
        · rw [if_pos c5] at H
          have c5b0 : decide (x16_1 < (l0.length : Int)) = true := decide_eq_true c5
          clear c5
          by_cases c6 : 0 ≤ x16_1
          · rw [if_pos c6] at H
            have c6b0 : decide (0 ≤ x16_1) = true := decide_eq_true c6
            clear c6
            by_cases c7 : x16_1 < (l0.length : Int)
            · rw [if_pos c7] at H
              have c7b0 : decide (x16_1 < (l0.length : Int)) = true := decide_eq_true c7
              clear c7
              have HC8 := Aside0.mk H
              clear H
              have p103 : 0 ≤ (x16_1 : Int) := of_decide_eq_true (by first | (with_reducible assumption) | assumption)
              have q103 : x16_1 < (l0.length : Int) := of_decide_eq_true (by first | (with_reducible assumption) | assumption)
              obtain ⟨ad103, A103_1, c103_1, A103_2, c103_2, e103, hx103_0, hx103_1, hx103_2, hl103_1, hi103_1, hl103_2, hi103_2⟩ := at_T40 HR0.out x16_1 p103 q103
              cases e103
              replace hx103_0 := (HB.out.cell (World.block_lt_of_cell? w _ hx103_0)).trans hx103_0
              replace hx103_1 := (HB.out.cell (World.block_lt_of_cell? w _ hx103_1)).trans hx103_1
              replace hx103_2 := (HB.out.cell (World.block_lt_of_cell? w _ hx103_2)).trans hx103_2
              have HR103_1 := Aside0.mk hi103_1
              have HC103_1 := Aside0.mk hl103_1
              clear hi103_1 hl103_1
              have HR103_2 := Aside0.mk hi103_2
              have HC103_2 := Aside0.mk hl103_2
              clear hi103_2 hl103_2
              replace p103 := eq_true p103
              replace q103 := eq_true q103
              go_upto_if 22 with (first | ((with_reducible refine gate_dst (N := 6) rfl ?_); refine box_event ?hg (N := 6) ?hd (cs := #[.int .i64 0, .slice none 0 0, .slice none 0 0]) (t := 40) ?hr ?_; (case hd => rfl); (case hg => rfl); (case hr => first | (go_simp; done) | (go_simp; rfl)); intro gb104 hg w9 hbox hb; have n0_ := Aside0.mk (Kd.R_below (by (with_reducible repeat (first | apply Kd.R_alloc | apply Kd.R_drewN | apply Kd.R_drew)); (first | exact HO_4.out | (first | refine Kd.R_mono HO_4.out (fun _ hk => ?_) | refine Kd.S_mono HO_4.out (fun _ hk => ?_) | refine Kd.Q_mono HO_4.out (fun _ hk => ?_)); simp only [ownBlock_slice] at hk ⊢; exact hk)) hb); have n1_ := Aside0.mk (below_step (by repeat (first | (with_reducible first | exact HB.out | apply below_alloc | apply pw_below_drewN | apply below_drew1) | exact HB.out)) hb); have n2_ := Aside0.mk (hbox); have n3_ := Aside0.mk ((by rw [hg]; exact (below_size (by repeat (first | (with_reducible first | exact HB.out | apply below_alloc | apply pw_below_drewN | apply below_drew1) | exact HB.out))) : w.heap.size ≤ gb104)); have n4_ := Aside0.mk ((by rw [hg]; exact (below_size (by repeat (first | (with_reducible first | exact HB.out | apply below_alloc | apply pw_below_drewN | apply below_drew1) | exact HB.out))) : w.heap.size ≤ gb104)); clear HO_4; clear HB; have HO_4 := n0_; have HB := n1_; have BK104 := n2_; have GW104 := n3_; have GE104 := n4_; clear n0_ n1_ n2_ n3_ n4_; clear hb hbox hg; have hcz10_0 : w9.cell? ⟨gb104, 0, none⟩ = some (.int .i64 0) := (blk_cell BK104.out 0).trans rfl; have hcz10_1 : w9.cell? ⟨gb104, 1, none⟩ = some (.slice none 0 0) := (blk_cell BK104.out 1).trans rfl; have hcz10_2 : w9.cell? ⟨gb104, 2, none⟩ = some (.slice none 0 0) := (blk_cell BK104.out 2).trans rfl; have hfz10_0 := blk_frozen BK104.out 0; have hfz10_1 := blk_frozen BK104.out 1; have hfz10_2 := blk_frozen BK104.out 2))
              (try simp only [Act.put, List.setIfInBounds_toArray, List.set_cons_zero, List.set_cons_succ])
              go_cut [4] (fun v4 wc => ∃ (kq : Nat) (x4_7 : List (S66)), Aside0 (parse_Show.j1 kq x4_7 l0 (l0.length : Int) x16_1 ((rd_T40 l0 x16_1).f0) ((rd_T40 l0 x16_1).f1) ((rd_T40 l0 x16_1).f2) = some (r1, r2)) ∧ Aside0 (kq ≤ k1) ∧ Aside0 (Kd.R k66 66 wc w.heap.size (fun _ => True) v4 x4_7) ∧ Aside0 (wc.heap[gb104]? = some (.cells #[.int .i64 ((rd_T40 l0 x16_1).f0), (.slice A103_1 ((rd_T40 l0 x16_1).f1).length c103_1), (.slice A103_2 ((rd_T40 l0 x16_1).f2).length c103_2)] 40 (0, 0))) ∧ Aside0 (Below w.heap.size w wc))
              case first =>
                have H := HC8.out
                clear HC8
                by_cases c11 : x16_1 > 0
                · rw [if_pos c11] at H
                  have c11b0 : decide (0 < x16_1) = true := decide_eq_true c11
                  clear c11
                  (first | rw [c11b0] | (simp only [i64_w, i32_w]; rw [c11b0]) | skip)
                  by_cases c12 : x4_1.length < 5864062014805
                  · rw [if_pos c12] at H
                    have LMc12 := Aside0.mk c12
                    clear c12
                    obtain ⟨y105, hy105⟩ : ∃ y_ : List (S66), y_ = (x4_1 ++ [(⟨(rd_T40 l0 x16_1).f0, (⟨#[]⟩ : ByteArray)⟩ : S66)]) := ⟨_, rfl⟩
                    replace H : (parse_Show.j1 k1 y105 l0 (l0.length : Int) x16_1 ((rd_T40 l0 x16_1).f0) ((rd_T40 l0 x16_1).f1) ((rd_T40 l0 x16_1).f2)) = some (r1, r2) := by first | (rw [hy105]; with_reducible exact H) | (have H2_ := (Option.bind_some _ _).symm.trans H; rw [hy105]; with_reducible exact H2_) | (have H2_ := (Option.bind_some _ _).symm.trans H; with_reducible exact H2_) | with_reducible exact H | (rw [hy105]; exact H) | exact H
                    have Ny105 := Aside0.mk hy105
                    clear hy105
                    have H' := Aside0.mk H
                    clear H
                    have hcz13_0 : w9.cell? ⟨gb104, 0, none⟩ = some (.int .i64 0) := (blk_cell BK104.out 0).trans rfl
                    have hcz13_1 : w9.cell? ⟨gb104, 1, none⟩ = some (.slice none 0 0) := (blk_cell BK104.out 1).trans rfl
                    have hcz13_2 : w9.cell? ⟨gb104, 2, none⟩ = some (.slice none 0 0) := (blk_cell BK104.out 2).trans rfl
                    have hfz13_0 := blk_frozen BK104.out 0
                    have hfz13_1 := blk_frozen BK104.out 1
                    have hfz13_2 := blk_frozen BK104.out 2
                    go_wp2_with (first | ((with_reducible refine gate_builtin (b := .append) (xs := #[.tmp 23, .tmp 27]) rfl ?_); at_builtin; refine Kd.R_append k66 (w0 := w) w.heap.size rfl (.tmp 23) (.tmp 27) 57 66 (.agg #[(.int .i64 0), (.string ⟨#[]⟩)]) 24 rfl Tryd.underlying57 info66 rfl (by decide) (by omega) u4 x4_1 (⟨(rd_T40 l0 x16_1).f0, (⟨#[]⟩ : ByteArray)⟩ : S66) [.int .i64 ((rd_T40 l0 x16_1).f0), .string (⟨#[]⟩ : ByteArray)] (fun _ => True) (fun _ => False) rfl (by first | (go_simp; done) | (go_simp; rfl)) ?aP (fun _ hk => hk.elim) ?aF ?aO ?aB ?aS ?aL ?_; (case aP => exact k66_mkM _ _ _ (⟨(rd_T40 l0 x16_1).f0, (⟨#[]⟩ : ByteArray)⟩ : S66)); (case aB => exact (by repeat (first | (with_reducible first | exact HB.out | apply below_alloc | apply pw_below_drewN | apply below_drew1 | refine below_set ?_ GE104.out) | exact HB.out))); (case aF => exact (fun _ _ => trivial)); (case aO => exact (by (with_reducible repeat (first | apply Kd.R_alloc | apply Kd.R_drewN | apply Kd.R_drew)); exact Kd.R_mono (Kd.R_far (p := ⟨gb104, 2, none⟩) (Kd.R_far (p := ⟨gb104, 1, none⟩) (Kd.R_far (p := ⟨gb104, 0, none⟩) (Kd.R_types HO_4.out BK104.out (by decide)) (fun _ hk => hk.2) (.int .i64 ((rd_T40 l0 x16_1).f0))) (fun _ hk => hk.2) (.slice A103_1 ((rd_T40 l0 x16_1).f1).length c103_1)) (fun _ hk => hk.2) (.slice A103_2 ((rd_T40 l0 x16_1).f2).length c103_2)) (fun _ hk => trivial))); (case aS => exact (below_size (by repeat (first | (with_reducible first | exact HB.out | apply below_alloc | apply pw_below_drewN | apply below_drew1 | refine below_set ?_ GE104.out) | exact HB.out)))); (case aL => have := LMc12.out; omega); intro v106 w14 ho hb hg hat; rw [← Ny105.out] at ho; have n0_ := Aside0.mk (blk_grown (g := gb104) (o := .cells #[.int .i64 ((rd_T40 l0 x16_1).f0), .slice A103_1 ((rd_T40 l0 x16_1).f1).length c103_1, .slice A103_2 ((rd_T40 l0 x16_1).f2).length c103_2] 40 (0, 0)) (by (with_reducible repeat (first | refine blk_drewN ?_ _ | refine blk_drew ?_ | refine blk_alloc ?_ _)); refine blk_put (cs := #[.int .i64 ((rd_T40 l0 x16_1).f0), .slice A103_1 ((rd_T40 l0 x16_1).f1).length c103_1, .slice none 0 0]) ?_ 2 _ rfl; (with_reducible repeat (first | refine blk_drewN ?_ _ | refine blk_drew ?_ | refine blk_alloc ?_ _)); refine blk_put (cs := #[.int .i64 ((rd_T40 l0 x16_1).f0), .slice none 0 0, .slice none 0 0]) ?_ 1 _ rfl; (with_reducible repeat (first | refine blk_drewN ?_ _ | refine blk_drew ?_ | refine blk_alloc ?_ _)); refine blk_put (cs := #[.int .i64 0, .slice none 0 0, .slice none 0 0]) ?_ 0 _ rfl; (with_reducible repeat (first | refine blk_drewN ?_ _ | refine blk_drew ?_ | refine blk_alloc ?_ _)); exact BK104.out) hg (Kd.R_ne HO_4.out BK104.out (by decide))); have n1_ := Aside0.mk (hb); have n2_ := Aside0.mk (ho); clear BK104; clear HB; clear HO_4; have BK104 := n0_; have HB := n1_; have HO107 := n2_; clear n0_ n1_ n2_; clear ho hb hg hat))
                    go_meet
                    case rel => exact ⟨_, (y105), H', ⟨by have := HK1.out; first | omega | exact Nat.le_refl _⟩, ⟨by (with_reducible repeat (first | apply Kd.R_alloc | apply Kd.R_drewN | apply Kd.R_drew)); (first | exact HO107.out | (first | refine Kd.R_mono HO107.out (fun _ hk => ?_) | refine Kd.S_mono HO107.out (fun _ hk => ?_) | refine Kd.Q_mono HO107.out (fun _ hk => ?_)); simp only [ownBlock_slice] at hk ⊢; exact hk)⟩, ⟨by (with_reducible repeat (first | refine blk_drewN ?_ _ | refine blk_drew ?_ | refine blk_alloc ?_ _)); exact BK104.out⟩, ⟨by repeat (first | (with_reducible first | exact HB.out | apply below_alloc | apply pw_below_drewN | apply below_drew1 | refine below_set ?_ GE104.out) | exact HB.out)⟩⟩
                  · rw [if_neg c12] at H
                    exact absurd H (by simp)
                · rw [if_neg c11] at H
                  have c11b0 : decide (0 < x16_1) = false := decide_eq_false c11
                  clear c11
                  (first | rw [c11b0] | (simp only [i64_w, i32_w]; rw [c11b0]) | skip)
                  have H' := Aside0.mk H
                  clear H
                  go_wp2
                  go_meet
                  case rel => exact ⟨_, (x4_1), H', ⟨by have := HK1.out; first | omega | exact Nat.le_refl _⟩, ⟨by (with_reducible repeat (first | apply Kd.R_alloc | apply Kd.R_drewN | apply Kd.R_drew)); exact Kd.R_mono (Kd.R_far (p := ⟨gb104, 2, none⟩) (Kd.R_far (p := ⟨gb104, 1, none⟩) (Kd.R_far (p := ⟨gb104, 0, none⟩) (Kd.R_types HO_4.out BK104.out (by decide)) (fun _ hk => hk.2) (.int .i64 ((rd_T40 l0 x16_1).f0))) (fun _ hk => hk.2) (.slice A103_1 ((rd_T40 l0 x16_1).f1).length c103_1)) (fun _ hk => hk.2) (.slice A103_2 ((rd_T40 l0 x16_1).f2).length c103_2)) (fun _ hk => trivial)⟩, ⟨by (with_reducible repeat (first | refine blk_drewN ?_ _ | refine blk_drew ?_ | refine blk_alloc ?_ _)); refine blk_put (cs := #[.int .i64 ((rd_T40 l0 x16_1).f0), .slice A103_1 ((rd_T40 l0 x16_1).f1).length c103_1, .slice none 0 0]) ?_ 2 _ rfl; (with_reducible repeat (first | refine blk_drewN ?_ _ | refine blk_drew ?_ | refine blk_alloc ?_ _)); refine blk_put (cs := #[.int .i64 ((rd_T40 l0 x16_1).f0), .slice none 0 0, .slice none 0 0]) ?_ 1 _ rfl; (with_reducible repeat (first | refine blk_drewN ?_ _ | refine blk_drew ?_ | refine blk_alloc ?_ _)); refine blk_put (cs := #[.int .i64 0, .slice none 0 0, .slice none 0 0]) ?_ 0 _ rfl; (with_reducible repeat (first | refine blk_drewN ?_ _ | refine blk_drew ?_ | refine blk_alloc ?_ _)); exact BK104.out⟩, ⟨by repeat (first | (with_reducible first | exact HB.out | apply below_alloc | apply pw_below_drewN | apply below_drew1 | refine below_set ?_ GE104.out) | exact HB.out)⟩⟩
              case rest =>
                clear HC8
                try clear c1
                try clear p1
                try clear q1
                try clear hx1
                try clear p2
                try clear c3
                try clear c5
                try clear c5b0
                try clear c6
                try clear c6b0
                try clear c7
                try clear c7b0
                try clear c9
                try clear c10
                try clear p10
                try clear q10
                try clear hx10
                try clear c11
                try clear c11b0
                try clear c12
                try clear hcz10_0
                try clear hcz10_1
                try clear hcz10_2
                try clear hcz13_0
                try clear hcz13_1
                try clear hcz13_2
                try clear hfz10_0
                try clear hfz10_1
                try clear hfz10_2
                try clear hfz13_0
                try clear hfz13_1
                try clear hfz13_2
                try clear hx103_0
                try clear hx103_1
                try clear hx103_2
                try clear p103
                try clear p2
                try clear q103
                obtain ⟨kq, x4_7, HA, HJ7, HO_4, BK104, HB⟩ := hcut
                cases kq with
                | zero => exact absurd HA.out (by simp [parse_Show.j1])
                | succ kj7 =>
                  have H := HA.out
                  clear HA
                  simp only [parse_Show.j1] at H
                  have H' := Aside0.mk H
                  clear H
                  have hcz15_0 : wc.cell? ⟨gb104, 0, none⟩ = some (.int .i64 ((rd_T40 l0 x16_1).f0)) := (blk_cell BK104.out 0).trans rfl
                  have hcz15_1 : wc.cell? ⟨gb104, 1, none⟩ = some (.slice A103_1 ((rd_T40 l0 x16_1).f1).length c103_1) := (blk_cell BK104.out 1).trans rfl
                  have hcz15_2 : wc.cell? ⟨gb104, 2, none⟩ = some (.slice A103_2 ((rd_T40 l0 x16_1).f2).length c103_2) := (blk_cell BK104.out 2).trans rfl
                  have hfz15_0 := blk_frozen BK104.out 0
                  have hfz15_1 := blk_frozen BK104.out 1
                  have hfz15_2 := blk_frozen BK104.out 2
                  go_wp2
                  go_loopg [4, 32] kj7 (fun kq v4 v32 w' => ∃ (x4_3 : List (S66)) (x32_3 : Int), v32 = .int .i64 x32_3 ∧ Aside0 (parse_Show.l1 kq x4_3 l0 (l0.length : Int) x16_1 ((rd_T40 l0 x16_1).f1) (((rd_T40 l0 x16_1).f1).length : Int) x32_3 ((rd_T40 l0 x16_1).f0) ((rd_T40 l0 x16_1).f1) ((rd_T40 l0 x16_1).f2) = some (r1, r2)) ∧ Aside0 (kq ≤ kj7) ∧ Aside0 (Kd.R k66 66 w' w.heap.size (fun _ => True) v4 x4_3) ∧ Aside0 (w'.heap[gb104]? = some (.cells #[.int .i64 ((rd_T40 l0 x16_1).f0), (.slice A103_1 ((rd_T40 l0 x16_1).f1).length c103_1), (.slice A103_2 ((rd_T40 l0 x16_1).f2).length c103_2)] 40 (0, 0))) ∧ Aside0 (Below w.heap.size w w'))
                  case atStart => exact ⟨(x4_7), (0), (by first | rfl | (simp; done) | (simp [*]; done)), H', ⟨Nat.le_refl _⟩, ⟨by (with_reducible repeat (first | apply Kd.R_alloc | apply Kd.R_drewN | apply Kd.R_drew)); (first | exact HO_4.out | (first | refine Kd.R_mono HO_4.out (fun _ hk => ?_) | refine Kd.S_mono HO_4.out (fun _ hk => ?_) | refine Kd.Q_mono HO_4.out (fun _ hk => ?_)); simp only [ownBlock_slice] at hk ⊢; exact hk)⟩, ⟨by (with_reducible repeat (first | refine blk_drewN ?_ _ | refine blk_drew ?_ | refine blk_alloc ?_ _)); exact BK104.out⟩, ⟨by repeat (first | (with_reducible first | exact HB.out | apply below_alloc | apply pw_below_drewN | apply below_drew1 | refine below_set ?_ GE104.out) | exact HB.out)⟩⟩
                  case round =>
                    clear H'
                    try clear c1
                    try clear p1
                    try clear q1
                    try clear hx1
                    try clear p2
                    try clear c3
                    try clear c5
                    try clear c5b0
                    try clear c6
                    try clear c6b0
                    try clear c7
                    try clear c7b0
                    try clear c9
                    try clear c10
                    try clear p10
                    try clear q10
                    try clear hx10
                    try clear c11
                    try clear c11b0
                    try clear c12
                    try clear hcz10_0
                    try clear hcz10_1
                    try clear hcz10_2
                    try clear hcz13_0
                    try clear hcz13_1
                    try clear hcz13_2
                    try clear hcz15_0
                    try clear hcz15_1
                    try clear hcz15_2
                    try clear hfz10_0
                    try clear hfz10_1
                    try clear hfz10_2
                    try clear hfz13_0
                    try clear hfz13_1
                    try clear hfz13_2
                    try clear hfz15_0
                    try clear hfz15_1
                    try clear hfz15_2
                    try clear hx103_0
                    try clear hx103_1
                    try clear hx103_2
                    try clear p1
                    try clear p10
                    try clear p103
                    try clear p2
                    try clear q1
                    try clear q10
                    try clear q103
                    obtain ⟨x4_3, x32_3, rfl, HA, HK3, HO_4, BK104, HB⟩ := hrel
                    cases gk with
                    | zero => exact absurd HA.out (by simp [parse_Show.l1])
                    | succ k3 =>
                      have H := HA.out
                      clear HA
                      simp only [parse_Show.l1] at H
                      by_cases c16 : x32_3 < (((rd_T40 l0 x16_1).f1).length : Int)
                      · rw [if_pos c16] at H
                        have c16b0 : decide (x32_3 < (((rd_T40 l0 x16_1).f1).length : Int)) = true := decide_eq_true c16
                        clear c16
                        by_cases c17 : 0 ≤ x32_3
                        · rw [if_pos c17] at H
                          have c17b0 : decide (0 ≤ x32_3) = true := decide_eq_true c17
                          clear c17
                          by_cases c18 : x32_3 < (((rd_T40 l0 x16_1).f1).length : Int)
                          · rw [if_pos c18] at H
                            have c18b0 : decide (x32_3 < (((rd_T40 l0 x16_1).f1).length : Int)) = true := decide_eq_true c18
                            clear c18
                            by_cases c19 : x4_3.length < 5864062014805
                            · rw [if_pos c19] at H
                              have LMc19 := Aside0.mk c19
                              clear c19
                              obtain ⟨y109, hy109⟩ : ∃ y_ : List (S66), y_ = (x4_3 ++ [(⟨0, rdOf ByteArray.empty ((rd_T40 l0 x16_1).f1) x32_3⟩ : S66)]) := ⟨_, rfl⟩
                              replace H : (parse_Show.l1 k3 y109 l0 (l0.length : Int) x16_1 ((rd_T40 l0 x16_1).f1) (((rd_T40 l0 x16_1).f1).length : Int) (wrap64 (x32_3 + 1)) ((rd_T40 l0 x16_1).f0) ((rd_T40 l0 x16_1).f1) ((rd_T40 l0 x16_1).f2)) = some (r1, r2) := by first | (rw [hy109]; with_reducible exact H) | (have H2_ := (Option.bind_some _ _).symm.trans H; rw [hy109]; with_reducible exact H2_) | (have H2_ := (Option.bind_some _ _).symm.trans H; with_reducible exact H2_) | with_reducible exact H | (rw [hy109]; exact H) | exact H
                              have Ny109 := Aside0.mk hy109
                              clear hy109
                              have H' := Aside0.mk H
                              clear H
                              have p108 : 0 ≤ (x32_3 : Int) := of_decide_eq_true (by first | (with_reducible assumption) | assumption)
                              have q108 : x32_3 < (((rd_T40 l0 x16_1).f1).length : Int) := of_decide_eq_true (by first | (with_reducible assumption) | assumption)
                              obtain ⟨ad108, e108, hx108_0⟩ := Kd.at_string HR103_1.out x32_3 p108 q108
                              cases e108
                              replace hx108_0 := (HB.out.cell (World.block_lt_of_cell? w _ hx108_0)).trans hx108_0
                              replace p108 := eq_true p108
                              replace q108 := eq_true q108
                              go_wp2_with (first | ((with_reducible refine gate_builtin (b := .append) (xs := #[.tmp 36, .tmp 39]) rfl ?_); at_builtin; refine Kd.R_append k66 (w0 := w) w.heap.size rfl (.tmp 36) (.tmp 39) 57 66 (.agg #[(.int .i64 0), (.string ⟨#[]⟩)]) 24 rfl Tryd.underlying57 info66 rfl (by decide) (by omega) u4 x4_3 (⟨0, rdOf ByteArray.empty ((rd_T40 l0 x16_1).f1) x32_3⟩ : S66) [.int .i64 0, .string (rdOf ByteArray.empty ((rd_T40 l0 x16_1).f1) x32_3)] (fun _ => True) (fun _ => False) rfl rfl ?aP (fun _ hk => hk.elim) ?aF ?aO ?aB ?aS ?aL ?_; (case aP => exact k66_mkM _ _ _ (⟨0, rdOf ByteArray.empty ((rd_T40 l0 x16_1).f1) x32_3⟩ : S66)); (case aB => exact (by repeat (first | (with_reducible first | exact HB.out | apply below_alloc | apply pw_below_drewN | apply below_drew1 | refine below_set ?_ GE104.out) | exact HB.out))); (case aF => exact (fun _ _ => trivial)); (case aO => exact (by (with_reducible repeat (first | apply Kd.R_alloc | apply Kd.R_drewN | apply Kd.R_drew)); (first | exact HO_4.out | (first | refine Kd.R_mono HO_4.out (fun _ hk => ?_) | refine Kd.S_mono HO_4.out (fun _ hk => ?_) | refine Kd.Q_mono HO_4.out (fun _ hk => ?_)); simp only [ownBlock_slice] at hk ⊢; exact hk))); (case aS => exact (below_size (by repeat (first | (with_reducible first | exact HB.out | apply below_alloc | apply pw_below_drewN | apply below_drew1 | refine below_set ?_ GE104.out) | exact HB.out)))); (case aL => have := LMc19.out; omega); intro v110 w20 ho hb hg hat; rw [← Ny109.out] at ho; have n0_ := Aside0.mk (blk_grown (g := gb104) (o := .cells #[.int .i64 ((rd_T40 l0 x16_1).f0), .slice (some ad108) ((rd_T40 l0 x16_1).f1).length c103_1, .slice A103_2 ((rd_T40 l0 x16_1).f2).length c103_2] 40 (0, 0)) (by (with_reducible repeat (first | refine blk_drewN ?_ _ | refine blk_drew ?_ | refine blk_alloc ?_ _)); exact BK104.out) hg (Kd.R_ne HO_4.out BK104.out (by decide))); have n1_ := Aside0.mk (hb); have n2_ := Aside0.mk (ho); clear BK104; clear HB; clear HO_4; have BK104 := n0_; have HB := n1_; have HO111 := n2_; clear n0_ n1_ n2_; clear ho hb hg hat))
                              go_roundg k3
                              case measure => have := HK1.out; have := HJ7.out; have := HK3.out; omega
                              case rel => exact ⟨(y109), (wrap64 (x32_3 + 1)), (by first | rfl | (simp; done) | (simp [*]; done)), H', ⟨by have := HK1.out; have := HJ7.out; have := HK3.out; omega⟩, ⟨by (with_reducible repeat (first | apply Kd.R_alloc | apply Kd.R_drewN | apply Kd.R_drew)); (first | exact HO111.out | (first | refine Kd.R_mono HO111.out (fun _ hk => ?_) | refine Kd.S_mono HO111.out (fun _ hk => ?_) | refine Kd.Q_mono HO111.out (fun _ hk => ?_)); simp only [ownBlock_slice] at hk ⊢; exact hk)⟩, ⟨by (with_reducible repeat (first | refine blk_drewN ?_ _ | refine blk_drew ?_ | refine blk_alloc ?_ _)); exact BK104.out⟩, ⟨by repeat (first | (with_reducible first | exact HB.out | apply below_alloc | apply pw_below_drewN | apply below_drew1 | refine below_set ?_ GE104.out) | exact HB.out)⟩⟩
                            · rw [if_neg c19] at H
                              exact absurd H (by simp)
                          · rw [if_neg c18] at H
                            exact absurd H (by simp)
                        · rw [if_neg c17] at H
                          exact absurd H (by simp)
                      · rw [if_neg c16] at H
                        have c16b0 : decide (x32_3 < (((rd_T40 l0 x16_1).f1).length : Int)) = false := decide_eq_false c16
                        clear c16
                        have H' := Aside0.mk H
                        clear H
                        have hcz21_0 : wr.cell? ⟨gb104, 0, none⟩ = some (.int .i64 ((rd_T40 l0 x16_1).f0)) := (blk_cell BK104.out 0).trans rfl
                        have hcz21_1 : wr.cell? ⟨gb104, 1, none⟩ = some (.slice A103_1 ((rd_T40 l0 x16_1).f1).length c103_1) := (blk_cell BK104.out 1).trans rfl
                        have hcz21_2 : wr.cell? ⟨gb104, 2, none⟩ = some (.slice A103_2 ((rd_T40 l0 x16_1).f2).length c103_2) := (blk_cell BK104.out 2).trans rfl
                        have hfz21_0 := blk_frozen BK104.out 0
                        have hfz21_1 := blk_frozen BK104.out 1
                        have hfz21_2 := blk_frozen BK104.out 2
                        go_wp2
                        go_loopg [4, 45] k3 (fun kq v4 v45 w' => ∃ (x4_4 : List (S66)) (x45_4 : Int), v45 = .int .i64 x45_4 ∧ Aside0 (parse_Show.l2 kq x4_4 l0 (l0.length : Int) x16_1 ((rd_T40 l0 x16_1).f2) (((rd_T40 l0 x16_1).f2).length : Int) x45_4 = some (r1, r2)) ∧ Aside0 (kq ≤ k3) ∧ Aside0 (Kd.R k66 66 w' w.heap.size (fun _ => True) v4 x4_4) ∧ Aside0 (w'.heap[gb104]? = some (.cells #[.int .i64 ((rd_T40 l0 x16_1).f0), (.slice A103_1 ((rd_T40 l0 x16_1).f1).length c103_1), (.slice A103_2 ((rd_T40 l0 x16_1).f2).length c103_2)] 40 (0, 0))) ∧ Aside0 (Below w.heap.size w w'))
                        case atStart => exact ⟨(x4_3), (0), (by first | rfl | (simp; done) | (simp [*]; done)), H', ⟨Nat.le_refl _⟩, ⟨by (with_reducible repeat (first | apply Kd.R_alloc | apply Kd.R_drewN | apply Kd.R_drew)); (first | exact HO_4.out | (first | refine Kd.R_mono HO_4.out (fun _ hk => ?_) | refine Kd.S_mono HO_4.out (fun _ hk => ?_) | refine Kd.Q_mono HO_4.out (fun _ hk => ?_)); simp only [ownBlock_slice] at hk ⊢; exact hk)⟩, ⟨by (with_reducible repeat (first | refine blk_drewN ?_ _ | refine blk_drew ?_ | refine blk_alloc ?_ _)); exact BK104.out⟩, ⟨by repeat (first | (with_reducible first | exact HB.out | apply below_alloc | apply pw_below_drewN | apply below_drew1 | refine below_set ?_ GE104.out) | exact HB.out)⟩⟩
                        case round =>
                          clear H'
                          try clear c1
                          try clear p1
                          try clear q1
                          try clear hx1
                          try clear p2
                          try clear c3
                          try clear c5
                          try clear c5b0
                          try clear c6
                          try clear c6b0
                          try clear p6
                          try clear c7
                          try clear c7b0
                          try clear c9
                          try clear c10
                          try clear p10
                          try clear q10
                          try clear hx10
                          try clear c11
                          try clear c11b0
                          try clear c12
                          try clear c16
                          try clear c16b0
                          try clear c17
                          try clear c17b0
                          try clear c18
                          try clear c18b0
                          try clear c19
                          try clear hcz10_0
                          try clear hcz10_1
                          try clear hcz10_2
                          try clear hcz13_0
                          try clear hcz13_1
                          try clear hcz13_2
                          try clear hcz15_0
                          try clear hcz15_1
                          try clear hcz15_2
                          try clear hcz21_0
                          try clear hcz21_1
                          try clear hcz21_2
                          try clear hfz10_0
                          try clear hfz10_1
                          try clear hfz10_2
                          try clear hfz13_0
                          try clear hfz13_1
                          try clear hfz13_2
                          try clear hfz15_0
                          try clear hfz15_1
                          try clear hfz15_2
                          try clear hfz21_0
                          try clear hfz21_1
                          try clear hfz21_2
                          try clear hx103_0
                          try clear hx103_1
                          try clear hx103_2
                          try clear hx108_0
                          try clear p1
                          try clear p10
                          try clear p103
                          try clear p108
                          try clear p2
                          try clear q1
                          try clear q10
                          try clear q103
                          try clear q108
                          obtain ⟨x4_4, x45_4, rfl, HA, HK4, HO_4, BK104, HB⟩ := hrel
                          cases gk with
                          | zero => exact absurd HA.out (by simp [parse_Show.l2])
                          | succ k4 =>
                            have H := HA.out
                            clear HA
                            simp only [parse_Show.l2] at H
                            by_cases c22 : x45_4 < (((rd_T40 l0 x16_1).f2).length : Int)
                            · rw [if_pos c22] at H
                              have c22b0 : decide (x45_4 < (((rd_T40 l0 x16_1).f2).length : Int)) = true := decide_eq_true c22
                              clear c22
                              by_cases c23 : 0 ≤ x45_4
                              · rw [if_pos c23] at H
                                have c23b0 : decide (0 ≤ x45_4) = true := decide_eq_true c23
                                clear c23
                                by_cases c24 : x45_4 < (((rd_T40 l0 x16_1).f2).length : Int)
                                · rw [if_pos c24] at H
                                  have c24b0 : decide (x45_4 < (((rd_T40 l0 x16_1).f2).length : Int)) = true := decide_eq_true c24
                                  clear c24
                                  obtain ⟨y114, hy114⟩ : ∃ y_ : List (S66), y_ = (([(⟨(rd_T42 ((rd_T40 l0 x16_1).f2) x45_4).f0, (⟨#[]⟩ : ByteArray)⟩ : S66), (⟨0, (rd_T42 ((rd_T40 l0 x16_1).f2) x45_4).f1⟩ : S66)] : List (S66))) := ⟨_, rfl⟩
                                  replace H : (if x4_4.length + y114.length < 5864062014805 then (parse_Show.l2 k4 (x4_4 ++ y114) l0 (l0.length : Int) x16_1 ((rd_T40 l0 x16_1).f2) (((rd_T40 l0 x16_1).f2).length : Int) (wrap64 (x45_4 + 1))) else (none)) = some (r1, r2) := by first | (rw [hy114]; with_reducible exact H) | (have H2_ := (Option.bind_some _ _).symm.trans H; rw [hy114]; with_reducible exact H2_) | (have H2_ := (Option.bind_some _ _).symm.trans H; with_reducible exact H2_) | with_reducible exact H | (rw [hy114]; exact H) | exact H
                                  have Ny114 := Aside0.mk hy114
                                  clear hy114
                                  by_cases c25 : x4_4.length + y114.length < 5864062014805
                                  · rw [if_pos c25] at H
                                    have LMc25 := Aside0.mk c25
                                    clear c25
                                    obtain ⟨y117, hy117⟩ : ∃ y_ : List (S66), y_ = (x4_4 ++ y114) := ⟨_, rfl⟩
                                    replace H : (parse_Show.l2 k4 y117 l0 (l0.length : Int) x16_1 ((rd_T40 l0 x16_1).f2) (((rd_T40 l0 x16_1).f2).length : Int) (wrap64 (x45_4 + 1))) = some (r1, r2) := by first | (rw [hy117]; with_reducible exact H) | (have H2_ := (Option.bind_some _ _).symm.trans H; rw [hy117]; with_reducible exact H2_) | (have H2_ := (Option.bind_some _ _).symm.trans H; with_reducible exact H2_) | with_reducible exact H | (rw [hy117]; exact H) | exact H
                                    have Ny117 := Aside0.mk hy117
                                    clear hy117
                                    have H' := Aside0.mk H
                                    clear H
                                    have p112 : 0 ≤ (x45_4 : Int) := of_decide_eq_true (by first | (with_reducible assumption) | assumption)
                                    have q112 : x45_4 < (((rd_T40 l0 x16_1).f2).length : Int) := of_decide_eq_true (by first | (with_reducible assumption) | assumption)
                                    obtain ⟨ad112, e112, hx112_0, hx112_1⟩ := at_T42 HR103_2.out x45_4 p112 q112
                                    cases e112
                                    replace hx112_0 := (HB.out.cell (World.block_lt_of_cell? w _ hx112_0)).trans hx112_0
                                    replace hx112_1 := (HB.out.cell (World.block_lt_of_cell? w _ hx112_1)).trans hx112_1
                                    replace p112 := eq_true p112
                                    replace q112 := eq_true q112
                                    go_wp2_with (first | ((with_reducible refine gate_dst (N := 10) rfl ?_); refine box_event ?hg (N := 10) ?hd (cs := #[.int .i64 0, .string (⟨#[]⟩ : ByteArray)]) (t := 42) ?hr ?_; (case hd => rfl); (case hg => rfl); (case hr => first | (go_simp; done) | (go_simp; rfl)); intro gb113 hg w26 hbox hb; have n0_ := Aside0.mk (Kd.R_below (by (with_reducible repeat (first | apply Kd.R_alloc | apply Kd.R_drewN | apply Kd.R_drew)); (first | exact HO_4.out | (first | refine Kd.R_mono HO_4.out (fun _ hk => ?_) | refine Kd.S_mono HO_4.out (fun _ hk => ?_) | refine Kd.Q_mono HO_4.out (fun _ hk => ?_)); simp only [ownBlock_slice] at hk ⊢; exact hk)) hb); have n1_ := Aside0.mk (blk_below (g := gb104) (o := .cells #[.int .i64 ((rd_T40 l0 x16_1).f0), .slice A103_1 ((rd_T40 l0 x16_1).f1).length c103_1, .slice (some ad112) ((rd_T40 l0 x16_1).f2).length c103_2] 40 (0, 0)) (by (with_reducible repeat (first | refine blk_drewN ?_ _ | refine blk_drew ?_ | refine blk_alloc ?_ _)); exact BK104.out) hb); have n2_ := Aside0.mk (below_step (by repeat (first | (with_reducible first | exact HB.out | apply below_alloc | apply pw_below_drewN | apply below_drew1 | refine below_set ?_ GE104.out) | exact HB.out)) hb); have n3_ := Aside0.mk (hbox); have n4_ := Aside0.mk ((by rw [hg]; exact (below_size (by repeat (first | (with_reducible first | exact HB.out | apply below_alloc | apply pw_below_drewN | apply below_drew1 | refine below_set ?_ GE104.out) | exact HB.out))) : w.heap.size ≤ gb113)); have n5_ := Aside0.mk ((by rw [hg]; exact (below_size (by repeat (first | (with_reducible first | exact HB.out | apply below_alloc | apply pw_below_drewN | apply below_drew1 | refine below_set ?_ GE104.out) | exact HB.out))) : w.heap.size ≤ gb113)); have n6_ := Aside0.mk ((by rw [hg]; exact Nat.ne_of_lt (blk_lt (g := gb104) (o := .cells #[.int .i64 ((rd_T40 l0 x16_1).f0), .slice A103_1 ((rd_T40 l0 x16_1).f1).length c103_1, .slice (some ad112) ((rd_T40 l0 x16_1).f2).length c103_2] 40 (0, 0)) (by (with_reducible repeat (first | refine blk_drewN ?_ _ | refine blk_drew ?_ | refine blk_alloc ?_ _)); exact BK104.out)) : gb104 ≠ gb113)); have n7_ := Aside0.mk ((by rw [hg]; exact Nat.ne_of_gt (blk_lt (g := gb104) (o := .cells #[.int .i64 ((rd_T40 l0 x16_1).f0), .slice A103_1 ((rd_T40 l0 x16_1).f1).length c103_1, .slice (some ad112) ((rd_T40 l0 x16_1).f2).length c103_2] 40 (0, 0)) (by (with_reducible repeat (first | refine blk_drewN ?_ _ | refine blk_drew ?_ | refine blk_alloc ?_ _)); exact BK104.out)) : gb113 ≠ gb104)); clear HO_4; clear BK104; clear HB; have HO_4 := n0_; have BK104 := n1_; have HB := n2_; have BK113 := n3_; have GW113 := n4_; have GE113 := n5_; have NB104_113 := n6_; have NB113_104 := n7_; clear n0_ n1_ n2_ n3_ n4_ n5_ n6_ n7_; clear hb hbox hg; have hnb27 := NB113_104.out; have hnc27 := NB104_113.out; have hcz28_0 : w26.cell? ⟨gb113, 0, none⟩ = some (.int .i64 0) := (blk_cell BK113.out 0).trans rfl; have hcz28_1 : w26.cell? ⟨gb113, 1, none⟩ = some (.string (⟨#[]⟩ : ByteArray)) := (blk_cell BK113.out 1).trans rfl; have hfz28_0 := blk_frozen BK113.out 0; have hfz28_1 := blk_frozen BK113.out 1) | ((with_reducible refine gate_dst (N := 56) rfl ?_); refine Kd.R_lit k66 _ 66 ?hg (N := 56) ?hd (xs := ([(⟨(rd_T42 ((rd_T40 l0 x16_1).f2) x45_4).f0, (⟨#[]⟩ : ByteArray)⟩ : S66), (⟨0, (rd_T42 ((rd_T40 l0 x16_1).f2) x45_4).f1⟩ : S66)] : List (S66))) (inner := [.int .i64 ((rd_T42 ((rd_T40 l0 x16_1).f2) x45_4).f0), .string (⟨#[]⟩ : ByteArray), .int .i64 0, .string ((rd_T42 ((rd_T40 l0 x16_1).f2) x45_4).f1)]) (ok := fun _ => True) (okp := fun _ => True) ?hr ?hp (fun _ hk => hk) trivial (Below.refl _ _) (Nat.le_refl _) (by simp) ?_; (case hd => rfl); (case hg => rfl); (case hr => first | (go_simp; done) | (go_simp; rfl)); (case hp => exact (Reps.c2 (show Kd.M k66 _ _ _ (⟨(rd_T42 ((rd_T40 l0 x16_1).f2) x45_4).f0, (⟨#[]⟩ : ByteArray)⟩ : S66) [.int .i64 ((rd_T42 ((rd_T40 l0 x16_1).f2) x45_4).f0), .string (⟨#[]⟩ : ByteArray)] from (k66_mkM _ _ _ (⟨(rd_T42 ((rd_T40 l0 x16_1).f2) x45_4).f0, (⟨#[]⟩ : ByteArray)⟩ : S66) )) (Reps.c2 (show Kd.M k66 _ _ _ (⟨0, (rd_T42 ((rd_T40 l0 x16_1).f2) x45_4).f1⟩ : S66) [.int .i64 0, .string ((rd_T42 ((rd_T40 l0 x16_1).f2) x45_4).f1)] from (k66_mkM _ _ _ (⟨0, (rd_T42 ((rd_T40 l0 x16_1).f2) x45_4).f1⟩ : S66) )) (Reps.none _ _)))); intro v115 w29 ho30 hb hg_ hnew_; clear hg_ hnew_; (first | rw [← Ny114.out] at ho30 | (simp only [Int.reduceToNat] at ho30; rw [← Ny114.out] at ho30)); have n0_ := Aside0.mk (Kd.R_elder' (by (with_reducible repeat (first | apply Kd.R_alloc | apply Kd.R_drewN | apply Kd.R_drew)); exact (Kd.R_mono (Kd.R_far (p := ⟨gb113, 1, none⟩) (Kd.R_far (p := ⟨gb113, 0, none⟩) (Kd.R_types HO_4.out BK113.out (by decide)) (fun _ hk => hk.2) (.int .i64 ((rd_T42 ((rd_T40 l0 x16_1).f2) x45_4).f0))) (fun _ hk => hk.2) (.string ((rd_T42 ((rd_T40 l0 x16_1).f2) x45_4).f1))) (fun _ h_ => h_.1))) (Kd.R_base ho30) hb); have n1_ := Aside0.mk (Kd.R_lower (Kd.R_new' ho30 (Kd.R_lt (by (with_reducible repeat (first | apply Kd.R_alloc | apply Kd.R_drewN | apply Kd.R_drew)); exact (Kd.R_mono (Kd.R_far (p := ⟨gb113, 1, none⟩) (Kd.R_far (p := ⟨gb113, 0, none⟩) (Kd.R_types HO_4.out BK113.out (by decide)) (fun _ hk => hk.2) (.int .i64 ((rd_T42 ((rd_T40 l0 x16_1).f2) x45_4).f0))) (fun _ hk => hk.2) (.string ((rd_T42 ((rd_T40 l0 x16_1).f2) x45_4).f1))) (fun _ h_ => h_.1))))) (below_size (by repeat (first | (with_reducible first | exact HB.out | apply below_alloc | apply pw_below_drewN | apply below_drew1 | refine below_set ?_ GE104.out | refine below_set ?_ GE113.out) | exact HB.out)))); have n2_ := Aside0.mk (blk_below (g := gb104) (o := .cells #[.int .i64 ((rd_T40 l0 x16_1).f0), .slice A103_1 ((rd_T40 l0 x16_1).f1).length c103_1, .slice (some ad112) ((rd_T40 l0 x16_1).f2).length c103_2] 40 (0, 0)) (by (with_reducible repeat (first | refine blk_drewN ?_ _ | refine blk_drew ?_ | refine blk_alloc ?_ _)); refine blk_far ?_ NB104_113.out _; (with_reducible repeat (first | refine blk_drewN ?_ _ | refine blk_drew ?_ | refine blk_alloc ?_ _)); refine blk_far ?_ NB104_113.out _; (with_reducible repeat (first | refine blk_drewN ?_ _ | refine blk_drew ?_ | refine blk_alloc ?_ _)); exact BK104.out) hb); have n3_ := Aside0.mk (blk_below (g := gb113) (o := .cells #[.int .i64 ((rd_T42 ((rd_T40 l0 x16_1).f2) x45_4).f0), .string ((rd_T42 ((rd_T40 l0 x16_1).f2) x45_4).f1)] 42 (0, 0)) (by (with_reducible repeat (first | refine blk_drewN ?_ _ | refine blk_drew ?_ | refine blk_alloc ?_ _)); refine blk_put (cs := #[.int .i64 ((rd_T42 ((rd_T40 l0 x16_1).f2) x45_4).f0), .string (⟨#[]⟩ : ByteArray)]) ?_ 1 _ rfl; (with_reducible repeat (first | refine blk_drewN ?_ _ | refine blk_drew ?_ | refine blk_alloc ?_ _)); refine blk_put (cs := #[.int .i64 0, .string (⟨#[]⟩ : ByteArray)]) ?_ 0 _ rfl; (with_reducible repeat (first | refine blk_drewN ?_ _ | refine blk_drew ?_ | refine blk_alloc ?_ _)); exact BK113.out) hb); have n4_ := Aside0.mk (below_step (by repeat (first | (with_reducible first | exact HB.out | apply below_alloc | apply pw_below_drewN | apply below_drew1 | refine below_set ?_ GE104.out | refine below_set ?_ GE113.out) | exact HB.out)) hb); clear HO_4; clear BK104; clear BK113; clear HB; have HO_4 := n0_; have HO116 := n1_; have BK104 := n2_; have BK113 := n3_; have HB := n4_; clear n0_ n1_ n2_ n3_ n4_; clear hb ho30; obtain ⟨Ao32, co32, eo32⟩ := Kd.R_slice HO116.out; subst eo32) | ((with_reducible refine gate_builtin (b := .append) (xs := #[.tmp 49, .tmp 56]) rfl ?_); at_builtin; refine Kd.R_append_rows k66 (w0 := w) w.heap.size rfl (.tmp 49) (.tmp 56) 57 66 (.agg #[(.int .i64 0), (.string ⟨#[]⟩)]) 24 rfl Tryd.underlying57 info66 rfl (by decide) (by omega) u4 x4_4 y114 _ _ _ (fun k_ => some k_ ≠ (.slice Ao32 y114.length co32 : Value).ownBlock) (fun _ => False) rfl rfl ?aO ?aR (fun _ _ h => h) (fun _ h => h.elim) ?aF ?aB ?aS ?aL ?_; (case aR => repeat (first | exact (Kd.R_reads' HO116.out).2.2 | (with_reducible refine Kd.C_alloc ?_ _) | (with_reducible refine Kd.C_drewN ?_ _) | (with_reducible refine Kd.C_drew ?_))); (case aB => exact (by repeat (first | (with_reducible first | exact HB.out | apply below_alloc | apply pw_below_drewN | apply below_drew1 | refine below_set ?_ GE104.out | refine below_set ?_ GE113.out) | exact HB.out))); (case aF => exact (fun k_ hk => Kd.fresh' (Kd.R_lt (by (with_reducible repeat (first | apply Kd.R_alloc | apply Kd.R_drewN | apply Kd.R_drew)); (first | exact HO116.out | (first | refine Kd.R_mono HO116.out (fun _ hk => ?_) | refine Kd.S_mono HO116.out (fun _ hk => ?_) | refine Kd.Q_mono HO116.out (fun _ hk => ?_)); simp only [ownBlock_slice] at hk ⊢; exact hk))) k_ hk)); (case aO => exact (by (with_reducible repeat (first | apply Kd.R_alloc | apply Kd.R_drewN | apply Kd.R_drew)); exact Kd.R_mono HO_4.out (fun _ hk => hk.2))); (case aS => exact (below_size (by repeat (first | (with_reducible first | exact HB.out | apply below_alloc | apply pw_below_drewN | apply below_drew1 | refine below_set ?_ GE104.out | refine below_set ?_ GE113.out) | exact HB.out)))); (case aL => have := LMc25.out; omega); intro v118 w31 ho hb hg hat; rw [← Ny117.out] at ho; have n0_ := Aside0.mk (blk_grown (g := gb104) (o := .cells #[.int .i64 ((rd_T40 l0 x16_1).f0), .slice A103_1 ((rd_T40 l0 x16_1).f1).length c103_1, .slice (some ad112) ((rd_T40 l0 x16_1).f2).length c103_2] 40 (0, 0)) (by (with_reducible repeat (first | refine blk_drewN ?_ _ | refine blk_drew ?_ | refine blk_alloc ?_ _)); exact BK104.out) hg (Kd.R_ne HO_4.out BK104.out (by decide))); have n1_ := Aside0.mk (blk_grown (g := gb113) (o := .cells #[.int .i64 ((rd_T42 ((rd_T40 l0 x16_1).f2) x45_4).f0), .string ((rd_T42 ((rd_T40 l0 x16_1).f2) x45_4).f1)] 42 (0, 0)) (by (with_reducible repeat (first | refine blk_drewN ?_ _ | refine blk_drew ?_ | refine blk_alloc ?_ _)); exact BK113.out) hg (Kd.R_ne HO_4.out BK113.out (by decide))); have n2_ := Aside0.mk (Kd.R_after (ok := (fun _ => True)) (by (with_reducible repeat (first | apply Kd.R_alloc | apply Kd.R_drewN | apply Kd.R_drew)); (first | exact HO116.out | (first | refine Kd.R_mono HO116.out (fun _ hk => ?_) | refine Kd.S_mono HO116.out (fun _ hk => ?_) | refine Kd.Q_mono HO116.out (fun _ hk => ?_)); simp only [ownBlock_slice] at hk ⊢; exact hk)) hg hat); have n3_ := Aside0.mk (hb); have n4_ := Aside0.mk (ho); clear BK104; clear BK113; clear HO116; clear HB; clear HO_4; have BK104 := n0_; have BK113 := n1_; have HO116 := n2_; have HB := n3_; have HO119 := n4_; clear n0_ n1_ n2_ n3_ n4_; clear ho hb hg hat))
                                    go_roundg k4
                                    case measure => have := HK1.out; have := HJ7.out; have := HK3.out; have := HK4.out; omega
                                    case rel => exact ⟨(y117), (wrap64 (x45_4 + 1)), (by first | rfl | (simp; done) | (simp [*]; done)), H', ⟨by have := HK1.out; have := HJ7.out; have := HK3.out; have := HK4.out; omega⟩, ⟨by (with_reducible repeat (first | apply Kd.R_alloc | apply Kd.R_drewN | apply Kd.R_drew)); exact Kd.R_mono HO119.out (fun _ hk => trivial)⟩, ⟨by (with_reducible repeat (first | refine blk_drewN ?_ _ | refine blk_drew ?_ | refine blk_alloc ?_ _)); exact BK104.out⟩, ⟨by repeat (first | (with_reducible first | exact HB.out | apply below_alloc | apply pw_below_drewN | apply below_drew1 | refine below_set ?_ GE104.out | refine below_set ?_ GE113.out) | exact HB.out)⟩⟩
                                  · rw [if_neg c25] at H
                                    exact absurd H (by simp)
                                · rw [if_neg c24] at H
                                  exact absurd H (by simp)
                              · rw [if_neg c23] at H
                                exact absurd H (by simp)
                            · rw [if_neg c22] at H
                              have c22b0 : decide (x45_4 < (((rd_T40 l0 x16_1).f2).length : Int)) = false := decide_eq_false c22
                              clear c22
                              have H' := Aside0.mk H
                              clear H
                              go_wp2
                              go_roundg k4
                              case measure => have := HK1.out; have := HJ7.out; have := HK3.out; have := HK4.out; omega
                              case rel => exact ⟨(x4_4), (wrap64 (x16_1 + 1)), (by first | rfl | (simp; done) | (simp [*]; done)), H', ⟨by have := HK1.out; have := HJ7.out; have := HK3.out; have := HK4.out; omega⟩, ⟨by (with_reducible repeat (first | apply Kd.R_alloc | apply Kd.R_drewN | apply Kd.R_drew)); (first | exact HO_4.out | (first | refine Kd.R_mono HO_4.out (fun _ hk => ?_) | refine Kd.S_mono HO_4.out (fun _ hk => ?_) | refine Kd.Q_mono HO_4.out (fun _ hk => ?_)); simp only [ownBlock_slice] at hk ⊢; exact hk)⟩, ⟨by repeat (first | (with_reducible first | exact HB.out | apply below_alloc | apply pw_below_drewN | apply below_drew1 | refine below_set ?_ GE104.out) | exact HB.out)⟩⟩
            · rw [if_neg c7] at H
              exact absurd H (by simp)
          · rw [if_neg c6] at H
            exact absurd H (by simp)
        · rw [if_neg c5] at H
          have c5b0 : decide (x16_1 < (l0.length : Int)) = false := decide_eq_false c5
          clear c5
          replace H := Option.bind_eq_some_iff.mp H
          obtain ⟨t102, A330, H⟩ := H
          replace H : (some (t102, 0)) = some (r1, r2) := H
          have A33 := Aside0.mk A330
          clear A330
          simp only [Option.some.injEq, Prod.mk.injEq] at H
          obtain ⟨rfl, rfl⟩ := H
          obtain ⟨Ao34, co34, eo34⟩ := Kd.R_slice HO_4.out
          subst eo34
          go_wp2_with (first | ((with_reducible refine gate_callee (f := 23) rfl ?_); refine goesL_ (some 61) rfl rfl Tryd.func23 (by kernel_rfl) rfl #[.slice Ao34 x4_1.length co34] rfl (by (try simp only [List.map_toArray, List.map_cons, List.map_nil]); first | done | rfl | (simp only [List.length_drop, List.length_take]; rfl)) ?_; (with_reducible refine (lex_Show.calls k1 _ _ x4_1 t102 _ ?side1 ?side2 ?side3 A33.out).mono ?_); (case side1 => first | exact HSH.out | exact Shp.below HSH.out (by repeat (first | (with_reducible first | exact HB.out | apply below_alloc | apply pw_below_drewN | apply below_drew1) | exact HB.out))); (case side2 => repeat (first | exact (Kd.R_reads' HO_4.out).2.2 | (with_reducible refine Kd.C_alloc ?_ _) | (with_reducible refine Kd.C_drewN ?_ _) | (with_reducible refine Kd.C_drew ?_))); (case side3 => exact (Kd.R_reads' HO_4.out).2.1); rintro e w35 ⟨rfl, hb⟩; refine ⟨_, rfl, ?_⟩; have n0_ := Aside0.mk (Kd.R_below (by (with_reducible repeat (first | apply Kd.R_alloc | apply Kd.R_drewN | apply Kd.R_drew)); (first | exact HO_4.out | (first | refine Kd.R_mono HO_4.out (fun _ hk => ?_) | refine Kd.S_mono HO_4.out (fun _ hk => ?_) | refine Kd.Q_mono HO_4.out (fun _ hk => ?_)); simp only [ownBlock_slice] at hk ⊢; exact hk)) hb); have n1_ := Aside0.mk (below_step (by repeat (first | (with_reducible first | exact HB.out | apply below_alloc | apply pw_below_drewN | apply below_drew1) | exact HB.out)) hb); clear HO_4; clear HB; have HO_4 := n0_; have HB := n1_; clear n0_ n1_; (try clear hb); (try clear hb2); (try clear hk); (try clear hi)))
          go_ret2
          exact ⟨by first | rfl | (simp [errW_none, errW_some] <;> rfl) | (simp [*, errW_none, errW_some] <;> rfl), by repeat (first | (with_reducible first | exact HB.out | apply below_alloc | apply pw_below_drewN | apply below_drew1) | exact HB.out)⟩
  · replace c3 := Bool.eq_false_iff.mpr c3
    subst c3
    have H1 : (some ((⟨#[]⟩ : ByteArray), 1)) = some (r1, r2) := by rw [if_neg (show ¬ (false = true) by decide)] at H; exact H
    clear H
    have H := H1
    clear H1
    simp only [Option.some.injEq, Prod.mk.injEq] at H
    obtain ⟨rfl, rfl⟩ := H
    go_enter Tryd.func9, Tryd.ntmps9
    go_wp2_with (first | ((with_reducible refine gate_callee (f := 12) rfl ?_); refine goesL_ (some 12) rfl rfl Tryd.func12 (by kernel_rfl) rfl #[.slice A0 l0.length c0] rfl (by (try simp only [List.map_toArray, List.map_cons, List.map_nil]); first | done | rfl | (simp only [List.length_drop, List.length_take]; rfl)) ?_; (with_reducible refine (parse_Right.calls _ _ l0 false _ ?side1 ?side2 A2.out).mono ?_); (case side1 => repeat (first | exact HR0.out | (with_reducible refine Kd.C_alloc ?_ _) | (with_reducible refine Kd.C_drewN ?_ _) | (with_reducible refine Kd.C_drew ?_))); (case side2 => exact HC0.out); rintro e w36 ⟨rfl, hb⟩; refine ⟨_, rfl, ?_⟩; have n0_ := Aside0.mk (below_step (by repeat (first | (with_reducible first | exact HB.out | apply below_alloc | apply pw_below_drewN | apply below_drew1) | exact HB.out)) hb); clear HB; have HB := n0_; clear n0_; (try clear hb); (try clear hb2); (try clear hk); (try clear hi)))
    go_ret2
    exact ⟨by first | rfl | (simp [errW_none, errW_some] <;> rfl) | (simp [*, errW_none, errW_some] <;> rfl), by repeat (first | (with_reducible first | exact HB.out | apply below_alloc | apply pw_below_drewN | apply below_drew1) | exact HB.out)⟩

/-! ### flatironlaw06_lives: function 6 -/
def flatironlaw06_lives.f  : Option (Bool) := (parse_Line.f (⟨#[97, 32, 62, 120, 32, 38, 38, 32, 98]⟩ : ByteArray)).bind fun bt120 => (if bt120.2 = 0 then (if (bt120.1.length : Int) = 2 then (if 0 < (bt120.1.length : Int) then (if (((rd_T40 bt120.1 0).f2).length : Int) = 1 then (if 0 < (((rd_T40 bt120.1 0).f2).length : Int) then (if (((rd_T42 ((rd_T40 bt120.1 0).f2) 0).f0) == 4 && ((((rd_T42 ((rd_T40 bt120.1 0).f2) 0).f1).toList) == ([120] : List UInt8))) = true then (if 1 < (bt120.1.length : Int) then (some (((rd_T40 bt120.1 1).f0) == 2)) else (none)) else (some false)) else (none)) else (some false)) else (none)) else (some false)) else (some false))
set_option maxHeartbeats 8000000 in
set_option maxRecDepth 100000 in
theorem flatironlaw06_lives.calls  (r : Bool) (w : World) (h : flatironlaw06_lives.f  = some r) :
    Calls Tryd.prog 6 #[] w fun e w' => e = .returned (.bool r) ∧ Below w.heap.size w w' := by
  have hu42 := Tryd.underlying42
  have HB := Aside0.mk (Below.refl w.heap.size w)
  have H : ((parse_Line.f (⟨#[97, 32, 62, 120, 32, 38, 38, 32, 98]⟩ : ByteArray)).bind fun bt120 => (if bt120.2 = 0 then (if (bt120.1.length : Int) = 2 then (if 0 < (bt120.1.length : Int) then (if (((rd_T40 bt120.1 0).f2).length : Int) = 1 then (if 0 < (((rd_T40 bt120.1 0).f2).length : Int) then (if (((rd_T42 ((rd_T40 bt120.1 0).f2) 0).f0) == 4 && ((((rd_T42 ((rd_T40 bt120.1 0).f2) 0).f1).toList) == ([120] : List UInt8))) = true then (if 1 < (bt120.1.length : Int) then (some (((rd_T40 bt120.1 1).f0) == 2)) else (none)) else (some false)) else (none)) else (some false)) else (none)) else (some false)) else (some false))) = some r := h
  clear h
  replace H := Option.bind_eq_some_iff.mp H
  obtain ⟨⟨t120, t121⟩, A10, H⟩ := H
  replace H : (if t121 = 0 then (if (t120.length : Int) = 2 then (if 0 < (t120.length : Int) then (if (((rd_T40 t120 0).f2).length : Int) = 1 then (if 0 < (((rd_T40 t120 0).f2).length : Int) then (if (((rd_T42 ((rd_T40 t120 0).f2) 0).f0) == 4 && ((((rd_T42 ((rd_T40 t120 0).f2) 0).f1).toList) == ([120] : List UInt8))) = true then (if 1 < (t120.length : Int) then (some (((rd_T40 t120 1).f0) == 2)) else (none)) else (some false)) else (none)) else (some false)) else (none)) else (some false)) else (some false)) = some r := H
  have A1 := Aside0.mk A10
  clear A10
  by_cases c2 : t121 = 0
  · rw [if_pos c2] at H
    have c2b0 : (t121 == 0) = true := beq_iff_eq.mpr c2
    have c2b1 : (t121 != 0) = false := bne_eq_false_iff_eq.mpr c2
    clear c2
    by_cases c3 : (t120.length : Int) = 2
    · rw [if_pos c3] at H
      have c3b0 : ((t120.length : Int) == 2) = true := beq_iff_eq.mpr c3
      have c3b1 : ((t120.length : Int) != 2) = false := bne_eq_false_iff_eq.mpr c3
      clear c3
      by_cases c4 : 0 < (t120.length : Int)
      · rw [if_pos c4] at H
        have c4b0 : decide (0 < (t120.length : Int)) = true := decide_eq_true c4
        have c4b1 : decide (0 < t120.length) = true := decide_eq_true (by omega)
        clear c4
        by_cases c5 : (((rd_T40 t120 0).f2).length : Int) = 1
        · rw [if_pos c5] at H
          have c5b0 : ((((rd_T40 t120 0).f2).length : Int) == 1) = true := beq_iff_eq.mpr c5
          have c5b1 : ((((rd_T40 t120 0).f2).length : Int) != 1) = false := bne_eq_false_iff_eq.mpr c5
          clear c5
          by_cases c6 : 0 < (((rd_T40 t120 0).f2).length : Int)
          · rw [if_pos c6] at H
            have c6b0 : decide (0 < (((rd_T40 t120 0).f2).length : Int)) = true := decide_eq_true c6
            have c6b1 : decide (0 < ((rd_T40 t120 0).f2).length) = true := decide_eq_true (by omega)
            clear c6
            by_cases c7 : (((rd_T42 ((rd_T40 t120 0).f2) 0).f0) == 4 && ((((rd_T42 ((rd_T40 t120 0).f2) 0).f1).toList) == ([120] : List UInt8))) = true
            · rw [if_pos c7] at H
              have c7b0 : (((rd_T42 ((rd_T40 t120 0).f2) 0).f0) == 4 && ((((rd_T42 ((rd_T40 t120 0).f2) 0).f1).toList) == ([120] : List UInt8))) = true := c7
              (try (have c7b1 : decide (((rd_T42 ((rd_T40 t120 0).f2) 0).f0) = 4 && ((((rd_T42 ((rd_T40 t120 0).f2) 0).f1).toList) == ([120] : List UInt8))) = true := by simpa using c7))
              (try (have c7b2 : (((rd_T42 ((rd_T40 t120 0).f2) 0).f0) == 4 && ((((rd_T42 ((rd_T40 t120 0).f2) 0).f1).toList) == ([120] : List UInt8))) = true := by simpa using c7))
              clear c7
              by_cases c8 : 1 < (t120.length : Int)
              · rw [if_pos c8] at H
                have c8b0 : decide (1 < (t120.length : Int)) = true := decide_eq_true c8
                have c8b1 : decide (1 < t120.length) = true := decide_eq_true (by omega)
                clear c8
                obtain rfl := Option.some.inj H
                go_enter Tryd.func6, Tryd.ntmps6
                go_wp2_with (first | ((with_reducible refine gate_callee (f := 7) rfl ?_); refine goesL_ (some 4) rfl rfl Tryd.func7 (by kernel_rfl) rfl #[.string (⟨#[97, 32, 62, 120, 32, 38, 38, 32, 98]⟩ : ByteArray)] rfl (by (try simp only [List.map_toArray, List.map_cons, List.map_nil]); first | done | rfl | (simp only [List.length_drop, List.length_take]; rfl)) ?_; (with_reducible refine (parse_Line.calls (⟨#[97, 32, 62, 120, 32, 38, 38, 32, 98]⟩ : ByteArray) t120 t121 _ A1.out).mono ?_); rintro e w9 ⟨v122, rfl, ho0, hb⟩; refine ⟨_, rfl, ?_⟩; have n0_ := Aside0.mk (Kd.S_lower ho0 (below_size (by repeat (first | (with_reducible first | exact HB.out | apply below_alloc | apply pw_below_drewN | apply below_drew1) | exact HB.out)))); have n1_ := Aside0.mk (below_step (by repeat (first | (with_reducible first | exact HB.out | apply below_alloc | apply pw_below_drewN | apply below_drew1) | exact HB.out)) hb); clear HB; have HO123 := n0_; have HB := n1_; clear n0_ n1_; (try clear hb); (try clear hb2); (try clear hk); (try clear hi); (try clear ho0); obtain ⟨Ao10, co10, eo10⟩ := Kd.S_slice HO123.out; subst eo10; have p124 : 0 ≤ (0 : Int) := (by omega); have q124 : 0 < (t120.length : Int) := of_decide_eq_true (by first | (with_reducible assumption) | assumption); obtain ⟨ad124, A124_1, c124_1, A124_2, c124_2, e124, hx124_0, hx124_1, hx124_2, hl124_1, hi124_1, hl124_2, hi124_2⟩ := at_T40 (Kd.S_reads' HO123.out).2.2 0 p124 q124; cases e124; obtain ⟨ce124, hce124, hMe124, hcc124⟩ := Kd.S_get HO123.out z40 0 p124 (by first | exact q124 | exact of_decide_eq_true (by first | (with_reducible assumption) | assumption) | (have e_ := (Kd.S_reads' HO123.out).1; omega)); obtain ⟨ve124_1, ve124_2, rfl, ge124_1, ge124_2⟩ := k40_openM hMe124; have hv124_1 := hcc124 1 _ rfl; rw [add_field _ _ 1 (by omega)] at hv124_1; replace hv124_1 := Option.some.inj (hv124_1.symm.trans hx124_1); rw [hv124_1] at ge124_1; have HL124_1 := Aside0.mk (show Kd.R Kd.string 9 _ _ _ _ ((rd_T40 t120 0).f1) from ge124_1); clear hv124_1 ge124_1; have hv124_2 := hcc124 2 _ rfl; rw [add_field _ _ 2 (by omega)] at hv124_2; replace hv124_2 := Option.some.inj (hv124_2.symm.trans hx124_2); rw [hv124_2] at ge124_2; have HL124_2 := Aside0.mk (show Kd.R k42 42 _ _ _ _ ((rd_T40 t120 0).f2) from ge124_2); clear hv124_2 ge124_2; clear hcc124 hce124; have qi124 : (0 < t120.length) = True := eq_true (by omega); (try rw [show ((0 : Int)).toNat = 0 from rfl] at hx124_0); (try rw [show 0 * 3 = 0 from rfl] at hx124_0); (try rw [Addr.add_zero'] at hx124_0); (try rw [show ((0 : Int)).toNat = 0 from rfl] at hx124_1); (try rw [show 0 * 3 = 0 from rfl] at hx124_1); (try rw [Addr.add_zero'] at hx124_1); (try rw [show ((0 : Int)).toNat = 0 from rfl] at hx124_2); (try rw [show 0 * 3 = 0 from rfl] at hx124_2); (try rw [Addr.add_zero'] at hx124_2); have HR124_1 := Aside0.mk hi124_1; have HC124_1 := Aside0.mk hl124_1; clear hi124_1 hl124_1; have HR124_2 := Aside0.mk hi124_2; have HC124_2 := Aside0.mk hl124_2; clear hi124_2 hl124_2; replace p124 := eq_true p124; replace q124 := eq_true q124; have p125 : 0 ≤ (0 : Int) := (by omega); have q125 : 0 < (t120.length : Int) := of_decide_eq_true (by first | (with_reducible assumption) | assumption); obtain ⟨ad125, A125_1, c125_1, A125_2, c125_2, e125, hx125_0, hx125_1, hx125_2, hl125_1, hi125_1, hl125_2, hi125_2⟩ := at_T40 (Kd.S_reads' HO123.out).2.2 0 p125 q125; obtain rfl : ad124 = ad125 := (by injection e125); obtain ⟨ce125, hce125, hMe125, hcc125⟩ := Kd.S_get HO123.out z40 0 p125 (by first | exact q125 | exact of_decide_eq_true (by first | (with_reducible assumption) | assumption) | (have e_ := (Kd.S_reads' HO123.out).1; omega)); obtain ⟨ve125_1, ve125_2, rfl, ge125_1, ge125_2⟩ := k40_openM hMe125; have hv125_1 := hcc125 1 _ rfl; rw [add_field _ _ 1 (by omega)] at hv125_1; replace hv125_1 := Option.some.inj (hv125_1.symm.trans hx125_1); rw [hv125_1] at ge125_1; have HL125_1 := Aside0.mk (show Kd.R Kd.string 9 _ _ _ _ ((rd_T40 t120 0).f1) from ge125_1); clear hv125_1 ge125_1; have hv125_2 := hcc125 2 _ rfl; rw [add_field _ _ 2 (by omega)] at hv125_2; replace hv125_2 := Option.some.inj (hv125_2.symm.trans hx125_2); rw [hv125_2] at ge125_2; have HL125_2 := Aside0.mk (show Kd.R k42 42 _ _ _ _ ((rd_T40 t120 0).f2) from ge125_2); clear hv125_2 ge125_2; clear hcc125 hce125; have qi125 : (0 < t120.length) = True := eq_true (by omega); (try rw [show ((0 : Int)).toNat = 0 from rfl] at hx125_0); (try rw [show 0 * 3 = 0 from rfl] at hx125_0); (try rw [Addr.add_zero'] at hx125_0); (try rw [show ((0 : Int)).toNat = 0 from rfl] at hx125_1); (try rw [show 0 * 3 = 0 from rfl] at hx125_1); (try rw [Addr.add_zero'] at hx125_1); (try rw [show ((0 : Int)).toNat = 0 from rfl] at hx125_2); (try rw [show 0 * 3 = 0 from rfl] at hx125_2); (try rw [Addr.add_zero'] at hx125_2); have HR125_1 := Aside0.mk hi125_1; have HC125_1 := Aside0.mk hl125_1; clear hi125_1 hl125_1; have HR125_2 := Aside0.mk hi125_2; have HC125_2 := Aside0.mk hl125_2; clear hi125_2 hl125_2; replace p125 := eq_true p125; replace q125 := eq_true q125; have ea_ := Option.some.inj (hx124_1.symm.trans hx125_1); injection ea_ with ea_ en_ ec_; subst ea_; subst ec_; clear en_; have ea_ := Option.some.inj (hx124_2.symm.trans hx125_2); injection ea_ with ea_ en_ ec_; subst ea_; subst ec_; clear en_; have p126 : 0 ≤ (0 : Int) := (by omega); have q126 : 0 < (((rd_T40 t120 0).f2).length : Int) := of_decide_eq_true (by first | (with_reducible assumption) | assumption); obtain ⟨ad126, e126, hx126_0, hx126_1⟩ := at_T42 (by repeat (first | (with_reducible exact HR125_2.out) | (with_reducible refine Kd.C_alloc ?_ _) | (with_reducible refine Kd.C_drewN ?_ _) | (with_reducible refine Kd.C_drew ?_) | exact HR125_2.out)) 0 p126 q126; cases e126; have qi126 : (0 < ((rd_T40 t120 0).f2).length) = True := eq_true (by omega); (try rw [show ((0 : Int)).toNat = 0 from rfl] at hx126_0); (try rw [show 0 * 2 = 0 from rfl] at hx126_0); (try rw [Addr.add_zero'] at hx126_0); (try rw [show ((0 : Int)).toNat = 0 from rfl] at hx126_1); (try rw [show 0 * 2 = 0 from rfl] at hx126_1); (try rw [Addr.add_zero'] at hx126_1); replace p126 := eq_true p126; replace q126 := eq_true q126; have p127 : 0 ≤ (1 : Int) := (by omega); have q127 : 1 < (t120.length : Int) := of_decide_eq_true (by first | (with_reducible assumption) | assumption); obtain ⟨ad127, A127_1, c127_1, A127_2, c127_2, e127, hx127_0, hx127_1, hx127_2, hl127_1, hi127_1, hl127_2, hi127_2⟩ := at_T40 (Kd.S_reads' HO123.out).2.2 1 p127 q127; obtain rfl : ad124 = ad127 := (by injection e127); obtain ⟨ce127, hce127, hMe127, hcc127⟩ := Kd.S_get HO123.out z40 1 p127 (by first | exact q127 | exact of_decide_eq_true (by first | (with_reducible assumption) | assumption) | (have e_ := (Kd.S_reads' HO123.out).1; omega)); obtain ⟨ve127_1, ve127_2, rfl, ge127_1, ge127_2⟩ := k40_openM hMe127; have hv127_1 := hcc127 1 _ rfl; rw [add_field _ _ 1 (by omega)] at hv127_1; replace hv127_1 := Option.some.inj (hv127_1.symm.trans hx127_1); rw [hv127_1] at ge127_1; have HL127_1 := Aside0.mk (show Kd.R Kd.string 9 _ _ _ _ ((rd_T40 t120 1).f1) from ge127_1); clear hv127_1 ge127_1; have hv127_2 := hcc127 2 _ rfl; rw [add_field _ _ 2 (by omega)] at hv127_2; replace hv127_2 := Option.some.inj (hv127_2.symm.trans hx127_2); rw [hv127_2] at ge127_2; have HL127_2 := Aside0.mk (show Kd.R k42 42 _ _ _ _ ((rd_T40 t120 1).f2) from ge127_2); clear hv127_2 ge127_2; clear hcc127 hce127; (try simp only [show (1 : Int).toNat = 1 from rfl, Nat.reduceMul, Nat.reduceEqDiff, Go.Addr.add, ↓reduceIte] at hx127_0); (try simp only [show (1 : Int).toNat = 1 from rfl, Nat.reduceMul, Nat.reduceEqDiff, Go.Addr.add, ↓reduceIte] at hx127_1); (try simp only [show (1 : Int).toNat = 1 from rfl, Nat.reduceMul, Nat.reduceEqDiff, Go.Addr.add, ↓reduceIte] at hx127_2); have qi127 : (1 < t120.length) = True := eq_true (by omega); (try rw [show ((1 : Int)).toNat = 1 from rfl] at hx127_0); (try rw [show 1 * 3 = 3 from rfl] at hx127_0); (try rw [show ((1 : Int)).toNat = 1 from rfl] at hx127_1); (try rw [show 1 * 3 = 3 from rfl] at hx127_1); (try rw [show ((1 : Int)).toNat = 1 from rfl] at hx127_2); (try rw [show 1 * 3 = 3 from rfl] at hx127_2); have HR127_1 := Aside0.mk hi127_1; have HC127_1 := Aside0.mk hl127_1; clear hi127_1 hl127_1; have HR127_2 := Aside0.mk hi127_2; have HC127_2 := Aside0.mk hl127_2; clear hi127_2 hl127_2; replace p127 := eq_true p127; replace q127 := eq_true q127))
                go_ret
                exact ⟨by first | rfl | (simp [errW_none, errW_some] <;> rfl) | (simp [*, errW_none, errW_some] <;> rfl), by repeat (first | (with_reducible first | exact HB.out | apply below_alloc | apply pw_below_drewN | apply below_drew1) | exact HB.out)⟩
              · rw [if_neg c8] at H
                exact absurd H (by simp)
            · rw [if_neg c7] at H
              have c7b0 : (((rd_T42 ((rd_T40 t120 0).f2) 0).f0) == 4 && ((((rd_T42 ((rd_T40 t120 0).f2) 0).f1).toList) == ([120] : List UInt8))) = false := by simpa using c7
              (try (have c7b1 : decide (((rd_T42 ((rd_T40 t120 0).f2) 0).f0) = 4 && ((((rd_T42 ((rd_T40 t120 0).f2) 0).f1).toList) == ([120] : List UInt8))) = false := by simpa using c7))
              (try (have c7b2 : (((rd_T42 ((rd_T40 t120 0).f2) 0).f0) == 4 && ((((rd_T42 ((rd_T40 t120 0).f2) 0).f1).toList) == ([120] : List UInt8))) = false := by simpa using c7))
              (try (have c7b3 : ¬ (((rd_T42 ((rd_T40 t120 0).f2) 0).f0) = 4 && ((((rd_T42 ((rd_T40 t120 0).f2) 0).f1).toList) == ([120] : List UInt8))) := by simpa using c7))
              clear c7
              obtain rfl := Option.some.inj H
              go_enter Tryd.func6, Tryd.ntmps6
              go_wp2_with (first | ((with_reducible refine gate_callee (f := 7) rfl ?_); refine goesL_ (some 4) rfl rfl Tryd.func7 (by kernel_rfl) rfl #[.string (⟨#[97, 32, 62, 120, 32, 38, 38, 32, 98]⟩ : ByteArray)] rfl (by (try simp only [List.map_toArray, List.map_cons, List.map_nil]); first | done | rfl | (simp only [List.length_drop, List.length_take]; rfl)) ?_; (with_reducible refine (parse_Line.calls (⟨#[97, 32, 62, 120, 32, 38, 38, 32, 98]⟩ : ByteArray) t120 t121 _ A1.out).mono ?_); rintro e w11 ⟨v122, rfl, ho0, hb⟩; refine ⟨_, rfl, ?_⟩; have n0_ := Aside0.mk (Kd.S_lower ho0 (below_size (by repeat (first | (with_reducible first | exact HB.out | apply below_alloc | apply pw_below_drewN | apply below_drew1) | exact HB.out)))); have n1_ := Aside0.mk (below_step (by repeat (first | (with_reducible first | exact HB.out | apply below_alloc | apply pw_below_drewN | apply below_drew1) | exact HB.out)) hb); clear HB; have HO123 := n0_; have HB := n1_; clear n0_ n1_; (try clear hb); (try clear hb2); (try clear hk); (try clear hi); (try clear ho0); obtain ⟨Ao12, co12, eo12⟩ := Kd.S_slice HO123.out; subst eo12; have p124 : 0 ≤ (0 : Int) := (by omega); have q124 : 0 < (t120.length : Int) := of_decide_eq_true (by first | (with_reducible assumption) | assumption); obtain ⟨ad124, A124_1, c124_1, A124_2, c124_2, e124, hx124_0, hx124_1, hx124_2, hl124_1, hi124_1, hl124_2, hi124_2⟩ := at_T40 (Kd.S_reads' HO123.out).2.2 0 p124 q124; cases e124; obtain ⟨ce124, hce124, hMe124, hcc124⟩ := Kd.S_get HO123.out z40 0 p124 (by first | exact q124 | exact of_decide_eq_true (by first | (with_reducible assumption) | assumption) | (have e_ := (Kd.S_reads' HO123.out).1; omega)); obtain ⟨ve124_1, ve124_2, rfl, ge124_1, ge124_2⟩ := k40_openM hMe124; have hv124_1 := hcc124 1 _ rfl; rw [add_field _ _ 1 (by omega)] at hv124_1; replace hv124_1 := Option.some.inj (hv124_1.symm.trans hx124_1); rw [hv124_1] at ge124_1; have HL124_1 := Aside0.mk (show Kd.R Kd.string 9 _ _ _ _ ((rd_T40 t120 0).f1) from ge124_1); clear hv124_1 ge124_1; have hv124_2 := hcc124 2 _ rfl; rw [add_field _ _ 2 (by omega)] at hv124_2; replace hv124_2 := Option.some.inj (hv124_2.symm.trans hx124_2); rw [hv124_2] at ge124_2; have HL124_2 := Aside0.mk (show Kd.R k42 42 _ _ _ _ ((rd_T40 t120 0).f2) from ge124_2); clear hv124_2 ge124_2; clear hcc124 hce124; have qi124 : (0 < t120.length) = True := eq_true (by omega); (try rw [show ((0 : Int)).toNat = 0 from rfl] at hx124_0); (try rw [show 0 * 3 = 0 from rfl] at hx124_0); (try rw [Addr.add_zero'] at hx124_0); (try rw [show ((0 : Int)).toNat = 0 from rfl] at hx124_1); (try rw [show 0 * 3 = 0 from rfl] at hx124_1); (try rw [Addr.add_zero'] at hx124_1); (try rw [show ((0 : Int)).toNat = 0 from rfl] at hx124_2); (try rw [show 0 * 3 = 0 from rfl] at hx124_2); (try rw [Addr.add_zero'] at hx124_2); have HR124_1 := Aside0.mk hi124_1; have HC124_1 := Aside0.mk hl124_1; clear hi124_1 hl124_1; have HR124_2 := Aside0.mk hi124_2; have HC124_2 := Aside0.mk hl124_2; clear hi124_2 hl124_2; replace p124 := eq_true p124; replace q124 := eq_true q124; have p125 : 0 ≤ (0 : Int) := (by omega); have q125 : 0 < (t120.length : Int) := of_decide_eq_true (by first | (with_reducible assumption) | assumption); obtain ⟨ad125, A125_1, c125_1, A125_2, c125_2, e125, hx125_0, hx125_1, hx125_2, hl125_1, hi125_1, hl125_2, hi125_2⟩ := at_T40 (Kd.S_reads' HO123.out).2.2 0 p125 q125; obtain rfl : ad124 = ad125 := (by injection e125); obtain ⟨ce125, hce125, hMe125, hcc125⟩ := Kd.S_get HO123.out z40 0 p125 (by first | exact q125 | exact of_decide_eq_true (by first | (with_reducible assumption) | assumption) | (have e_ := (Kd.S_reads' HO123.out).1; omega)); obtain ⟨ve125_1, ve125_2, rfl, ge125_1, ge125_2⟩ := k40_openM hMe125; have hv125_1 := hcc125 1 _ rfl; rw [add_field _ _ 1 (by omega)] at hv125_1; replace hv125_1 := Option.some.inj (hv125_1.symm.trans hx125_1); rw [hv125_1] at ge125_1; have HL125_1 := Aside0.mk (show Kd.R Kd.string 9 _ _ _ _ ((rd_T40 t120 0).f1) from ge125_1); clear hv125_1 ge125_1; have hv125_2 := hcc125 2 _ rfl; rw [add_field _ _ 2 (by omega)] at hv125_2; replace hv125_2 := Option.some.inj (hv125_2.symm.trans hx125_2); rw [hv125_2] at ge125_2; have HL125_2 := Aside0.mk (show Kd.R k42 42 _ _ _ _ ((rd_T40 t120 0).f2) from ge125_2); clear hv125_2 ge125_2; clear hcc125 hce125; have qi125 : (0 < t120.length) = True := eq_true (by omega); (try rw [show ((0 : Int)).toNat = 0 from rfl] at hx125_0); (try rw [show 0 * 3 = 0 from rfl] at hx125_0); (try rw [Addr.add_zero'] at hx125_0); (try rw [show ((0 : Int)).toNat = 0 from rfl] at hx125_1); (try rw [show 0 * 3 = 0 from rfl] at hx125_1); (try rw [Addr.add_zero'] at hx125_1); (try rw [show ((0 : Int)).toNat = 0 from rfl] at hx125_2); (try rw [show 0 * 3 = 0 from rfl] at hx125_2); (try rw [Addr.add_zero'] at hx125_2); have HR125_1 := Aside0.mk hi125_1; have HC125_1 := Aside0.mk hl125_1; clear hi125_1 hl125_1; have HR125_2 := Aside0.mk hi125_2; have HC125_2 := Aside0.mk hl125_2; clear hi125_2 hl125_2; replace p125 := eq_true p125; replace q125 := eq_true q125; have ea_ := Option.some.inj (hx124_1.symm.trans hx125_1); injection ea_ with ea_ en_ ec_; subst ea_; subst ec_; clear en_; have ea_ := Option.some.inj (hx124_2.symm.trans hx125_2); injection ea_ with ea_ en_ ec_; subst ea_; subst ec_; clear en_; have p126 : 0 ≤ (0 : Int) := (by omega); have q126 : 0 < (((rd_T40 t120 0).f2).length : Int) := of_decide_eq_true (by first | (with_reducible assumption) | assumption); obtain ⟨ad126, e126, hx126_0, hx126_1⟩ := at_T42 (by repeat (first | (with_reducible exact HR125_2.out) | (with_reducible refine Kd.C_alloc ?_ _) | (with_reducible refine Kd.C_drewN ?_ _) | (with_reducible refine Kd.C_drew ?_) | exact HR125_2.out)) 0 p126 q126; cases e126; have qi126 : (0 < ((rd_T40 t120 0).f2).length) = True := eq_true (by omega); (try rw [show ((0 : Int)).toNat = 0 from rfl] at hx126_0); (try rw [show 0 * 2 = 0 from rfl] at hx126_0); (try rw [Addr.add_zero'] at hx126_0); (try rw [show ((0 : Int)).toNat = 0 from rfl] at hx126_1); (try rw [show 0 * 2 = 0 from rfl] at hx126_1); (try rw [Addr.add_zero'] at hx126_1); replace p126 := eq_true p126; replace q126 := eq_true q126))
              go_ret
              exact ⟨by first | rfl | (simp [errW_none, errW_some] <;> rfl) | (simp [*, errW_none, errW_some] <;> rfl), by repeat (first | (with_reducible first | exact HB.out | apply below_alloc | apply pw_below_drewN | apply below_drew1) | exact HB.out)⟩
          · rw [if_neg c6] at H
            exact absurd H (by simp)
        · rw [if_neg c5] at H
          have c5b0 : ((((rd_T40 t120 0).f2).length : Int) == 1) = false := beq_eq_false_iff_ne.mpr c5
          have c5b1 : ((((rd_T40 t120 0).f2).length : Int) != 1) = true := bne_iff_ne.mpr c5
          obtain rfl := Option.some.inj H
          go_enter Tryd.func6, Tryd.ntmps6
          go_wp2_with (first | ((with_reducible refine gate_callee (f := 7) rfl ?_); refine goesL_ (some 4) rfl rfl Tryd.func7 (by kernel_rfl) rfl #[.string (⟨#[97, 32, 62, 120, 32, 38, 38, 32, 98]⟩ : ByteArray)] rfl (by (try simp only [List.map_toArray, List.map_cons, List.map_nil]); first | done | rfl | (simp only [List.length_drop, List.length_take]; rfl)) ?_; (with_reducible refine (parse_Line.calls (⟨#[97, 32, 62, 120, 32, 38, 38, 32, 98]⟩ : ByteArray) t120 t121 _ A1.out).mono ?_); rintro e w13 ⟨v122, rfl, ho0, hb⟩; refine ⟨_, rfl, ?_⟩; have n0_ := Aside0.mk (Kd.S_lower ho0 (below_size (by repeat (first | (with_reducible first | exact HB.out | apply below_alloc | apply pw_below_drewN | apply below_drew1) | exact HB.out)))); have n1_ := Aside0.mk (below_step (by repeat (first | (with_reducible first | exact HB.out | apply below_alloc | apply pw_below_drewN | apply below_drew1) | exact HB.out)) hb); clear HB; have HO123 := n0_; have HB := n1_; clear n0_ n1_; (try clear hb); (try clear hb2); (try clear hk); (try clear hi); (try clear ho0); obtain ⟨Ao14, co14, eo14⟩ := Kd.S_slice HO123.out; subst eo14; have p124 : 0 ≤ (0 : Int) := (by omega); have q124 : 0 < (t120.length : Int) := of_decide_eq_true (by first | (with_reducible assumption) | assumption); obtain ⟨ad124, A124_1, c124_1, A124_2, c124_2, e124, hx124_0, hx124_1, hx124_2, hl124_1, hi124_1, hl124_2, hi124_2⟩ := at_T40 (Kd.S_reads' HO123.out).2.2 0 p124 q124; cases e124; obtain ⟨ce124, hce124, hMe124, hcc124⟩ := Kd.S_get HO123.out z40 0 p124 (by first | exact q124 | exact of_decide_eq_true (by first | (with_reducible assumption) | assumption) | (have e_ := (Kd.S_reads' HO123.out).1; omega)); obtain ⟨ve124_1, ve124_2, rfl, ge124_1, ge124_2⟩ := k40_openM hMe124; have hv124_1 := hcc124 1 _ rfl; rw [add_field _ _ 1 (by omega)] at hv124_1; replace hv124_1 := Option.some.inj (hv124_1.symm.trans hx124_1); rw [hv124_1] at ge124_1; have HL124_1 := Aside0.mk (show Kd.R Kd.string 9 _ _ _ _ ((rd_T40 t120 0).f1) from ge124_1); clear hv124_1 ge124_1; have hv124_2 := hcc124 2 _ rfl; rw [add_field _ _ 2 (by omega)] at hv124_2; replace hv124_2 := Option.some.inj (hv124_2.symm.trans hx124_2); rw [hv124_2] at ge124_2; have HL124_2 := Aside0.mk (show Kd.R k42 42 _ _ _ _ ((rd_T40 t120 0).f2) from ge124_2); clear hv124_2 ge124_2; clear hcc124 hce124; have qi124 : (0 < t120.length) = True := eq_true (by omega); (try rw [show ((0 : Int)).toNat = 0 from rfl] at hx124_0); (try rw [show 0 * 3 = 0 from rfl] at hx124_0); (try rw [Addr.add_zero'] at hx124_0); (try rw [show ((0 : Int)).toNat = 0 from rfl] at hx124_1); (try rw [show 0 * 3 = 0 from rfl] at hx124_1); (try rw [Addr.add_zero'] at hx124_1); (try rw [show ((0 : Int)).toNat = 0 from rfl] at hx124_2); (try rw [show 0 * 3 = 0 from rfl] at hx124_2); (try rw [Addr.add_zero'] at hx124_2); have HR124_1 := Aside0.mk hi124_1; have HC124_1 := Aside0.mk hl124_1; clear hi124_1 hl124_1; have HR124_2 := Aside0.mk hi124_2; have HC124_2 := Aside0.mk hl124_2; clear hi124_2 hl124_2; replace p124 := eq_true p124; replace q124 := eq_true q124))
          go_ret
          exact ⟨by first | rfl | (simp [errW_none, errW_some] <;> rfl) | (simp [*, errW_none, errW_some] <;> rfl), by repeat (first | (with_reducible first | exact HB.out | apply below_alloc | apply pw_below_drewN | apply below_drew1) | exact HB.out)⟩
      · rw [if_neg c4] at H
        exact absurd H (by simp)
    · rw [if_neg c3] at H
      have c3b0 : ((t120.length : Int) == 2) = false := beq_eq_false_iff_ne.mpr c3
      have c3b1 : ((t120.length : Int) != 2) = true := bne_iff_ne.mpr c3
      obtain rfl := Option.some.inj H
      go_enter Tryd.func6, Tryd.ntmps6
      go_wp2_with (first | ((with_reducible refine gate_callee (f := 7) rfl ?_); refine goesL_ (some 4) rfl rfl Tryd.func7 (by kernel_rfl) rfl #[.string (⟨#[97, 32, 62, 120, 32, 38, 38, 32, 98]⟩ : ByteArray)] rfl (by (try simp only [List.map_toArray, List.map_cons, List.map_nil]); first | done | rfl | (simp only [List.length_drop, List.length_take]; rfl)) ?_; (with_reducible refine (parse_Line.calls (⟨#[97, 32, 62, 120, 32, 38, 38, 32, 98]⟩ : ByteArray) t120 t121 _ A1.out).mono ?_); rintro e w15 ⟨v122, rfl, ho0, hb⟩; refine ⟨_, rfl, ?_⟩; have n0_ := Aside0.mk (Kd.S_lower ho0 (below_size (by repeat (first | (with_reducible first | exact HB.out | apply below_alloc | apply pw_below_drewN | apply below_drew1) | exact HB.out)))); have n1_ := Aside0.mk (below_step (by repeat (first | (with_reducible first | exact HB.out | apply below_alloc | apply pw_below_drewN | apply below_drew1) | exact HB.out)) hb); clear HB; have HO123 := n0_; have HB := n1_; clear n0_ n1_; (try clear hb); (try clear hb2); (try clear hk); (try clear hi); (try clear ho0); obtain ⟨Ao16, co16, eo16⟩ := Kd.S_slice HO123.out; subst eo16))
      go_ret
      exact ⟨by first | rfl | (simp [errW_none, errW_some] <;> rfl) | (simp [*, errW_none, errW_some] <;> rfl), by repeat (first | (with_reducible first | exact HB.out | apply below_alloc | apply pw_below_drewN | apply below_drew1) | exact HB.out)⟩
  · rw [if_neg c2] at H
    have c2b0 : (t121 == 0) = false := beq_eq_false_iff_ne.mpr c2
    have c2b1 : (t121 != 0) = true := bne_iff_ne.mpr c2
    obtain rfl := Option.some.inj H
    go_enter Tryd.func6, Tryd.ntmps6
    go_wp2_with (first | ((with_reducible refine gate_callee (f := 7) rfl ?_); refine goesL_ (some 4) rfl rfl Tryd.func7 (by kernel_rfl) rfl #[.string (⟨#[97, 32, 62, 120, 32, 38, 38, 32, 98]⟩ : ByteArray)] rfl (by (try simp only [List.map_toArray, List.map_cons, List.map_nil]); first | done | rfl | (simp only [List.length_drop, List.length_take]; rfl)) ?_; (with_reducible refine (parse_Line.calls (⟨#[97, 32, 62, 120, 32, 38, 38, 32, 98]⟩ : ByteArray) t120 t121 _ A1.out).mono ?_); rintro e w17 ⟨v122, rfl, ho0, hb⟩; refine ⟨_, rfl, ?_⟩; have n0_ := Aside0.mk (Kd.S_lower ho0 (below_size (by repeat (first | (with_reducible first | exact HB.out | apply below_alloc | apply pw_below_drewN | apply below_drew1) | exact HB.out)))); have n1_ := Aside0.mk (below_step (by repeat (first | (with_reducible first | exact HB.out | apply below_alloc | apply pw_below_drewN | apply below_drew1) | exact HB.out)) hb); clear HB; have HO123 := n0_; have HB := n1_; clear n0_ n1_; (try clear hb); (try clear hb2); (try clear hk); (try clear hi); (try clear ho0)))
    go_ret
    exact ⟨by first | rfl | (simp [errW_none, errW_some] <;> rfl) | (simp [*, errW_none, errW_some] <;> rfl), by repeat (first | (with_reducible first | exact HB.out | apply below_alloc | apply pw_below_drewN | apply below_drew1) | exact HB.out)⟩

end Go.Proofs.YtogbdjboblfokaaDoor.XW06
/- Laid for this claim by the session's own program xprint.py, over the print of the kit: functions of the program as plain Lean functions, each with a proof that a call comes to what its function says, or the row of a law out of these; no condition of its own. -/
namespace Go.Proofs.YtogbdjboblfokaaDoor.XW06
open Go.Proofs.YtogbdjboblfokaaDoor.X Go.Proofs.YtogbdjboblfokaaDoor.XT06 Go.Proofs.YtogbdjboblfokaaDoor.XW05 Go.RowKit Go.Proofs.YtogbdjboblfokaaDoorW.PrintWords Go.Proofs.YtogbdjboblfokaaDoorW.PrintLast Go.Proofs.YtogbdjboblfokaaDoorW.PrintMore
attribute [local go_sem] cell4_1 cell4_1d max2_int min2_int max_two min_two max_three min_three max_four min_four   -- for this text's walks alone
set_option linter.unusedVariables false
set_option linter.unusedSimpArgs false

end Go.Proofs.YtogbdjboblfokaaDoor.XW06
/- parse.Right and parse.Show at commands that are a line's: plain Lean. -/
namespace Go.Proofs.YtogbdjboblfokaaDoor.X
open Go.RowKit Go.Proofs.YtogbdjboblfokaaDoorW.PrintWords Go.Proofs.YtogbdjboblfokaaDoorW.PrintLast Go.Proofs.YtogbdjboblfokaaDoorW.PrintMore Go.Proofs.YtogbdjboblfokaaDoor.XW05 Go.Proofs.YtogbdjboblfokaaDoor.XT06 Go.Proofs.YtogbdjboblfokaaDoor.XW06
set_option linter.unusedSimpArgs false
set_option linter.unusedVariables false

theorem oddT_eq (t : Int × List UInt8) : oddT (toT t) = !okTo t := by
  obtain ⟨a, s⟩ := t
  show (a != 4 && a != 5 && a != 6) = !(decide (4 ≤ a) && decide (a ≤ 6))
  by_cases h4 : a = 4
  · subst h4; rfl
  · by_cases h5 : a = 5
    · subst h5; rfl
    · by_cases h6 : a = 6
      · subst h6; rfl
      · have e4 : (a != 4) = true := by simpa using h4
        have e5 : (a != 5) = true := by simpa using h5
        have e6 : (a != 6) = true := by simpa using h6
        rw [e4, e5, e6]
        by_cases h : 4 ≤ a
        · have : ¬ a ≤ 6 := by omega
          simp [h, this]
        · simp [h]
theorem any_odd (ts : List (Int × List UInt8)) : (ts.map toT).any oddT = !ts.all okTo := by
  induction ts with
  | nil => rfl
  | cons t ts ih => rw [List.map_cons, List.any_cons, oddT_eq, ih, List.all_cons, Bool.not_and]
theorem oddC_eq (c : Cmd) : oddC (toS c) = !okCmd c := by
  obtain ⟨a, ws, ts⟩ := c
  have e1 : oddC (toS ⟨a, ws, ts⟩) = ((ts.map toT).any oddT || (ws.map B).length == 0 || (a != 1 && a != 2 && a != 3)) := rfl
  have e2 : okCmd ⟨a, ws, ts⟩ = (decide (ws ≠ []) && decide (1 ≤ a) && decide (a ≤ 3) && ts.all okTo) := rfl
  rw [e1, e2, any_odd, List.length_map]
  have h1 : (ws.length == 0) = !decide (ws ≠ []) := by cases ws <;> simp
  have h2 : (a != 1 && a != 2 && a != 3) = !(decide (1 ≤ a) && decide (a ≤ 3)) := by
    by_cases h4 : a = 1
    · subst h4; rfl
    · by_cases h5 : a = 2
      · subst h5; rfl
      · by_cases h6 : a = 3
        · subst h6; rfl
        · have e4 : (a != 1) = true := by simpa using h4
          have e5 : (a != 2) = true := by simpa using h5
          have e6 : (a != 3) = true := by simpa using h6
          rw [e4, e5, e6]
          by_cases h : 1 ≤ a
          · have : ¬ a ≤ 3 := by omega
            simp [h, this]
          · simp [h]
  rw [h1, h2]
  cases decide (ws ≠ []) <;> cases decide (1 ≤ a) <;> cases decide (a ≤ 3) <;> cases ts.all okTo <;> rfl
theorem rightU_eq (cs : List Cmd) : rightU (cs.map toS) = rightS cs := by
  unfold rightU rightS
  have h1 : ∀ cs : List Cmd, (!(cs.map toS).any oddC) = cs.all okCmd := by
    intro cs
    induction cs with
    | nil => rfl
    | cons c cs ih => rw [List.map_cons, List.any_cons, oddC_eq, Bool.not_or, ih, Bool.not_not, List.all_cons]
  rw [h1]
  cases cs with
  | nil => rfl
  | cons c cs =>
    show (_ && (c.on == 1)) = (_ && decide (c.on = 1))
    congr 1
theorem Right_eq (cs : List Cmd) (h1 : cs.length < 1000000000) (h2 : ∀ c ∈ cs, c.tos.length < 1000000000) : parse_Right.f (cs.map toS) = some (rightS cs) := by
  unfold parse_Right.f
  rw [if_pos ⟨by rw [List.length_map]; exact h1, by
    intro z hz
    obtain ⟨c, hc, rfl⟩ := List.mem_map.1 hz
    show (c.tos.map toT).length < _
    rw [List.length_map]
    exact h2 c hc⟩, rightU_eq]

theorem toksAll_snoc (l : List Cmd) (c : Cmd) : toksAll (l ++ [c]) = toksAll l ++ (if l = [] then [] else [(c.on.toNat, [])]) ++ toksCmd c := by
  cases l with
  | nil => simp [toksAll]
  | cons d l => simp [toksAll, List.flatMap_append]
theorem rd_map {α β : Type} (f : α → β) (z : β) (l : List α) (i : Nat) (h : i < l.length) : (l.map f).getD ((i : Int)).toNat z = f l[i] := by
  rw [show ((i : Int)).toNat = i from rfl, List.getD_eq_getElem?_getD, List.getElem?_map, List.getElem?_eq_getElem h]
  rfl
section
variable {v : ByteArray × Int} (X14 : List S40) (x15 x16 : Int)
theorem shw_l2 (ts : List (Int × List UInt8)) (acc : List Tok) (hb : acc.length + 2 * ts.length < 4000000) (hok : ∀ t ∈ ts, okTo t = true)
    (H : Ev (fun k => parse_Show.l0 k ((acc ++ ts.flatMap toksTo).map s83) X14 x15 (wrap64 (x16 + 1))) v) :
    ∀ i, i ≤ ts.length → Ev (fun k => parse_Show.l2 k ((acc ++ (ts.take i).flatMap toksTo).map s83) X14 x15 x16 (ts.map toT) (ts.length : Int) (i : Int)) v := by
  refine upto_ind ?_ ?_
  · refine Ev.step (fun k => by rw [parse_Show.l2]) ?_
    refine Ev.neg (by omega) ?_
    rw [List.take_length]
    exact H
  · intro i hi ih
    refine Ev.step (fun k => by rw [parse_Show.l2]) ?_
    have r : rd_T42 (ts.map toT) (i : Int) = toT ts[i] := rd_map toT _ ts i hi
    rw [r, wrap_succ i (by omega)]
    refine Ev.pos (by omega) ?_
    refine Ev.pos (by omega) ?_
    refine Ev.pos (by rw [List.length_map]; omega) ?_
    have hlen : ((ts.take i).flatMap toksTo).length = 2 * i := by
      have : ∀ l : List (Int × List UInt8), (l.flatMap toksTo).length = 2 * l.length := by
        intro l
        induction l with
        | nil => rfl
        | cons a l ih => rw [List.flatMap_cons, List.length_append, ih]; simp [toksTo]; omega
      rw [this, List.length_take]; omega
    refine Ev.bind (Ev.of rfl) ?_
    refine Ev.pos (by simp only [List.length_map, List.length_append, hlen, List.length_cons, List.length_nil]; omega) ?_
    have hk := hok _ (List.getElem_mem hi)
    simp [okTo] at hk
    rw [List.take_succ_eq_append_getElem hi, List.flatMap_append] at ih
    have e : ((acc ++ (ts.take i).flatMap toksTo).map s83 ++ [(⟨(toT ts[i]).f0, (⟨#[]⟩ : ByteArray)⟩ : S66), (⟨0, (toT ts[i]).f1⟩ : S66)]) = (acc ++ ((ts.take i).flatMap toksTo ++ [ts[i]].flatMap toksTo)).map s83 := by
      have h0 : (((ts[i].1).toNat : Nat) : Int) = ts[i].1 := by omega
      rw [← List.append_assoc, List.map_append (l₂ := [ts[i]].flatMap toksTo)]
      congr 1
      simp only [List.flatMap_cons, List.flatMap_nil, List.append_nil, toksTo, List.map_cons, List.map_nil, s83, h0]
      rfl
    rw [e]
    exact ih
theorem shw_l1 (ws : List (List UInt8)) (ts : List (Int × List UInt8)) (on : Int) (acc : List Tok) (hb : acc.length + ws.length < 4000000)
    (H : Ev (fun k => parse_Show.l2 k ((acc ++ ws.map (fun x => (0, x))).map s83) X14 x15 x16 (ts.map toT) ((ts.map toT).length : Int) 0) v) :
    ∀ i, i ≤ ws.length → Ev (fun k => parse_Show.l1 k ((acc ++ (ws.take i).map (fun x => (0, x))).map s83) X14 x15 x16 (ws.map B) (ws.length : Int) (i : Int) on (ws.map B) (ts.map toT)) v := by
  refine upto_ind ?_ ?_
  · refine Ev.step (fun k => by rw [parse_Show.l1]) ?_
    refine Ev.neg (by omega) ?_
    rw [List.take_length]
    exact H
  · intro i hi ih
    refine Ev.step (fun k => by rw [parse_Show.l1]) ?_
    have r : rdOf ByteArray.empty (ws.map B) (i : Int) = B ws[i] := by
      rw [rdOf_get _ _ _ (by rw [List.length_map]; exact hi), List.getElem_map]
    rw [r, wrap_succ i (by omega)]
    refine Ev.pos (by omega) ?_
    refine Ev.pos (by omega) ?_
    refine Ev.pos (by rw [List.length_map]; omega) ?_
    refine Ev.pos (by simp only [List.length_map, List.length_append, List.length_take]; omega) ?_
    rw [List.take_succ_eq_append_getElem hi, List.map_append (f := fun x => ((0 : Nat), x))] at ih
    have e : ((acc ++ (ws.take i).map (fun x => ((0 : Nat), x))).map s83 ++ [(⟨0, B ws[i]⟩ : S66)]) = (acc ++ ((ws.take i).map (fun x => (0, x)) ++ [ws[i]].map (fun x => (0, x)))).map s83 := by
      rw [← List.append_assoc, List.map_append (l₂ := [ws[i]].map (fun x => ((0 : Nat), x)))]
      rfl
    rw [e]
    exact ih
end
theorem toksAll_len (l : List Cmd) : ∀ i, i ≤ l.length → (toksAll (l.take i)).length ≤ (toksAll l).length := by
  refine upto_ind (by rw [List.take_length]; exact Nat.le_refl _) ?_
  intro i hi ih
  rw [List.take_succ_eq_append_getElem hi, toksAll_snoc, List.length_append, List.length_append] at ih
  omega
theorem toksCmd_len (c : Cmd) : (toksCmd c).length = c.words.length + 2 * c.tos.length := by
  have : ∀ l : List (Int × List UInt8), (l.flatMap toksTo).length = 2 * l.length := by
    intro l
    induction l with
    | nil => rfl
    | cons a l ih => rw [List.flatMap_cons, List.length_append, ih]; simp [toksTo]; omega
  rw [toksCmd, List.length_append, List.length_map, this]
theorem show_loop (cs : List Cmd) (hb : (toksAll cs).length < 3000000) (hcl : cs.length < 4000000) (hr : rightS cs = true) (hlen : ∀ x ∈ toksAll cs, x.2.length < 4000000) (hj : (joinU ((toksAll cs).map show1)).length ≤ 140737488355328) :
    ∀ i, i ≤ cs.length → Ev (fun k => parse_Show.l0 k ((toksAll (cs.take i)).map s83) (cs.map toS) (cs.length : Int) (i : Int)) (B (joinU ((toksAll cs).map show1)), 0) := by
  refine upto_ind ?_ ?_
  · refine Ev.step (fun k => by rw [parse_Show.l0]) ?_
    refine Ev.neg (by omega) ?_
    rw [List.take_length]
    refine Ev.bind (Show_ev (toksAll cs) (by omega) (toksAll_ok cs hr) hlen hj) ?_
    exact Ev.ret _
  · intro i hi ih
    have hci : okCmd cs[i] = true := by
      unfold rightS at hr
      rw [Bool.and_eq_true] at hr
      exact List.all_eq_true.1 hr.1 _ (List.getElem_mem hi)
    have hci' := hci
    simp [okCmd] at hci
    obtain ⟨⟨⟨h1, h2⟩, h3⟩, h4⟩ := hci
    have hl1 := toksAll_len cs (i + 1) (by omega)
    rw [List.take_succ_eq_append_getElem hi, toksAll_snoc, List.length_append, List.length_append, toksCmd_len] at hl1
    refine Ev.step (fun k => by rw [parse_Show.l0]) ?_
    have r : rd_T40 (cs.map toS) (i : Int) = toS cs[i] := rd_map toS _ cs i hi
    rw [r]
    refine Ev.pos (by omega) ?_
    refine Ev.pos (by omega) ?_
    refine Ev.pos (by rw [List.length_map]; omega) ?_
    rw [List.take_succ_eq_append_getElem hi, toksAll_snoc] at ih
    -- behind the mark
    have tail : ∀ acc : List Tok, acc.length + (cs[i].words.length + 2 * cs[i].tos.length) < 4000000 → Ev (fun k => parse_Show.l0 k ((acc ++ toksCmd cs[i]).map s83) (cs.map toS) (cs.length : Int) ((i + 1 : Nat) : Int)) (B (joinU ((toksAll cs).map show1)), 0) →
        Ev (fun k => parse_Show.j1 k (acc.map s83) (cs.map toS) (cs.length : Int) (i : Int) (toS cs[i]).f0 (toS cs[i]).f1 (toS cs[i]).f2) (B (joinU ((toksAll cs).map show1)), 0) := by
      intro acc ha H
      refine Ev.step (fun k => by rw [parse_Show.j1]) ?_
      have e1 : (toS cs[i]).f1 = cs[i].words.map B := rfl
      have e2 : (toS cs[i]).f2 = cs[i].tos.map toT := rfl
      rw [e1, e2, List.length_map]
      have := shw_l1 (v := (B (joinU ((toksAll cs).map show1)), 0)) (cs.map toS) (cs.length : Int) (i : Int) cs[i].words cs[i].tos (toS cs[i]).f0 acc (by omega) (by
        have h2 := shw_l2 (v := (B (joinU ((toksAll cs).map show1)), 0)) (cs.map toS) (cs.length : Int) (i : Int) cs[i].tos (acc ++ cs[i].words.map (fun x => (0, x))) (by rw [List.length_append, List.length_map]; omega) (fun t ht => h4 t.1 t.2 ht) (by
          rw [List.append_assoc, wrap_succ i (by omega)]
          exact H) 0 (Nat.zero_le _)
        rw [List.length_map]
        simpa using h2) 0 (Nat.zero_le _)
      simpa using this
    by_cases h0 : i = 0
    · subst h0
      refine Ev.neg (by omega) ?_
      have := tail [] (by simp; omega) (by simpa [toksAll] using ih)
      simpa [toksAll] using this
    · refine Ev.pos (by omega) ?_
      refine Ev.pos (by rw [List.length_map]; omega) ?_
      have hne : ¬ cs.take i = [] := by
        intro e
        have := congrArg List.length e
        rw [List.length_take, List.length_nil] at this
        omega
      rw [if_neg hne] at ih hl1
      have hon : ((cs[i].on.toNat : Nat) : Int) = cs[i].on := by omega
      have e : (toksAll (cs.take i)).map s83 ++ [(⟨(toS cs[i]).f0, (⟨#[]⟩ : ByteArray)⟩ : S66)] = (toksAll (cs.take i) ++ [(cs[i].on.toNat, [])]).map s83 := by
        rw [List.map_append]
        congr 1
        show [(⟨cs[i].on, (⟨#[]⟩ : ByteArray)⟩ : S66)] = [⟨((cs[i].on.toNat : Nat) : Int), B []⟩]
        rw [hon]; rfl
      rw [e]
      refine tail (toksAll (cs.take i) ++ [(cs[i].on.toNat, [])]) ?_ ih
      rw [List.length_append]
      simp only [List.length_cons, List.length_nil] at hl1 ⊢
      omega
theorem pShow_ev (cs : List Cmd) (hb : (toksAll cs).length < 3000000) (hcl : cs.length < 4000000) (hts : ∀ c ∈ cs, c.tos.length < 1000000000) (hr : rightS cs = true) (hlen : ∀ x ∈ toksAll cs, x.2.length < 4000000) (hj : (joinU ((toksAll cs).map show1)).length ≤ 140737488355328) :
    Ev (fun k => parse_Show.f k (cs.map toS)) (B (joinU ((toksAll cs).map show1)), 0) := by
  refine Ev.congr (fun k => by rw [parse_Show.f]) ?_
  refine Ev.bind (Ev.of (Right_eq cs (by omega) hts)) ?_
  refine Ev.pos hr ?_
  have := show_loop cs hb hcl hr hlen hj 0 (Nat.zero_le _)
  simpa [toksAll] using this
theorem pShow_bad (cs : List Cmd) (hcl : cs.length < 4000000) (hts : ∀ c ∈ cs, c.tos.length < 1000000000) (hr : rightS cs = false) : Ev (fun k => parse_Show.f k (cs.map toS)) (B [], 1) := by
  refine Ev.congr (fun k => by rw [parse_Show.f]) ?_
  refine Ev.bind (Ev.of (Right_eq cs (by omega) hts)) ?_
  refine Ev.neg (by rw [hr]; simp) ?_
  exact Ev.ret _
end Go.Proofs.YtogbdjboblfokaaDoor.X
/- Sizes of a line's commands, and of what is shown; commands come back. Plain Lean; no program. -/
namespace Go.Proofs.YtogbdjboblfokaaDoor.X
set_option linter.unusedSimpArgs false
set_option linter.unusedVariables false

def wtC (c : Cmd) : Nat := 1 + c.words.length + 2 * c.tos.length
theorem flat_to (l : List (Int × List UInt8)) : (l.flatMap toksTo).length = 2 * l.length := by
  induction l with
  | nil => rfl
  | cons a l ih => rw [List.flatMap_cons, List.length_append, ih]; simp [toksTo]; omega
theorem toksCmd_len' (c : Cmd) : (toksCmd c).length = c.words.length + 2 * c.tos.length := by
  rw [toksCmd, List.length_append, List.length_map, flat_to]
theorem toksAll_wt (l : List Cmd) : (toksAll l).length ≤ (l.map wtC).sum := by
  have h : ∀ l : List Cmd, (l.flatMap (fun d => (d.on.toNat, ([] : List UInt8)) :: toksCmd d)).length = (l.map wtC).sum := by
    intro l
    induction l with
    | nil => rfl
    | cons c l ih =>
      rw [List.flatMap_cons, List.length_append, ih, List.map_cons, List.sum_cons, List.length_cons, toksCmd_len']
      unfold wtC; omega
  cases l with
  | nil => simp [toksAll]
  | cons c l =>
    rw [toksAll, List.length_append, h, toksCmd_len', List.map_cons, List.sum_cons]
    unfold wtC; omega
theorem len_wt (l : List Cmd) : l.length ≤ (l.map wtC).sum ∧ ∀ c ∈ l, c.words.length ≤ (l.map wtC).sum ∧ c.tos.length ≤ (l.map wtC).sum := by
  induction l with
  | nil => simp
  | cons c l ih =>
    rw [List.map_cons, List.sum_cons]
    refine ⟨by rw [List.length_cons]; unfold wtC at *; omega, fun d hd => ?_⟩
    rcases List.mem_cons.1 hd with rfl | hd
    · unfold wtC; omega
    · have := ih.2 d hd; omega
theorem cmdS_wt : ∀ n (l : List Tok) (on : Int) (ws : List (List UInt8)) (ts : List (Int × List UInt8)) (c : Cmd) (r : List Tok), l.length ≤ n → cmdS on ws ts l = some (c, r) → c.words.length + 2 * c.tos.length + r.length = ws.length + 2 * ts.length + l.length := by
  intro n
  induction n with
  | zero =>
    intro l on ws ts c r hl h
    have : l = [] := List.length_eq_zero_iff.1 (by omega)
    subst this
    rw [cmdS_nil] at h
    split at h
    · simp at h
    · simp at h; obtain ⟨rfl, rfl⟩ := h; simp
  | succ n ih =>
    intro l on ws ts c r hl h
    cases l with
    | nil =>
      rw [cmdS_nil] at h
      split at h
      · simp at h
      · simp at h; obtain ⟨rfl, rfl⟩ := h; simp
    | cons a l =>
      obtain ⟨k, x⟩ := a
      simp at hl
      by_cases h0 : k = 0
      · subst h0
        rw [cmdS_word] at h
        have := ih l _ _ _ _ _ hl h
        simp at this ⊢; omega
      · by_cases h4 : 4 ≤ k
        · by_cases hr : ∃ y r', l = (0, y) :: r'
          · obtain ⟨y, r', rfl⟩ := hr
            rw [cmdS_to _ _ _ k h4] at h
            simp at hl
            have := ih r' _ _ _ _ _ (by omega) h
            simp at this ⊢; omega
          · rw [cmdS_to0 _ _ _ k h4 x l (fun y r' e => hr ⟨y, r', e⟩)] at h
            simp at h
        · rw [cmdS_end _ _ _ k h0 h4] at h
          split at h
          · simp at h
          · simp at h
            obtain ⟨rfl, rfl⟩ := h
            simp
theorem cmdS_all (P : List UInt8 → Prop) : ∀ n (l : List Tok) (on : Int) (ws : List (List UInt8)) (ts : List (Int × List UInt8)) (c : Cmd) (r : List Tok), l.length ≤ n → (∀ x ∈ l, P x.2) → (∀ x ∈ ws, P x) → (∀ t ∈ ts, P t.2) → cmdS on ws ts l = some (c, r) → (∀ x ∈ c.words, P x) ∧ (∀ t ∈ c.tos, P t.2) := by
  intro n
  induction n with
  | zero =>
    intro l on ws ts c r hl hp hw ht h
    have : l = [] := List.length_eq_zero_iff.1 (by omega)
    subst this
    rw [cmdS_nil] at h
    split at h
    · simp at h
    · simp at h; obtain ⟨rfl, rfl⟩ := h; exact ⟨hw, ht⟩
  | succ n ih =>
    intro l on ws ts c r hl hp hw ht h
    cases l with
    | nil =>
      rw [cmdS_nil] at h
      split at h
      · simp at h
      · simp at h; obtain ⟨rfl, rfl⟩ := h; exact ⟨hw, ht⟩
    | cons a l =>
      obtain ⟨k, x⟩ := a
      simp at hl
      by_cases h0 : k = 0
      · subst h0
        rw [cmdS_word] at h
        refine ih l _ _ _ _ _ hl (fun y hy => hp y (by simp [hy])) ?_ ht h
        intro y hy
        rcases List.mem_append.1 hy with hy | hy
        · exact hw y hy
        · simp at hy; subst hy; exact hp (0, y) (by simp)
      · by_cases h4 : 4 ≤ k
        · by_cases hr : ∃ y r', l = (0, y) :: r'
          · obtain ⟨y, r', rfl⟩ := hr
            rw [cmdS_to _ _ _ k h4] at h
            simp at hl
            refine ih r' _ _ _ _ _ (by omega) (fun z hz => hp z (by simp [hz])) hw ?_ h
            intro t htt
            rcases List.mem_append.1 htt with htt | htt
            · exact ht t htt
            · simp at htt; subst htt; exact hp (0, y) (by simp)
          · rw [cmdS_to0 _ _ _ k h4 x l (fun y r' e => hr ⟨y, r', e⟩)] at h
            simp at h
        · rw [cmdS_end _ _ _ k h0 h4] at h
          split at h
          · simp at h
          · simp at h
            obtain ⟨rfl, rfl⟩ := h
            exact ⟨hw, ht⟩
theorem lineS_wt (P : List UInt8 → Prop) : ∀ n (l : List Tok) (out : List Cmd) (on : Int) (res : List Cmd), l.length ≤ n → (∀ x ∈ l, P x.2) → (∀ c ∈ out, (∀ x ∈ c.words, P x) ∧ (∀ t ∈ c.tos, P t.2)) → lineS out on l = some res →
    (res.map wtC).sum ≤ (out.map wtC).sum + l.length + 1 ∧ ∀ c ∈ res, (∀ x ∈ c.words, P x) ∧ (∀ t ∈ c.tos, P t.2) := by
  intro n
  induction n with
  | zero =>
    intro l out on res hl hp ho h
    have : l = [] := List.length_eq_zero_iff.1 (by omega)
    subst this
    rw [lineS_nil] at h
    simp at h; subst h
    exact ⟨by simp, ho⟩
  | succ n ih =>
    intro l out on res hl hp ho h
    by_cases hn : l = []
    · subst hn
      rw [lineS_nil] at h
      simp at h; subst h
      exact ⟨by simp, ho⟩
    · cases hc : cmdS on [] [] l with
      | none => rw [lineS_bad _ _ _ hn hc] at h; simp at h
      | some cr =>
        obtain ⟨c, r⟩ := cr
        have hwt := cmdS_wt _ l on [] [] c r (Nat.le_refl _) hc
        obtain ⟨_, ⟨p, hp2⟩, _⟩ := cmdS_rest _ l _ _ _ _ _ (Nat.le_refl _) hc
        have hall := cmdS_all P _ l on [] [] c r (Nat.le_refl _) hp (by simp) (by simp) hc
        have ho' : ∀ d ∈ out ++ [c], (∀ x ∈ d.words, P x) ∧ (∀ t ∈ d.tos, P t.2) := by
          intro d hd
          rcases List.mem_append.1 hd with hd | hd
          · exact ho d hd
          · simp at hd; subst hd; exact hall
        have hless := cmdS_less l on c r hc
        have hsum : ((out ++ [c]).map wtC).sum = (out.map wtC).sum + wtC c := by simp
        have hwc : wtC c = 1 + (c.words.length + 2 * c.tos.length) := by unfold wtC; omega
        simp only [List.length_nil, Nat.mul_zero, Nat.zero_add] at hwt
        cases r with
        | nil =>
          rw [lineS_last _ _ _ hn c hc] at h
          simp only [Option.some.injEq] at h
          subst h
          simp only [List.length_nil] at hwt
          exact ⟨by rw [hsum, hwc]; omega, ho'⟩
        | cons a m =>
          obtain ⟨k, x⟩ := a
          rw [lineS_more _ _ _ hn c k x m hc] at h
          split at h
          · simp at h
          · simp only [List.length_cons] at hwt hless
            obtain ⟨g1, g2⟩ := ih m _ _ res (by omega) (fun y hy => hp y (by rw [hp2]; simp [hy])) ho' h
            rw [hsum, hwc] at g1
            exact ⟨by omega, g2⟩
theorem toksAll_all (P : List UInt8 → Prop) (h0 : P []) (l : List Cmd) (h : ∀ c ∈ l, (∀ x ∈ c.words, P x) ∧ (∀ t ∈ c.tos, P t.2)) : ∀ x ∈ toksAll l, P x.2 := by
  have h1 : ∀ c : Cmd, ((∀ x ∈ c.words, P x) ∧ (∀ t ∈ c.tos, P t.2)) → ∀ x ∈ toksCmd c, P x.2 := by
    intro c hc x hx
    simp only [toksCmd, List.mem_append, List.mem_map, List.mem_flatMap] at hx
    rcases hx with ⟨y, hy, rfl⟩ | ⟨t, ht, hx⟩
    · exact hc.1 y hy
    · simp [toksTo] at hx
      rcases hx with rfl | rfl
      · exact h0
      · exact hc.2 t ht
  cases l with
  | nil => simp [toksAll]
  | cons c l =>
    intro x hx
    simp only [toksAll, List.mem_append, List.mem_flatMap] at hx
    rcases hx with hx | ⟨d, hd, hx⟩
    · exact h1 c (h c (by simp)) x hx
    · rcases List.mem_cons.1 hx with rfl | hx
      · exact h0
      · exact h1 d (h d (by simp [hd])) x hx
theorem shown_len (cs : List Cmd) (h1 : (toksAll cs).length ≤ 5000) (h2 : ∀ x ∈ toksAll cs, x.2.length ≤ 1000) : (joinU ((toksAll cs).map show1)).length ≤ 5000 * (4002 + 1) := by
  have h := joinU_len 4002 ((toksAll cs).map show1) (by
    intro x hx
    obtain ⟨y, hy, rfl⟩ := List.mem_map.1 hx
    have := show1_len y
    have := h2 y hy
    omega)
  rw [List.length_map] at h
  exact Nat.le_trans h (Nat.mul_le_mul_right _ h1)
end Go.Proofs.YtogbdjboblfokaaDoor.X
/- flatironlaw06.same at two lists that are one: true; as a contract; condition: fewer than 1000000000 commands, words and ways of each. -/
namespace Go.Proofs.YtogbdjboblfokaaDoor.X
open Go.RowKit Go.Proofs.YtogbdjboblfokaaDoorW.PrintWords Go.Proofs.YtogbdjboblfokaaDoorW.PrintLast Go.Proofs.YtogbdjboblfokaaDoorW.PrintMore Go.Proofs.YtogbdjboblfokaaDoor.XW05 Go.Proofs.YtogbdjboblfokaaDoor.XT06
set_option linter.unusedSimpArgs false
set_option linter.unusedVariables false

theorem equalS_loop (A : List ByteArray) (hl : A.length < 1000000000) : ∀ i, i ≤ A.length → Ev (fun k => slices_Equal_string_string.l0 k A A (A.length : Int) (i : Int)) true := by
  refine upto_ind ?_ ?_
  · refine Ev.step (fun k => by rw [slices_Equal_string_string.l0]) ?_
    refine Ev.neg (by omega) ?_
    exact Ev.ret _
  · intro i hi ih
    refine Ev.step (fun k => by rw [slices_Equal_string_string.l0]) ?_
    rw [wrap_succ i (by omega)]
    refine Ev.pos (by omega) ?_
    refine Ev.pos (by omega) ?_
    refine Ev.pos (by omega) ?_
    refine Ev.pos (by omega) ?_
    refine Ev.pos rfl ?_
    exact ih
theorem equalS_ev (A : List ByteArray) (hl : A.length < 1000000000) : Ev (fun k => slices_Equal_string_string.f k A A) true := by
  refine Ev.congr (fun k => by rw [slices_Equal_string_string.f]) ?_
  refine Ev.pos rfl ?_
  exact equalS_loop A hl 0 (Nat.zero_le _)
theorem equalT_loop (A : List S77) (hl : A.length < 1000000000) : ∀ i, i ≤ A.length → Ev (fun k => flatironref06_To.l0 k A A (A.length : Int) (i : Int)) true := by
  refine upto_ind ?_ ?_
  · refine Ev.step (fun k => by rw [flatironref06_To.l0]) ?_
    refine Ev.neg (by omega) ?_
    exact Ev.ret _
  · intro i hi ih
    refine Ev.step (fun k => by rw [flatironref06_To.l0]) ?_
    rw [wrap_succ i (by omega)]
    refine Ev.pos (by omega) ?_
    refine Ev.pos (by omega) ?_
    refine Ev.pos (by omega) ?_
    refine Ev.pos (by omega) ?_
    refine Ev.neg (by simp) ?_
    exact ih
theorem equalT_ev (A : List S77) (hl : A.length < 1000000000) : Ev (fun k => flatironref06_To.f k A A) true := by
  refine Ev.congr (fun k => by rw [flatironref06_To.f]) ?_
  refine Ev.pos rfl ?_
  exact equalT_loop A hl 0 (Nat.zero_le _)
theorem refRow {w : World} {A : Option Addr} {n : Nat} {xs : List S73} (h : Kd.C k73 w A n xs) (hn : 0 < n) :
    ∃ b o, A = some ⟨b, o, none⟩ ∧ b < w.heap.size ∧ ∀ (j : Nat) (hj : j < xs.length), ∃ A1 c1 A2 c2, w.cell? ⟨b, o + j * 3, none⟩ = some (.int .i64 xs[j].f0) ∧ w.cell? ⟨b, o + j * 3 + 1, none⟩ = some (.slice A1 xs[j].f1.length c1) ∧ w.cell? ⟨b, o + j * 3 + 2, none⟩ = some (.slice A2 xs[j].f2.length c2) ∧
      xs[j].f1.length ≤ c1 ∧ Kd.string.C w A1 xs[j].f1.length xs[j].f1 ∧ xs[j].f2.length ≤ c2 ∧ Kd.C k77 w A2 xs[j].f2.length xs[j].f2 := by
  obtain ⟨b, o, rfl, hb, hc⟩ := C_form h hn (show 0 < k73.sz by decide)
  refine ⟨b, o, rfl, hb, fun j hj => ?_⟩
  obtain ⟨c, hcl, hk, hcc⟩ := hc j hj
  obtain ⟨A1, c1, A2, c2, rfl, l1, g1, l2, g2⟩ := k73_open hk
  exact ⟨A1, c1, A2, c2, hcc 0 _ rfl, hcc 1 _ rfl, hcc 2 _ rfl, l1, g1, l2, g2⟩
/-- A command's value reads as x. -/
def ReadsC (w : World) (x : S73) (A1 : Option Addr) (c1 : Nat) (A2 : Option Addr) (c2 : Nat) : Prop := x.f1.length ≤ c1 ∧ Kd.string.C w A1 x.f1.length x.f1 ∧ x.f2.length ≤ c2 ∧ Kd.C k77 w A2 x.f2.length x.f2
theorem ReadsC.below {w W : World} {x : S73} {A1 A2 : Option Addr} {c1 c2 : Nat} (h : ReadsC w x A1 c1 A2 c2) (hb : Below w.heap.size w W) : ReadsC W x A1 c1 A2 c2 := ⟨h.1, Kd.C_below h.2.1 hb, h.2.2.1, Kd.C_below h.2.2.2 hb⟩
set_option maxRecDepth 100000 in
set_option maxHeartbeats 4000000 in
theorem sameLit_calls (x : S73) (A1 A2 B1 B2 : Option Addr) (c1 c2 d1 d2 : Nat) (w : World) (h : ReadsC w x A1 c1 A2 c2) (h' : ReadsC w x B1 d1 B2 d2) (hl1 : x.f1.length < 1000000000) (hl2 : x.f2.length < 1000000000) :
    Calls Tryd.prog 25 #[.agg #[.int .i64 x.f0, .slice A1 x.f1.length c1, .slice A2 x.f2.length c2], .agg #[.int .i64 x.f0, .slice B1 x.f1.length d1, .slice B2 x.f2.length d2]] w fun e w' => e = .returned (.bool true) ∧ Below w.heap.size w w' := by
  obtain ⟨k1, hk1⟩ := (equalS_ev x.f1 hl1).get
  obtain ⟨k2, hk2⟩ := (equalT_ev x.f2 hl2).get
  obtain ⟨a, ws, ts⟩ := x
  simp only at h h' hl1 hl2 hk1 hk2 ⊢
  have b1 := blk_alloc (blk_new w (.cells #[.int .i64 a, .slice A1 ws.length c1, .slice A2 ts.length c2] 73 (0, 0))) (.cells #[.int .i64 a, .slice B1 ws.length d1, .slice B2 ts.length d2] 73)
  have b2 := blk_new (w.alloc (.cells #[.int .i64 a, .slice A1 ws.length c1, .slice A2 ts.length c2] 73)) (.cells #[.int .i64 a, .slice B1 ws.length d1, .slice B2 ts.length d2] 73 (0, 0))
  rw [show (w.alloc (.cells #[.int .i64 a, .slice A1 ws.length c1, .slice A2 ts.length c2] 73)).heap.size = w.heap.size + 1 by simp] at b2
  have HB := Aside0.mk (show Below w.heap.size w ((w.alloc (.cells #[.int .i64 a, .slice A1 ws.length c1, .slice A2 ts.length c2] 73)).alloc (.cells #[.int .i64 a, .slice B1 ws.length d1, .slice B2 ts.length d2] 73)) from below_alloc (below_alloc (Below.refl _ _) _) _)
  have HH := Aside0.mk (And.intro (h.below HB.out) (h'.below HB.out))
  have HN1 := Aside0.mk b1
  have HN2 := Aside0.mk b2
  have e0 := blk_cell b1 0
  have e1 := blk_cell b1 1
  have g0 := blk_cell b2 0
  have g1 := blk_cell b2 1
  have HK1 := Aside0.mk hk1
  have HK2 := Aside0.mk hk2
  clear h h' b1 b2 hk1 hk2
  go_enter Tryd.func25, Tryd.ntmps25
  go_wp2_with (first | (go_at_call 26; refine (slices_Equal_string_string.calls k1 A1 c1 ws B1 d1 ws true _ HH.out.1.2.1 HH.out.1.1 HH.out.2.2.1 HH.out.2.1 HK1.out).mono ?_; rintro ea wa ⟨rfl, hda⟩; have ba := blk_below HN1.out hda.below; have bb := blk_below HN2.out hda.below; have e2 := blk_cell ba 2; have g2 := blk_cell bb 2; have HDA := Aside0.mk hda.below; clear hda ba bb) | (go_at_call 27; refine (flatironref06_To.calls k2 A2 c2 ts B2 d2 ts true _ (HH.out.1.below HDA.out).2.2.2 HH.out.1.2.2.1 (HH.out.2.below HDA.out).2.2.2 HH.out.2.2.2.1 HK2.out).mono ?_; rintro eb wb ⟨rfl, hdb⟩; have HDB := Aside0.mk (below_step (below_step HB.out HDA.out) hdb.below); clear hdb))
  go_ret
  exact ⟨rfl, HDB.out⟩
set_option maxRecDepth 100000 in
set_option maxHeartbeats 4000000 in
theorem equalF_calls (A0 A1 : Option Addr) (c0 c1 : Nat) (zs : List S73) (w : World) (h : Kd.C k73 w A0 zs.length zs) (h' : Kd.C k73 w A1 zs.length zs) (hl : zs.length < 1000000000) (hls : ∀ z ∈ zs, z.f1.length < 1000000000 ∧ z.f2.length < 1000000000) :
    Calls Tryd.prog 24 #[.slice A0 zs.length c0, .slice A1 zs.length c1, .func (.func 25) #[] #[]] w fun e w' => e = .returned (.bool true) ∧ Below w.heap.size w w' := by
  have HC := Aside0.mk h
  have HC' := Aside0.mk h'
  have HLS := Aside0.mk hls
  clear h h' hls
  go_enter Tryd.func24, Tryd.ntmps24
  go_wp2
  go_loopg [17] zs.length (fun g v17 wr => ∃ (kk : Nat) (wo : World), wo = wr ∧ kk ≤ zs.length ∧ zs.length - kk ≤ g ∧ v17 = .int .i64 (kk : Int) ∧ Aside0 (Below w.heap.size w wo))
  case atStart => exact ⟨0, _, rfl, Nat.zero_le _, by omega, rfl, ⟨Below.refl _ _⟩⟩
  case round =>
    obtain ⟨kk, wo, rfl, hkk, hg, rfl, HB⟩ := hrel
    by_cases hlt : kk < zs.length
    · obtain ⟨b, o, rfl, hb, hcc⟩ := refRow (Kd.C_below HC.out HB.out) (by omega)
      obtain ⟨b', o', rfl, hb', hcc'⟩ := refRow (Kd.C_below HC'.out HB.out) (by omega)
      obtain ⟨P1, p1, P2, p2, d0, d1, d2, dr⟩ := hcc kk hlt
      obtain ⟨Q1, q1, Q2, q2, f0, f1, f2, fr⟩ := hcc' kk hlt
      obtain ⟨z, hz⟩ : ∃ z, zs[kk] = z := ⟨_, rfl⟩
      rw [hz] at d0 d1 d2 dr f0 f1 f2 fr
      have hzl := HLS.out z (by rw [← hz]; exact List.getElem_mem _)
      have X1 : Below wo.heap.size wo (wo.alloc (.cells #[.int .i64 z.f0, .slice P1 z.f1.length p1, .slice P2 z.f2.length p2] 73)) := below_alloc (Below.refl _ _) _
      have X2 := below_alloc X1 (.cells #[.int .i64 z.f0, .slice Q1 z.f1.length q1, .slice Q2 z.f2.length q2] 73)
      have f0' := (X1.cell (World.block_lt_of_cell? wo _ f0)).trans f0
      have f1' := (X1.cell (World.block_lt_of_cell? wo _ f1)).trans f1
      have f2' := (X1.cell (World.block_lt_of_cell? wo _ f2)).trans f2
      have n1 := blk_alloc (blk_new wo (.cells #[.int .i64 z.f0, .slice P1 z.f1.length p1, .slice P2 z.f2.length p2] 73 (0, 0))) (.cells #[.int .i64 z.f0, .slice Q1 z.f1.length q1, .slice Q2 z.f2.length q2] 73)
      have n2 := blk_new (wo.alloc (.cells #[.int .i64 z.f0, .slice P1 z.f1.length p1, .slice P2 z.f2.length p2] 73)) (.cells #[.int .i64 z.f0, .slice Q1 z.f1.length q1, .slice Q2 z.f2.length q2] 73 (0, 0))
      rw [show (wo.alloc (.cells #[.int .i64 z.f0, .slice P1 z.f1.length p1, .slice P2 z.f2.length p2] 73)).heap.size = wo.heap.size + 1 by simp] at n2
      have n10 := blk_cell n1 0
      have n11 := blk_cell n1 1
      have n12 := blk_cell n1 2
      have n20 := blk_cell n2 0
      have n21 := blk_cell n2 1
      have n22 := blk_cell n2 2
      have HR := Aside0.mk (And.intro (ReadsC.below (show ReadsC wo z P1 p1 P2 p2 from dr) X2) (ReadsC.below (show ReadsC wo z Q1 q1 Q2 q2 from fr) X2))
      have HX := Aside0.mk (below_step HB.out X2)
      have HZL := Aside0.mk hzl
      clear hcc hcc' hz dr fr X1 X2 n1 n2 hzl
      go_wp2_with (go_at_call 25; refine (sameLit_calls z P1 P2 Q1 Q2 p1 p2 q1 q2 _ HR.out.1 HR.out.2 HZL.out.1 HZL.out.2).mono ?_; rintro e2 w2 ⟨rfl, hb2⟩; have HB2 := Aside0.mk (below_step HX.out hb2); clear hb2)
      go_roundg (gk - 1)
      case measure => omega
      case rel => exact ⟨kk + 1, _, rfl, by omega, by omega, by go_num, HB2⟩
    · go_wp2
      go_ret
      exact ⟨rfl, HB.out⟩
set_option maxRecDepth 100000 in
theorem same_calls (A0 A1 : Option Addr) (c0 c1 : Nat) (zs : List S73) (w : World) (h : Kd.C k73 w A0 zs.length zs) (h' : Kd.C k73 w A1 zs.length zs) (hl : zs.length < 1000000000) (hls : ∀ z ∈ zs, z.f1.length < 1000000000 ∧ z.f2.length < 1000000000) :
    Calls Tryd.prog 10 #[.slice A0 zs.length c0, .slice A1 zs.length c1] w fun e w' => e = .returned (.bool true) ∧ Below w.heap.size w w' := by
  have HC := Aside0.mk h
  have HC' := Aside0.mk h'
  have HLS := Aside0.mk hls
  clear h h' hls
  go_enter Tryd.func10, Tryd.ntmps10
  go_wp2_with (go_at_call 24; refine (equalF_calls A0 A1 c0 c1 zs _ HC.out HC'.out hl HLS.out).mono ?_; rintro e2 w2 ⟨rfl, hb2⟩)
  go_ret
  exact ⟨rfl, hb2⟩
end Go.Proofs.YtogbdjboblfokaaDoor.X
/- The law ParseLines, walked: for every text it answers true. -/
namespace Go.Proofs.YtogbdjboblfokaaDoor.X
open Go.RowKit Go.Proofs.YtogbdjboblfokaaDoorW.PrintWords Go.Proofs.YtogbdjboblfokaaDoorW.PrintLast Go.Proofs.YtogbdjboblfokaaDoorW.PrintMore Go.Proofs.YtogbdjboblfokaaDoor.XW05 Go.Proofs.YtogbdjboblfokaaDoor.XT06 Go.Proofs.YtogbdjboblfokaaDoor.XW06
set_option linter.unusedSimpArgs false
set_option linter.unusedVariables false

theorem parse_back (cs : List Cmd) (h : rightS cs = true) : parseU (joinU ((toksAll cs).map show1)) = some cs := by
  unfold parseU
  rw [tokS_show (toksAll cs) (toksAll_ok cs h) []]
  exact lineS_shown cs h
/-- Few commands, with short texts. -/
def smallC (cs : List Cmd) : Prop := cs.length ≤ 3000 ∧ (toksAll cs).length ≤ 5000 ∧ (∀ x ∈ toksAll cs, x.2.length ≤ 1000) ∧ ∀ c ∈ cs, c.words.length ≤ 3000 ∧ c.tos.length ≤ 3000
theorem parseU_small (l : List UInt8) (hl : l.length ≤ 1000) (cs : List Cmd) (h : parseU l = some cs) : smallC cs ∧ rightS cs = true := by
  unfold parseU at h
  cases ht : tokS [] l with
  | none => rw [ht] at h; simp at h
  | some toks =>
    rw [ht] at h
    simp only at h
    obtain ⟨h1, h2⟩ := tokS_len 1000 _ l [] toks (Nat.le_refl _) hl (by simp) ht
    simp only [List.length_nil, Nat.zero_add] at h1
    have h6 : ∀ x ∈ toks, x.1 ≤ 6 := by
      intro x hx
      rcases tokS_ok _ l [] toks (Nat.le_refl _) (by simp) ht x hx with h | h
      · omega
      · exact h.2.1
    obtain ⟨g1, g2⟩ := lineS_wt (fun t => t.length ≤ 1000) _ toks [] 1 cs (Nat.le_refl _) h2 (by simp) h
    simp only [List.map_nil, List.sum_nil, Nat.zero_add] at g1
    have g3 := toksAll_wt cs
    obtain ⟨g4, g5⟩ := len_wt cs
    exact ⟨⟨by omega, by omega, toksAll_all (fun t => t.length ≤ 1000) (by simp) cs g2, fun c hc => by have := g5 c hc; omega⟩, lineS_right toks cs h6 h⟩
theorem smallC_S {cs : List Cmd} (h : smallC cs) : ∀ z ∈ cs.map toS, z.f2.length < 1000000000 := by
  intro z hz
  obtain ⟨c, hc, rfl⟩ := List.mem_map.1 hz
  have := (h.2.2.2 c hc).2
  show (c.tos.map toT).length < _
  rw [List.length_map]; omega
theorem smallC_R {cs : List Cmd} (h : smallC cs) : ∀ z ∈ cs.map rC, z.f1.length < 1000000000 ∧ z.f2.length < 1000000000 := by
  intro z hz
  obtain ⟨c, hc, rfl⟩ := List.mem_map.1 hz
  have := h.2.2.2 c hc
  rw [rC_eq]
  constructor
  · show (c.words.map B).length < _
    rw [List.length_map]; omega
  · show (c.tos.map rT).length < _
    rw [List.length_map]; omega

/-! the calls, over commands -/
theorem ln_some (l : List UInt8) (hl : l.length < 500000000) (cs : List Cmd) (h : parseU l = some cs) (w : World) :
    Calls Tryd.prog 7 #[.string (B l)] w fun e w' => ∃ A c, e = .returned (.tuple #[.slice A cs.length c, .int .i64 0]) ∧ cs.length ≤ c ∧ Kd.C k40 w' A cs.length (cs.map toS) ∧ Below w.heap.size w w' := by
  refine (parse_Line.calls (B l) (cs.map toS) 0 w (by unfold parse_Line.f; rw [if_pos (by rw [B_size]; exact hl), B_data, h]; rfl)).mono ?_
  rintro e w1 ⟨v, rfl, hS, hb⟩
  obtain ⟨A, c, ev, hc, hC⟩ := Kd.S_reads hS
  subst ev
  rw [List.length_map] at hc hC ⊢
  exact ⟨A, c, rfl, hc, hC, hb⟩
theorem ln_none (l : List UInt8) (hl : l.length < 500000000) (h : parseU l = none) (w : World) :
    Calls Tryd.prog 7 #[.string (B l)] w fun e w' => ∃ A c, e = .returned (.tuple #[.slice A 0 c, .int .i64 6]) ∧ Below w.heap.size w w' := by
  refine (parse_Line.calls (B l) [] 6 w (by unfold parse_Line.f; rw [if_pos (by rw [B_size]; exact hl), B_data, h]; rfl)).mono ?_
  rintro e w1 ⟨v, rfl, hS, hb⟩
  obtain ⟨A, c, ev⟩ := Kd.S_slice hS
  subst ev
  exact ⟨A, c, rfl, hb⟩
theorem sh_ok (cs : List Cmd) (hs : smallC cs) (hr : rightS cs = true) (A : Option Addr) (c : Nat) (w : World) (hSH : Shp w) (hC : Kd.C k40 w A cs.length (cs.map toS)) (hc : cs.length ≤ c) :
    Calls Tryd.prog 9 #[.slice A cs.length c] w fun e w' => e = .returned (.tuple #[.string (B (joinU ((toksAll cs).map show1))), .int .i64 0]) ∧ Below w.heap.size w w' := by
  have hj := shown_len cs hs.2.1 hs.2.2.1
  obtain ⟨k, hk⟩ := (pShow_ev cs (by have := hs.2.1; omega) (by have := hs.1; omega) (fun d hd => by have := (hs.2.2.2 d hd).2; omega) hr (fun x hx => by have := hs.2.2.1 x hx; omega) (by omega)).get
  have := parse_Show.calls k A c (cs.map toS) _ 0 w hSH (by rw [List.length_map]; exact hC) (by rw [List.length_map]; exact hc) hk
  rw [List.length_map] at this
  exact this
theorem rt_ok (cs : List Cmd) (hs : smallC cs) (A : Option Addr) (c : Nat) (w : World) (hC : Kd.C k40 w A cs.length (cs.map toS)) (hc : cs.length ≤ c) :
    Calls Tryd.prog 12 #[.slice A cs.length c] w fun e w' => e = .returned (.bool (rightS cs)) ∧ Below w.heap.size w w' := by
  have := parse_Right.calls A c (cs.map toS) _ w (by rw [List.length_map]; exact hC) (by rw [List.length_map]; exact hc) (Right_eq cs (by have := hs.1; omega) (fun d hd => by have := (hs.2.2.2 d hd).2; omega))
  rw [List.length_map] at this
  exact this
theorem of_ok (cs : List Cmd) (hs : smallC cs) (A : Option Addr) (c : Nat) (w : World) (hC : Kd.C k40 w A cs.length (cs.map toS)) :
    Calls Tryd.prog 11 #[.slice A cs.length c] w fun e w' => ∃ A' c', e = .returned (.slice A' cs.length c') ∧ cs.length ≤ c' ∧ Kd.C k73 w' A' cs.length (cs.map rC) ∧ Below w.heap.size w w' := by
  have := of_calls A c (cs.map toS) w (by rw [List.length_map]; exact hC) (by rw [List.length_map]; have := hs.1; omega) (smallC_S hs)
  rw [List.length_map, List.map_map] at this
  exact this
theorem sm_ok (cs : List Cmd) (hs : smallC cs) (A A1 : Option Addr) (c c1 : Nat) (w : World) (hC : Kd.C k73 w A cs.length (cs.map rC)) (hC' : Kd.C k73 w A1 cs.length (cs.map rC)) :
    Calls Tryd.prog 10 #[.slice A cs.length c, .slice A1 cs.length c1] w fun e w' => e = .returned (.bool true) ∧ Below w.heap.size w w' := by
  have := same_calls A A1 c c1 (cs.map rC) w (by rw [List.length_map]; exact hC) (by rw [List.length_map]; exact hC') (by rw [List.length_map]; have := hs.1; omega) (smallC_R hs)
  rw [List.length_map] at this
  exact this

theorem lives_toks : tokS [] [97, 32, 62, 120, 32, 38, 38, 32, 98] = some [(0, [97]), (4, []), (0, [120]), (2, []), (0, [98])] := by
  rw [tokS_word [] 97 _ (by decide) (by decide) [97] [32, 62, 120, 32, 38, 38, 32, 98] (by rw [wS_one _ _ _ (by decide) (by decide) (by decide) (by decide), wS_stop _ _ _ (by decide)]; rfl)]
  rw [tokS_blk _ 32 _ (by decide)]
  rw [tokS_mark _ 62 _ (by decide) 4 1 [120, 32, 38, 38, 32, 98] (by decide)]
  rw [tokS_word _ 120 _ (by decide) (by decide) [120] [32, 38, 38, 32, 98] (by rw [wS_one _ _ _ (by decide) (by decide) (by decide) (by decide), wS_stop _ _ _ (by decide)]; rfl)]
  rw [tokS_blk _ 32 _ (by decide)]
  rw [tokS_mark _ 38 _ (by decide) 2 2 [32, 98] (by decide)]
  rw [tokS_blk _ 32 _ (by decide)]
  rw [tokS_word _ 98 _ (by decide) (by decide) [98] [] (by rw [wS_one _ _ _ (by decide) (by decide) (by decide) (by decide), wS_nil]; rfl)]
  rw [tokS_nil]
  rfl
theorem lives_line : parseU [97, 32, 62, 120, 32, 38, 38, 32, 98] = some [⟨1, [[97]], [(4, [120])]⟩, ⟨2, [[98]], []⟩] := by
  unfold parseU
  rw [lives_toks]
  show lineS [] 1 _ = _
  rw [lineS_more [] 1 _ (by simp) ⟨1, [[97]], [(4, [120])]⟩ 2 [] [(0, [98])] (by rw [cmdS_word, cmdS_to _ _ _ 4 (by decide), cmdS_end _ _ _ 2 (by decide) (by decide)]; rfl)]
  rw [if_neg (by simp)]
  rw [lineS_last _ _ _ (by simp) ⟨2, [[98]], []⟩ (by rw [cmdS_word, cmdS_nil]; rfl)]
  rfl
theorem lives06 : flatironlaw06_lives.f = some true := by
  unfold flatironlaw06_lives.f
  have h : parse_Line.f (⟨#[97, 32, 62, 120, 32, 38, 38, 32, 98]⟩ : ByteArray) = some (resL (some [⟨1, [[97]], [(4, [120])]⟩, ⟨2, [[98]], []⟩])) := by
    unfold parse_Line.f
    rw [if_pos (by decide)]
    exact congrArg (fun o => some (resL o)) lives_line
  rw [h]
  simp [resL, toS, toT, rd_T40, rd_T42, B_toList]

end Go.Proofs.YtogbdjboblfokaaDoor.X
/- The reference's Right, Quote and Shows, at commands: plain Lean. -/
namespace Go.Proofs.YtogbdjboblfokaaDoor.X
open Go.RowKit Go.Proofs.YtogbdjboblfokaaDoorW.PrintWords Go.Proofs.YtogbdjboblfokaaDoorW.PrintLast Go.Proofs.YtogbdjboblfokaaDoorW.PrintMore Go.Proofs.YtogbdjboblfokaaDoor.XW05 Go.Proofs.YtogbdjboblfokaaDoor.XT06 Go.Proofs.YtogbdjboblfokaaDoor.XW06
set_option linter.unusedSimpArgs false
set_option linter.unusedVariables false

theorem joinU_snoc : ∀ (A : List (List UInt8)) (x : List UInt8), joinU (A ++ [x]) = if A = [] then x else joinU A ++ 32 :: x
  | [], x => rfl
  | [a], x => by simp [joinU]
  | a :: b :: r, x => by
    have ih := joinU_snoc (b :: r) x
    rw [if_neg (by simp)] at ih
    rw [if_neg (by simp)]
    show joinU (a :: ((b :: r) ++ [x])) = joinU (a :: b :: r) ++ 32 :: x
    have e1 : joinU (a :: ((b :: r) ++ [x])) = a ++ 32 :: joinU ((b :: r) ++ [x]) := rfl
    have e2 : joinU (a :: b :: r) = a ++ 32 :: joinU (b :: r) := rfl
    rw [e1, e2, ih]
    simp
theorem hasQ_ev (b : UInt8) : Ev (fun k => flatironref05_has.f k (⟨#[32, 9, 10, 59, 38, 124, 60, 62, 39, 34, 92]⟩ : ByteArray) (b.toNat : Int)) (oddU b) := by
  refine Ev.congr (fun k => by rw [flatironref05_has.f]) ?_
  exact has_loop [32, 9, 10, 59, 38, 124, 60, 62, 39, 34, 92] b (by decide) 0 (Nat.zero_le _)
theorem flat_snoc (t : List UInt8) (b : UInt8) : flat (t ++ [b]) = flat t ++ (if b = 39 then [39, 92, 39, 39] else [b]) := by simp [flat, List.flatMap_append]
theorem refQuote_loop (t : List UInt8) (ht : t.length < 4000000) : ∀ i, i ≤ t.length → Ev (fun k => flatironref05_Quote.l0 k (B t) (decide (t ≠ []) && (t.take i).all (fun b => !oddU b)) (B (39 :: flat (t.take i))) (i : Int)) (B (quoteU t)) := by
  refine upto_ind ?_ ?_
  · rw [List.take_length]
    refine Ev.step (fun k => by rw [flatironref05_Quote.l0]) ?_
    refine Ev.neg (by rw [B_size]; omega) ?_
    by_cases hp : plainU t = true
    · refine Ev.pos hp ?_
      refine Ev.eq (Ev.ret _) ?_
      rw [quoteU, if_pos hp]
    · refine Ev.neg hp ?_
      have hf := flat_len t
      refine Ev.pos (by rw [B_size]; simp; omega) ?_
      refine Ev.eq (Ev.ret _) ?_
      rw [quoteU, if_neg hp, show (⟨#[39]⟩ : ByteArray) = B [39] from rfl, B_append]
      rfl
  · intro i hi ih
    have hb := bt_B t i hi
    have hw := wrap_succ i (by omega)
    have hf := flat_len (t.take i)
    have hti : (t.take i).length = i := by rw [List.length_take]; omega
    rw [hti] at hf
    have hsz : (B (39 :: flat (t.take i))).size = 1 + (flat (t.take i)).length := by rw [B_size]; simp; omega
    have hx : (B t).extract ((i : Int)).toNat (((i + 1 : Nat) : Int)).toNat = B [t[i]] := by
      rw [show ((i : Int)).toNat = i from rfl, show (((i + 1 : Nat) : Int)).toNat = i + 1 from rfl, B_extract, one_at t i hi]
    rw [List.take_succ_eq_append_getElem hi, flat_snoc, List.all_append] at ih
    simp only [List.all_cons, List.all_nil, Bool.and_true] at ih
    refine Ev.step (fun k => by rw [flatironref05_Quote.l0]) ?_
    rw [hb, hw, hx]
    refine Ev.pos (by rw [B_size]; omega) ?_
    refine Ev.pos (by omega) ?_
    refine Ev.bind (hasQ_ev t[i]) ?_
    have plainStep : ∀ p : Bool, ¬ t[i] = 39 → Ev (fun k => flatironref05_Quote.l0 k (B t) p (B (39 :: flat (t.take i) ++ [t[i]])) ((i + 1 : Nat) : Int)) (B (quoteU t)) →
        Ev (fun k => if (i : Int) ≤ ((i + 1 : Nat) : Int) then (if ((i + 1 : Nat) : Int) ≤ ((B t).size : Int) then (if (B (39 :: flat (t.take i))).size + ((((i + 1 : Nat) : Int)).toNat - ((i : Int)).toNat) ≤ 9223372036854775807 then flatironref05_Quote.l0 k (B t) p (B (39 :: flat (t.take i)) ++ B [t[i]]) ((i + 1 : Nat) : Int) else none) else none) else none) (B (quoteU t)) := by
      intro p _ h
      refine Ev.pos (by omega) ?_
      refine Ev.pos (by rw [B_size]; omega) ?_
      refine Ev.pos (by rw [hsz]; omega) ?_
      rw [B_append]
      exact h
    have qStep : ∀ p : Bool, Ev (fun k => flatironref05_Quote.l0 k (B t) p (B (39 :: flat (t.take i) ++ [39, 92, 39, 39])) ((i + 1 : Nat) : Int)) (B (quoteU t)) → t[i] = 39 →
        Ev (fun k => if (B (39 :: flat (t.take i))).size + 3 ≤ 9223372036854775807 then (if (i : Int) ≤ ((i + 1 : Nat) : Int) then (if ((i + 1 : Nat) : Int) ≤ ((B t).size : Int) then (if ((B (39 :: flat (t.take i))).size + 3) + ((((i + 1 : Nat) : Int)).toNat - ((i : Int)).toNat) ≤ 9223372036854775807 then flatironref05_Quote.l0 k (B t) p ((B (39 :: flat (t.take i)) ++ (⟨#[39, 92, 39]⟩ : ByteArray)) ++ B [t[i]]) ((i + 1 : Nat) : Int) else none) else none) else none) else none) (B (quoteU t)) := by
      intro p h h39
      refine Ev.pos (by rw [hsz]; omega) ?_
      refine Ev.pos (by omega) ?_
      refine Ev.pos (by rw [B_size]; omega) ?_
      refine Ev.pos (by rw [hsz]; omega) ?_
      rw [show (⟨#[39, 92, 39]⟩ : ByteArray) = B [39, 92, 39] from rfl, B_append, B_append, h39]
      have e : 39 :: flat (t.take i) ++ [39, 92, 39] ++ [39] = 39 :: flat (t.take i) ++ [39, 92, 39, 39] := by simp
      rw [e]
      exact h
    by_cases ho : oddU t[i] = true
    · refine Ev.pos ho ?_
      rw [ho] at ih
      simp only [Bool.not_true, Bool.and_false] at ih
      by_cases h39 : t[i] = 39
      · refine Ev.pos (by rw [h39]; rfl) ?_
        rw [if_pos h39] at ih
        exact qStep false ih h39
      · refine Ev.neg (fun h => h39 ((u8_num t[i] 39 (by omega)) ▸ h)) ?_
        rw [if_neg h39] at ih
        exact plainStep false h39 ih
    · have ho' : oddU t[i] = false := by simpa using ho
      refine Ev.neg ho ?_
      rw [ho'] at ih
      simp only [Bool.not_false, Bool.and_true] at ih
      have h39 : ¬ t[i] = 39 := by
        intro h
        rw [h] at ho'
        exact absurd ho' (by decide)
      refine Ev.neg (fun h => h39 ((u8_num t[i] 39 (by omega)) ▸ h)) ?_
      rw [if_neg h39] at ih
      exact plainStep _ h39 ih
theorem refQuote_ev (t : List UInt8) (ht : t.length < 4000000) : Ev (fun k => flatironref05_Quote.f k (B t)) (B (quoteU t)) := by
  refine Ev.congr (fun k => by rw [flatironref05_Quote.f]) ?_
  have h := refQuote_loop t ht 0 (Nat.zero_le _)
  have e : ((B t).toList != ([] : List UInt8)) = (decide (t ≠ []) && (t.take 0).all (fun b => !oddU b)) := by
    rw [B_toList]
    cases t <;> rfl
  rw [e]
  exact h
theorem refShow5_loop (T : List Tok) (hT : T.length < 4000000) (hok : ∀ x ∈ T, okTok x) (hlen : ∀ x ∈ T, x.2.length < 4000000) (hj : ∀ i, i ≤ T.length → (joinU ((T.take i).map show1)).length ≤ 140737488355328) :
    ∀ i, i ≤ T.length → Ev (fun k => flatironref05_Show.l0 k (T.map s78) (B (joinU ((T.take i).map show1))) (i : Int)) (B (joinU (T.map show1))) := by
  refine upto_ind ?_ ?_
  · refine Ev.step (fun k => by rw [flatironref05_Show.l0]) ?_
    refine Ev.neg (by rw [List.length_map]; omega) ?_
    rw [List.take_length]
    exact Ev.ret _
  · intro i hi ih
    have hji := hj i (by omega)
    have hji1 := hj (i + 1) (by omega)
    rw [List.take_succ_eq_append_getElem hi, List.map_append, List.map_singleton, joinU_snoc] at ih hji1
    have hxok := hok _ (List.getElem_mem hi)
    have hxl := hlen _ (List.getElem_mem hi)
    have r := rd75 T i hi
    obtain ⟨x, hx⟩ : ∃ x, T[i] = x := ⟨_, rfl⟩
    rw [hx] at ih hji1 hxok hxl r
    have hw := wrap_succ i (by omega)
    -- behind the blank
    have tail : ∀ acc : List UInt8, acc.length ≤ 140737488355329 → Ev (fun k => flatironref05_Show.l0 k (T.map s78) (B (acc ++ show1 x)) ((i + 1 : Nat) : Int)) (B (joinU (T.map show1))) → Ev (fun k => flatironref05_Show.j1 k (T.map s78) (B acc) (i : Int)) (B (joinU (T.map show1))) := by
      intro acc ha h
      have hs1 := show1_len x
      refine Ev.step (fun k => by rw [flatironref05_Show.j1]) ?_
      rw [r]
      refine Ev.pos (by omega) ?_
      refine Ev.pos (by rw [List.length_map]; omega) ?_
      have mk : Ev (fun k => flatironref05_Show.j2 k (T.map s78) (B acc) (i : Int) true) (B (joinU (T.map show1))) → x.1 ≠ 0 → True := fun _ _ => trivial
      by_cases h0 : x.1 = 0
      · refine Ev.neg (by show ¬ (x.1 : Int) ≥ 1; omega) ?_
        refine Ev.step (fun k => by rw [flatironref05_Show.j2]) ?_
        rw [r, hw]
        refine Ev.neg (by simp) ?_
        refine Ev.pos (by omega) ?_
        refine Ev.pos (by rw [List.length_map]; omega) ?_
        refine Ev.bind (refQuote_ev x.2 hxl) ?_
        have hq : show1 x = quoteU x.2 := by rw [show1, if_pos h0]
        rw [hq] at h hs1
        refine Ev.pos (by rw [B_size, B_size]; omega) ?_
        rw [B_append]
        exact h
      · have hk : 1 ≤ x.1 ∧ x.1 ≤ 6 := by
          rcases hxok with h | h
          · exact absurd h h0
          · exact ⟨h.1, h.2.1⟩
        refine Ev.pos (by show (x.1 : Int) ≥ 1; omega) ?_
        rw [show decide ((s78 x).f0 ≤ 6) = true from decide_eq_true (by show (x.1 : Int) ≤ 6; omega)]
        refine Ev.step (fun k => by rw [flatironref05_Show.j2]) ?_
        rw [r, hw]
        refine Ev.pos rfl ?_
        have hm : flatironref05_Marks.f = some (marksR.map B) := by unfold flatironref05_Marks.f; rfl
        refine Ev.bind (Ev.of hm) ?_
        have hwk : wrap64 ((s78 x).f0 - 1) = ((x.1 - 1 : Nat) : Int) := wrap_pred x.1 (by omega) (by omega)
        rw [hwk]
        have hmk : rdOf ByteArray.empty (marksR.map B) ((x.1 - 1 : Nat) : Int) = B (markT x.1) := by
          obtain ⟨n, hn⟩ : ∃ n, x.1 = n + 1 := ⟨x.1 - 1, by omega⟩
          rw [hn]
          have : n = 0 ∨ n = 1 ∨ n = 2 ∨ n = 3 ∨ n = 4 ∨ n = 5 := by omega
          rcases this with rfl | rfl | rfl | rfl | rfl | rfl <;> rfl
        rw [hmk]
        have hq : show1 x = markT x.1 := by rw [show1, if_neg h0]
        rw [hq] at h hs1
        refine Ev.pos (by omega) ?_
        refine Ev.pos (by rw [List.length_map]; omega) ?_
        refine Ev.pos (by omega) ?_
        refine Ev.pos (by simp [marksR]; omega) ?_
        refine Ev.pos (by rw [B_size, B_size]; omega) ?_
        rw [B_append]
        exact h
    refine Ev.step (fun k => by rw [flatironref05_Show.l0]) ?_
    refine Ev.pos (by rw [List.length_map]; omega) ?_
    by_cases h0 : i = 0
    · subst h0
      refine Ev.neg (by omega) ?_
      have := tail [] (by simp) (by simpa using ih)
      simpa [joinU] using this
    · refine Ev.pos (by omega) ?_
      have hne : ¬ (T.take i).map show1 = [] := by
        intro e
        have := congrArg List.length e
        rw [List.length_map, List.length_take, List.length_nil] at this
        omega
      rw [if_neg hne] at ih
      refine Ev.pos (by rw [B_size]; omega) ?_
      rw [show (⟨#[32]⟩ : ByteArray) = B [32] from rfl, B_append]
      refine tail _ (by rw [List.length_append, List.length_singleton]; omega) ?_
      simpa using ih
theorem refShow5_ev (T : List Tok) (hT : T.length ≤ 5000) (hok : ∀ x ∈ T, okTok x) (hlen : ∀ x ∈ T, x.2.length ≤ 1000) : Ev (fun k => flatironref05_Show.f k (T.map s78)) (B (joinU (T.map show1))) := by
  refine Ev.congr (fun k => by rw [flatironref05_Show.f]) ?_
  refine refShow5_loop T (by omega) hok (fun x hx => by have := hlen x hx; omega) ?_ 0 (Nat.zero_le _)
  intro i hi
  have h := joinU_len 4002 ((T.take i).map show1) (by
    intro x hx
    obtain ⟨y, hy, rfl⟩ := List.mem_map.1 hx
    have := show1_len y
    have := hlen y (List.mem_of_mem_take hy)
    omega)
  rw [List.length_map, List.length_take] at h
  have h2 : min i T.length * (4002 + 1) ≤ 5000 * (4002 + 1) := Nat.mul_le_mul_right _ (by omega)
  omega
/-! the reference's Right -/
def headOn (cs : List Cmd) : Bool := match cs with | [] => true | c :: _ => decide (c.on = 1)
theorem rightS_eq (cs : List Cmd) : rightS cs = (cs.all okCmd && headOn cs) := rfl
theorem refRight_in (cs : List Cmd) (hcs : cs.length < 1000000000) (i : Nat) (hi : i < cs.length) (htl : cs[i].tos.length < 1000000000) (v : Bool) (H : Ev (fun k => flatironref06_Right.l0 k (cs.map rC) ((i + 1 : Nat) : Int)) v) :
    ∀ j, j ≤ cs[i].tos.length → Ev (fun k => flatironref06_Right.l1 k (cs.map rC) (i : Int) (j : Int)) ((cs[i].tos.drop j).all okTo && v) := by
  have r : rd_T73 (cs.map rC) (i : Int) = rC cs[i] := rd_map rC _ cs i hi
  have e2 : (rC cs[i]).f2 = cs[i].tos.map rT := by rw [rC_eq]
  refine upto_ind ?_ ?_
  · refine Ev.step (fun k => by rw [flatironref06_Right.l1]) ?_
    rw [r, e2, wrap_succ i (by omega)]
    refine Ev.pos (by omega) ?_
    refine Ev.pos (by rw [List.length_map]; omega) ?_
    refine Ev.neg (by rw [List.length_map]; omega) ?_
    rw [List.drop_length]
    exact H
  · intro j hj ih
    rw [drop_get cs[i].tos j hj, List.all_cons]
    refine Ev.step (fun k => by rw [flatironref06_Right.l1]) ?_
    rw [r, e2]
    have r2 : rd_T77 (cs[i].tos.map rT) (j : Int) = rT (cs[i].tos[j]) := rd_map rT _ _ j hj
    rw [r2, wrap_succ j (by omega)]
    refine Ev.pos (by omega) ?_
    refine Ev.pos (by rw [List.length_map]; omega) ?_
    refine Ev.pos (by rw [List.length_map]; omega) ?_
    refine Ev.pos (by omega) ?_
    refine Ev.ite (fun h => ?_) (fun h => ?_)
    · refine Ev.eq (Ev.ret _) ?_
      have h' : (cs[i].tos[j]).1 < 4 := h
      have : okTo (cs[i].tos[j]) = false := by simp [okTo]; omega
      rw [this]; rfl
    · refine Ev.ite (fun h2 => ?_) (fun h2 => ?_)
      · refine Ev.eq (Ev.ret _) ?_
        have h' : (cs[i].tos[j]).1 > 6 := h2
        have : okTo (cs[i].tos[j]) = false := by simp [okTo]; omega
        rw [this]; rfl
      · have h' : ¬ (cs[i].tos[j]).1 < 4 := h
        have h2' : ¬ (cs[i].tos[j]).1 > 6 := h2
        have : okTo (cs[i].tos[j]) = true := by simp [okTo]; omega
        rw [this, Bool.true_and]
        exact ih
theorem refRight_loop (cs : List Cmd) (hcs : cs.length < 1000000000) (hts : ∀ c ∈ cs, c.words.length < 1000000000 ∧ c.tos.length < 1000000000) :
    ∀ i, i ≤ cs.length → Ev (fun k => flatironref06_Right.l0 k (cs.map rC) (i : Int)) ((cs.drop i).all okCmd && (if i = 0 then headOn cs else true)) := by
  refine upto_ind ?_ ?_
  · refine Ev.step (fun k => by rw [flatironref06_Right.l0]) ?_
    refine Ev.neg (by rw [List.length_map]; omega) ?_
    refine Ev.eq (Ev.ret _) ?_
    rw [List.drop_length]
    by_cases h0 : cs.length = 0
    · obtain rfl := List.length_eq_zero_iff.1 h0; rfl
    · rw [if_neg h0]; rfl
  · intro i hi ih
    obtain ⟨hwl, htl⟩ := hts _ (List.getElem_mem hi)
    rw [drop_get cs i hi, List.all_cons]
    have r : rd_T73 (cs.map rC) (i : Int) = rC cs[i] := rd_map rC _ cs i hi
    have e0 : (rC cs[i]).f0 = cs[i].on := rfl
    have e1 : (rC cs[i]).f1.length = cs[i].words.length := by rw [rC_eq]; simp
    rw [if_neg (by omega)] at ih
    rw [Bool.and_true] at ih
    have hin := refRight_in cs hcs i hi htl _ ih 0 (Nat.zero_le _)
    rw [List.drop_zero] at hin
    refine Ev.step (fun k => by rw [flatironref06_Right.l0]) ?_
    rw [r, e0, e1]
    refine Ev.pos (by rw [List.length_map]; omega) ?_
    refine Ev.pos (by omega) ?_
    have bad : Ev (fun k => flatironref06_Right.j1 k (cs.map rC) (i : Int) true) false := by
      refine Ev.step (fun k => by rw [flatironref06_Right.j1]) ?_
      refine Ev.pos rfl ?_
      exact Ev.ret _
    have good : Ev (fun k => flatironref06_Right.j1 k (cs.map rC) (i : Int) false) (cs[i].tos.all okTo && (cs.drop (i + 1)).all okCmd) := by
      refine Ev.step (fun k => by rw [flatironref06_Right.j1]) ?_
      refine Ev.neg (by simp) ?_
      exact hin
    have hok : okCmd cs[i] = (decide (cs[i].words ≠ []) && decide (1 ≤ cs[i].on) && decide (cs[i].on ≤ 3) && cs[i].tos.all okTo) := rfl
    refine Ev.ite (fun h => ?_) (fun h => ?_)
    · have hw0 : cs[i].words = [] := List.length_eq_zero_iff.1 (by omega)
      have : okCmd cs[i] = false := by rw [hok, hw0]; simp
      rw [this]
      exact Ev.eq bad (by simp)
    · have hw0 : decide (cs[i].words ≠ []) = true := decide_eq_true (fun e => h (by rw [e]; rfl))
      refine Ev.ite (fun h1 => ?_) (fun h1 => ?_)
      · have : okCmd cs[i] = false := by rw [hok, show decide (1 ≤ cs[i].on) = false from decide_eq_false (by omega)]; simp
        rw [this]
        exact Ev.eq bad (by simp)
      · refine Ev.ite (fun h3 => ?_) (fun h3 => ?_)
        · have : okCmd cs[i] = false := by rw [hok, show decide (cs[i].on ≤ 3) = false from decide_eq_false (by omega)]; simp
          rw [this]
          exact Ev.eq bad (by simp)
        · have hokk : okCmd cs[i] = cs[i].tos.all okTo := by
            rw [hok, hw0, show decide (1 ≤ cs[i].on) = true from decide_eq_true (by omega), show decide (cs[i].on ≤ 3) = true from decide_eq_true (by omega)]
            simp
          rw [hokk]
          by_cases h0 : i = 0
          · subst h0
            refine Ev.pos rfl ?_
            rw [if_pos rfl]
            have hm : headOn cs = decide (cs[0].on = 1) := by
              cases cs with
              | nil => simp at hi
              | cons c cs => rfl
            rw [hm]
            by_cases h1' : cs[0].on = 1
            · rw [show (cs[0].on != 1) = false by simp [h1'], decide_eq_true h1', Bool.and_true]
              exact good
            · rw [show (cs[0].on != 1) = true by simpa using h1', decide_eq_false h1', Bool.and_false]
              exact bad
          · refine Ev.neg (by omega) ?_
            rw [if_neg h0, Bool.and_true]
            exact good
theorem refRight_ev (cs : List Cmd) (hcs : cs.length < 1000000000) (hts : ∀ c ∈ cs, c.words.length < 1000000000 ∧ c.tos.length < 1000000000) : Ev (fun k => flatironref06_Right.f k (cs.map rC)) (rightS cs) := by
  refine Ev.congr (fun k => by rw [flatironref06_Right.f]) ?_
  have := refRight_loop cs hcs hts 0 (Nat.zero_le _)
  rw [List.drop_zero, if_pos rfl, ← rightS_eq] at this
  exact this
end Go.Proofs.YtogbdjboblfokaaDoor.X
/- The reference's Show of commands: plain Lean. -/
namespace Go.Proofs.YtogbdjboblfokaaDoor.X
open Go.RowKit Go.Proofs.YtogbdjboblfokaaDoorW.PrintWords Go.Proofs.YtogbdjboblfokaaDoorW.PrintLast Go.Proofs.YtogbdjboblfokaaDoorW.PrintMore Go.Proofs.YtogbdjboblfokaaDoor.XW05 Go.Proofs.YtogbdjboblfokaaDoor.XT06 Go.Proofs.YtogbdjboblfokaaDoor.XW06
set_option linter.unusedSimpArgs false
set_option linter.unusedVariables false
set_option linter.unusedSectionVars false

section
variable {v : ByteArray} (cs : List Cmd) (hcs : cs.length < 1000000) (i : Nat) (hi : i < cs.length)
include hcs hi
theorem rsh_l2 (acc : List Tok) (hb : acc.length + 2 * cs[i].tos.length < 4000000) (hok : ∀ t ∈ cs[i].tos, okTo t = true)
    (H : Ev (fun k => flatironref06_Show.l0 k (cs.map rC) ((acc ++ cs[i].tos.flatMap toksTo).map s78) ((i + 1 : Nat) : Int)) v) :
    ∀ j, j ≤ cs[i].tos.length → Ev (fun k => flatironref06_Show.l2 k (cs.map rC) ((acc ++ (cs[i].tos.take j).flatMap toksTo).map s78) (i : Int) (j : Int)) v := by
  have r : rd_T73 (cs.map rC) (i : Int) = rC cs[i] := rd_map rC _ cs i hi
  have e2 : (rC cs[i]).f2 = cs[i].tos.map rT := by rw [rC_eq]
  refine upto_ind ?_ ?_
  · refine Ev.step (fun k => by rw [flatironref06_Show.l2]) ?_
    rw [r, e2, wrap_succ i (by omega)]
    refine Ev.pos (by omega) ?_
    refine Ev.pos (by rw [List.length_map]; omega) ?_
    refine Ev.neg (by rw [List.length_map]; omega) ?_
    rw [List.take_length]
    exact H
  · intro j hj ih
    refine Ev.step (fun k => by rw [flatironref06_Show.l2]) ?_
    rw [r, e2]
    have r2 : rd_T77 (cs[i].tos.map rT) (j : Int) = rT (cs[i].tos[j]) := rd_map rT _ _ j hj
    rw [r2, wrap_succ j (by omega)]
    refine Ev.pos (by omega) ?_
    refine Ev.pos (by rw [List.length_map]; omega) ?_
    refine Ev.pos (by rw [List.length_map]; omega) ?_
    refine Ev.pos (by omega) ?_
    have hlen : ((cs[i].tos.take j).flatMap toksTo).length = 2 * j := by
      have : ∀ l : List (Int × List UInt8), (l.flatMap toksTo).length = 2 * l.length := by
        intro l
        induction l with
        | nil => rfl
        | cons a l ih => rw [List.flatMap_cons, List.length_append, ih]; simp [toksTo]; omega
      rw [this, List.length_take]; omega
    refine Ev.pos (by simp only [List.length_map, List.length_append, hlen]; omega) ?_
    refine Ev.bind (Ev.of rfl) ?_
    refine Ev.pos (by simp only [List.length_map, List.length_append, hlen, List.length_cons, List.length_nil]; omega) ?_
    have hk := hok _ (List.getElem_mem hj)
    simp [okTo] at hk
    rw [List.take_succ_eq_append_getElem hj, List.flatMap_append] at ih
    have e : (((acc ++ (cs[i].tos.take j).flatMap toksTo).map s78 ++ [(⟨(rT (cs[i].tos[j])).f0, (⟨#[]⟩ : ByteArray)⟩ : S75)]) ++ [(⟨0, (rT (cs[i].tos[j])).f1⟩ : S75)]) = (acc ++ ((cs[i].tos.take j).flatMap toksTo ++ [cs[i].tos[j]].flatMap toksTo)).map s78 := by
      have h0 : (((cs[i].tos[j].1).toNat : Nat) : Int) = cs[i].tos[j].1 := by omega
      rw [← List.append_assoc acc, List.map_append (l₂ := [cs[i].tos[j]].flatMap toksTo), List.append_assoc]
      congr 1
      simp only [List.flatMap_cons, List.flatMap_nil, List.append_nil, toksTo, List.map_cons, List.map_nil, s78, h0]
      rfl
    rw [e]
    exact ih
theorem rsh_l1 (acc : List Tok) (hb : acc.length + cs[i].words.length < 4000000)
    (H : Ev (fun k => flatironref06_Show.l2 k (cs.map rC) ((acc ++ cs[i].words.map (fun x => (0, x))).map s78) (i : Int) 0) v) :
    ∀ j, j ≤ cs[i].words.length → Ev (fun k => flatironref06_Show.l1 k (cs.map rC) ((acc ++ (cs[i].words.take j).map (fun x => (0, x))).map s78) (i : Int) (j : Int)) v := by
  have r : rd_T73 (cs.map rC) (i : Int) = rC cs[i] := rd_map rC _ cs i hi
  have e1 : (rC cs[i]).f1 = cs[i].words.map B := by rw [rC_eq]
  refine upto_ind ?_ ?_
  · refine Ev.step (fun k => by rw [flatironref06_Show.l1]) ?_
    rw [r, e1]
    refine Ev.pos (by omega) ?_
    refine Ev.pos (by rw [List.length_map]; omega) ?_
    refine Ev.neg (by rw [List.length_map]; omega) ?_
    rw [List.take_length]
    exact H
  · intro j hj ih
    refine Ev.step (fun k => by rw [flatironref06_Show.l1]) ?_
    rw [r, e1]
    have r2 : rdOf ByteArray.empty (cs[i].words.map B) (j : Int) = B (cs[i].words[j]) := by
      rw [rdOf_get _ _ _ (by rw [List.length_map]; exact hj), List.getElem_map]
    rw [r2, wrap_succ j (by omega)]
    refine Ev.pos (by omega) ?_
    refine Ev.pos (by rw [List.length_map]; omega) ?_
    refine Ev.pos (by rw [List.length_map]; omega) ?_
    refine Ev.pos (by omega) ?_
    refine Ev.pos (by simp only [List.length_map, List.length_append, List.length_take]; omega) ?_
    rw [List.take_succ_eq_append_getElem hj, List.map_append (f := fun x => ((0 : Nat), x))] at ih
    have e : ((acc ++ (cs[i].words.take j).map (fun x => ((0 : Nat), x))).map s78 ++ [(⟨0, B (cs[i].words[j])⟩ : S75)]) = (acc ++ ((cs[i].words.take j).map (fun x => (0, x)) ++ [cs[i].words[j]].map (fun x => (0, x)))).map s78 := by
      rw [← List.append_assoc, List.map_append (l₂ := [cs[i].words[j]].map (fun x => ((0 : Nat), x)))]
      rfl
    rw [e]
    exact ih
end
theorem rshow_loop (cs : List Cmd) (hb : (toksAll cs).length ≤ 5000) (hcl : cs.length < 1000000) (hr : rightS cs = true) (hlen : ∀ x ∈ toksAll cs, x.2.length ≤ 1000) :
    ∀ i, i ≤ cs.length → Ev (fun k => flatironref06_Show.l0 k (cs.map rC) ((toksAll (cs.take i)).map s78) (i : Int)) (B (joinU ((toksAll cs).map show1))) := by
  refine upto_ind ?_ ?_
  · refine Ev.step (fun k => by rw [flatironref06_Show.l0]) ?_
    refine Ev.neg (by rw [List.length_map]; omega) ?_
    rw [List.take_length]
    refine Ev.bind (refShow5_ev (toksAll cs) hb (toksAll_ok cs hr) hlen) ?_
    exact Ev.ret _
  · intro i hi ih
    have hci : okCmd cs[i] = true := by
      unfold rightS at hr
      rw [Bool.and_eq_true] at hr
      exact List.all_eq_true.1 hr.1 _ (List.getElem_mem hi)
    simp [okCmd] at hci
    obtain ⟨⟨⟨h1, h2⟩, h3⟩, h4⟩ := hci
    have hl1 := toksAll_len cs (i + 1) (by omega)
    rw [List.take_succ_eq_append_getElem hi, toksAll_snoc, List.length_append, List.length_append, toksCmd_len] at hl1
    refine Ev.step (fun k => by rw [flatironref06_Show.l0]) ?_
    have r : rd_T73 (cs.map rC) (i : Int) = rC cs[i] := rd_map rC _ cs i hi
    rw [r]
    refine Ev.pos (by rw [List.length_map]; omega) ?_
    rw [List.take_succ_eq_append_getElem hi, toksAll_snoc] at ih
    have tail : ∀ acc : List Tok, acc.length + (cs[i].words.length + 2 * cs[i].tos.length) < 4000000 → Ev (fun k => flatironref06_Show.l0 k (cs.map rC) ((acc ++ toksCmd cs[i]).map s78) ((i + 1 : Nat) : Int)) (B (joinU ((toksAll cs).map show1))) →
        Ev (fun k => flatironref06_Show.j1 k (cs.map rC) (acc.map s78) (i : Int)) (B (joinU ((toksAll cs).map show1))) := by
      intro acc ha H
      refine Ev.step (fun k => by rw [flatironref06_Show.j1]) ?_
      have := rsh_l1 (v := B (joinU ((toksAll cs).map show1))) cs hcl i hi acc (by omega) (by
        have h2 := rsh_l2 (v := B (joinU ((toksAll cs).map show1))) cs hcl i hi (acc ++ cs[i].words.map (fun x => (0, x))) (by rw [List.length_append, List.length_map]; omega) (fun t ht => h4 t.1 t.2 ht) (by
          rw [List.append_assoc]
          exact H) 0 (Nat.zero_le _)
        simpa using h2) 0 (Nat.zero_le _)
      simpa using this
    by_cases h0 : i = 0
    · subst h0
      refine Ev.neg (by omega) ?_
      have := tail [] (by simp; omega) (by simpa [toksAll] using ih)
      simpa [toksAll] using this
    · refine Ev.pos (by omega) ?_
      refine Ev.pos (by omega) ?_
      refine Ev.pos (by rw [List.length_map]; omega) ?_
      have hne : ¬ cs.take i = [] := by
        intro e
        have := congrArg List.length e
        rw [List.length_take, List.length_nil] at this
        omega
      rw [if_neg hne] at ih hl1
      have hon : ((cs[i].on.toNat : Nat) : Int) = cs[i].on := by omega
      have e : (toksAll (cs.take i)).map s78 ++ [(⟨(rC cs[i]).f0, (⟨#[]⟩ : ByteArray)⟩ : S75)] = (toksAll (cs.take i) ++ [(cs[i].on.toNat, [])]).map s78 := by
        rw [List.map_append]
        congr 1
        show [(⟨cs[i].on, (⟨#[]⟩ : ByteArray)⟩ : S75)] = [⟨((cs[i].on.toNat : Nat) : Int), B []⟩]
        rw [hon]; rfl
      rw [e]
      refine tail (toksAll (cs.take i) ++ [(cs[i].on.toNat, [])]) ?_ ih
      rw [List.length_append]
      simp only [List.length_cons, List.length_nil] at hl1 ⊢
      omega
theorem rShow_ev (cs : List Cmd) (hb : (toksAll cs).length ≤ 5000) (hcl : cs.length < 1000000) (hr : rightS cs = true) (hlen : ∀ x ∈ toksAll cs, x.2.length ≤ 1000) : Ev (fun k => flatironref06_Show.f k (cs.map rC)) (B (joinU ((toksAll cs).map show1))) := by
  refine Ev.congr (fun k => by rw [flatironref06_Show.f]) ?_
  have := rshow_loop cs hb hcl hr hlen 0 (Nat.zero_le _)
  simpa [toksAll] using this
end Go.Proofs.YtogbdjboblfokaaDoor.X
/- The law ParseShows, walked: for all commands whose count of bytes does not run over, it answers true. -/
namespace Go.Proofs.YtogbdjboblfokaaDoor.X
open Go.RowKit Go.Proofs.YtogbdjboblfokaaDoorW.PrintWords Go.Proofs.YtogbdjboblfokaaDoorW.PrintLast Go.Proofs.YtogbdjboblfokaaDoorW.PrintMore Go.Proofs.YtogbdjboblfokaaDoor.XW05 Go.Proofs.YtogbdjboblfokaaDoor.XT06 Go.Proofs.YtogbdjboblfokaaDoor.XW06
set_option linter.unusedSimpArgs false
set_option linter.unusedVariables false

/-! what the law counts -/
def sB (xs : List ByteArray) : Nat := (xs.map ByteArray.size).sum
def sT (xs : List S42) : Nat := (xs.map (fun t => t.f1.size)).sum
def cw (z : S40) : Nat := z.f1.length + z.f2.length + sB z.f1 + sT z.f2
def wsum (L : List S40) : Nat := (L.map cw).sum
theorem sum_take_succ {α : Type} (f : α → Nat) (l : List α) (i : Nat) (h : i < l.length) : ((l.take (i + 1)).map f).sum = ((l.take i).map f).sum + f l[i] := by
  rw [List.take_succ_eq_append_getElem h, List.map_append, List.sum_append]; simp
theorem sum_take_le {α : Type} (f : α → Nat) (l : List α) (i : Nat) : ((l.take i).map f).sum ≤ (l.map f).sum := by
  conv => rhs; rw [← List.take_append_drop i l, List.map_append, List.sum_append]
  omega
theorem sum_mem {α : Type} (f : α → Nat) (l : List α) (x : α) (h : x ∈ l) : f x ≤ (l.map f).sum := by
  induction l with
  | nil => simp at h
  | cons y l ih =>
    rw [List.map_cons, List.sum_cons]
    rcases List.mem_cons.1 h with rfl | h
    · omega
    · have := ih h; omega
theorem ex_toS (L : List S40) : ∃ cs : List Cmd, L = cs.map toS := by
  have hb : ∀ xs : List ByteArray, ∃ ys : List (List UInt8), xs = ys.map B := by
    intro xs
    induction xs with
    | nil => exact ⟨[], rfl⟩
    | cons x xs ih =>
      obtain ⟨ys, rfl⟩ := ih
      obtain ⟨l, rfl, _⟩ := ex_B x
      exact ⟨l :: ys, rfl⟩
  have ht : ∀ xs : List S42, ∃ ys : List (Int × List UInt8), xs = ys.map toT := by
    intro xs
    induction xs with
    | nil => exact ⟨[], rfl⟩
    | cons x xs ih =>
      obtain ⟨ys, rfl⟩ := ih
      obtain ⟨a, s⟩ := x
      obtain ⟨l, rfl, _⟩ := ex_B s
      exact ⟨(a, l) :: ys, rfl⟩
  induction L with
  | nil => exact ⟨[], rfl⟩
  | cons z L ih =>
    obtain ⟨cs, rfl⟩ := ih
    obtain ⟨a, ws, ts⟩ := z
    obtain ⟨ys, rfl⟩ := hb ws
    obtain ⟨us, rfl⟩ := ht ts
    exact ⟨⟨a, ys, us⟩ :: cs, rfl⟩
theorem small_of (cs : List Cmd) (hl : cs.length ≤ 20) (hn : wsum (cs.map toS) ≤ 1000) : smallC cs := by
  have hc : ∀ c ∈ cs, cw (toS c) ≤ 1000 := fun c h => Nat.le_trans (sum_mem cw _ _ (List.mem_map_of_mem h)) hn
  have e : ∀ c : Cmd, cw (toS c) = c.words.length + c.tos.length + sB (c.words.map B) + sT (c.tos.map toT) := fun c => by
    show (c.words.map B).length + (c.tos.map toT).length + _ + _ = _
    rw [List.length_map, List.length_map]; rfl
  have hw : ∀ c ∈ cs, ∀ x ∈ c.words, x.length ≤ 1000 := by
    intro c h x hx
    have h1 := hc c h
    rw [e] at h1
    have h2 : (B x).size ≤ sB (c.words.map B) := sum_mem ByteArray.size _ _ (List.mem_map_of_mem hx)
    rw [B_size] at h2; omega
  have ht : ∀ c ∈ cs, ∀ t ∈ c.tos, t.2.length ≤ 1000 := by
    intro c h t hx
    have h1 := hc c h
    rw [e] at h1
    have h2 : (B t.2).size ≤ sT (c.tos.map toT) := sum_mem (fun t : S42 => t.f1.size) _ _ (List.mem_map_of_mem (f := toT) hx)
    rw [B_size] at h2; omega
  have hwt : (cs.map wtC).sum ≤ cs.length + 2 * wsum (cs.map toS) := by
    unfold wsum
    clear hl hn hc hw ht
    induction cs with
    | nil => simp
    | cons c cs ih =>
      simp only [List.map_cons, List.sum_cons, List.length_cons]
      have := e c
      unfold wtC at *
      omega
  have g3 := toksAll_wt cs
  refine ⟨by omega, by omega, toksAll_all (fun t => t.length ≤ 1000) (by simp) cs (fun c h => ⟨hw c h, ht c h⟩), fun c h => ?_⟩
  have h1 := hc c h
  rw [e] at h1
  omega

/-! the calls, over the row as it was given -/
theorem rd_string {w : World} {A : Option Addr} {n : Nat} {xs : List ByteArray} (h : Kd.string.C w A n xs) (hn : 0 < n) :
    ∃ b o, A = some ⟨b, o, none⟩ ∧ b < w.heap.size ∧ ∀ (j : Nat) (hj : j < xs.length), w.cell? ⟨b, o + j, none⟩ = some (.string xs[j]) := by
  obtain ⟨b, o, rfl, hb, hc⟩ := C_form h hn (show 0 < Kd.string.sz by decide)
  refine ⟨b, o, rfl, hb, fun j hj => ?_⟩
  obtain ⟨c, hcl, hk, hcc⟩ := hc j hj
  have hk : c = [.string xs[j]] := hk
  subst hk
  have := hcc 0 _ rfl
  simpa [show Kd.string.sz = 1 from rfl] using this
theorem sh_okL (L : List S40) (cs : List Cmd) (e : L = cs.map toS) (hs : smallC cs) (hr : rightS cs = true) (A : Option Addr) (c : Nat) (w : World) (hSH : Shp w) (hC : Kd.C k40 w A L.length L) (hc : L.length ≤ c) :
    Calls Tryd.prog 9 #[.slice A L.length c] w fun e w' => e = .returned (.tuple #[.string (B (joinU ((toksAll cs).map show1))), .int .i64 0]) ∧ Below w.heap.size w w' := by
  subst e; rw [List.length_map] at hC hc ⊢; exact sh_ok cs hs hr A c w hSH hC hc
theorem sh_badL (L : List S40) (cs : List Cmd) (e : L = cs.map toS) (hs : smallC cs) (hr : rightS cs = false) (A : Option Addr) (c : Nat) (w : World) (hSH : Shp w) (hC : Kd.C k40 w A L.length L) (hc : L.length ≤ c) :
    Calls Tryd.prog 9 #[.slice A L.length c] w fun e w' => e = .returned (.tuple #[.string (⟨#[]⟩ : ByteArray), .int .i64 1]) ∧ Below w.heap.size w w' := by
  subst e
  obtain ⟨k, hk⟩ := (pShow_bad cs (by have := hs.1; omega) (fun d hd => by have := (hs.2.2.2 d hd).2; omega) hr).get
  exact parse_Show.calls k A c (cs.map toS) _ 1 w hSH hC hc hk
theorem rt_okL (L : List S40) (cs : List Cmd) (e : L = cs.map toS) (hs : smallC cs) (A : Option Addr) (c : Nat) (w : World) (hC : Kd.C k40 w A L.length L) (hc : L.length ≤ c) :
    Calls Tryd.prog 12 #[.slice A L.length c] w fun e w' => e = .returned (.bool (rightS cs)) ∧ Below w.heap.size w w' := by
  subst e; rw [List.length_map] at hC hc ⊢; exact rt_ok cs hs A c w hC hc
theorem of_okL (L : List S40) (cs : List Cmd) (e : L = cs.map toS) (hs : smallC cs) (A : Option Addr) (c : Nat) (w : World) (hC : Kd.C k40 w A L.length L) :
    Calls Tryd.prog 11 #[.slice A L.length c] w fun e w' => ∃ A' c', e = .returned (.slice A' cs.length c') ∧ cs.length ≤ c' ∧ Kd.C k73 w' A' cs.length (cs.map rC) ∧ Below w.heap.size w w' := by
  subst e; rw [List.length_map] at hC ⊢; exact of_ok cs hs A c w hC
theorem rr_ok (cs : List Cmd) (hs : smallC cs) (A : Option Addr) (c : Nat) (w : World) (hC : Kd.C k73 w A cs.length (cs.map rC)) (hc : cs.length ≤ c) :
    Calls Tryd.prog 13 #[.slice A cs.length c] w fun e w' => e = .returned (.bool (rightS cs)) ∧ Below w.heap.size w w' := by
  obtain ⟨k, hk⟩ := (refRight_ev cs (by have := hs.1; omega) (fun d hd => by have := hs.2.2.2 d hd; omega)).get
  have := flatironref06_Right.calls k A c (cs.map rC) _ w (by rw [List.length_map]; exact hC) (by rw [List.length_map]; exact hc) hk
  rw [List.length_map] at this
  exact this.mono (fun e w' h => ⟨h.1, h.2.below⟩)
theorem rsh_ok (cs : List Cmd) (hs : smallC cs) (hr : rightS cs = true) (A : Option Addr) (c : Nat) (w : World) (hC : Kd.C k73 w A cs.length (cs.map rC)) (hc : cs.length ≤ c) :
    Calls Tryd.prog 14 #[.slice A cs.length c] w fun e w' => e = .returned (.string (B (joinU ((toksAll cs).map show1)))) ∧ Below w.heap.size w w' := by
  obtain ⟨k, hk⟩ := (rShow_ev cs hs.2.1 (by have := hs.1; omega) hr hs.2.2.1).get
  have := flatironref06_Show.calls k A c (cs.map rC) _ w (by rw [List.length_map]; exact hC) (by rw [List.length_map]; exact hc) hk
  rw [List.length_map] at this
  exact this
end Go.Proofs.YtogbdjboblfokaaDoor.X
