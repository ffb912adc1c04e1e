/- Texts of this claim, one behind the other (merged by the session's own program merge.py: a claim bears sixty files): HParse, HRight, HOf, PSubC, PParseD, HSubIs, HSubOf, XW19x0, XW19x1, XW19x, HLawSub, HLawSubB, HRow, PureSubCalls, LawSubCalls. -/
import Derived.BigQuiet
import Derived.Deep.QuietTactic
import Derived.Deep.RegionLaw
import Derived.BigRegion
import Derived.Test.YtmpheeanjjfddaaProg
import Derived.Below
import Derived.Deep.Draws
import Derived.Deep.AppendLies
import Derived.Maps.AppendAt
import Derived.OwnWalk
import Derived.Laws.BytesArg
import Derived.Laws.MakeOwn
import Derived.Laws.OwnMore
import Derived.Deep.OwnRows
import Derived.Tactics
import Derived.Lib.ConvBytes
import Derived.Laws.Slices
import Derived.WalkKit
import Derived.KernelRfl
import Derived.RowKit3
import Derived.Deep.LoopGhost
import Derived.WideLaws
import Derived.Deep.DeepCutAuto
import Derived.Deep.CutBlock
import Derived.Deep.RegionHeld3
import Derived.Laws.Rows
import Derived.Lib.AppendStr
import Derived.ArgAppend
import Derived.Laws.IdiomCopy
import Derived.OrdersHeld
import Derived.Laws.BitsLemmas
import Derived.RowKit
import Derived.WalkLawsBesides
import Derived.Test.YtmpheeanjjfddaaWWords
import Derived.Test.YtmpheeanjjfddaaWLast
import Derived.Test.YtmpheeanjjfddaaWTab
import Derived.Test.YtmpheeanjjfddaaWFour
import Derived.Test.YtmpheeanjjfddaaWQPut
import Derived.Test.YtmpheeanjjfddaaWApart
import Derived.Test.YtmpheeanjjfddaaWArr
import Derived.Test.YtmpheeanjjfddaaWZeros
import Derived.Test.YtmpheeanjjfddaaWFoot
import Derived.Test.YtmpheeanjjfddaaWKept
import Derived.Test.YtmpheeanjjfddaaWShare
import Derived.Test.YtmpheeanjjfddaaWN
import Derived.Test.YtmpheeanjjfddaaWFootNe
import Derived.Test.YtmpheeanjjfddaaWAt
import Derived.Test.YtmpheeanjjfddaaWEqStruct
import Derived.Test.YtmpheeanjjfddaaWRepsOne
import Derived.Test.YtmpheeanjjfddaaWInv
import Derived.Test.YtmpheeanjjfddaaWInvWords
import Derived.Test.YtmpheeanjjfddaaWGuard
import Derived.Test.YtmpheeanjjfddaaWNEv
import Derived.Test.YtmpheeanjjfddaaWMore
import Derived.Deep.RegionWith
import Derived.SizedLaws
import Derived.ChangeSlices
import Derived.SliceStrings
import Derived.ProofKit
import Derived.Test.YtmpheeanjjfddaaRows
import Derived.OpenShut
import Derived.ShutString
import Derived.ChangeOld
import Derived.HandedShaped
import Derived.Shelf.Vars
import Derived.Test.YtmpheeanjjfddaaZSCB
/- parse.Line as a plain function, with its contract; condition: a text of fewer than 500000000 bytes. -/
namespace Go.Proofs.Ytmpheeanjjfddaa.X
open Go.RowKit Go.Proofs.YtmpheeanjjfddaaW.PrintWords Go.Proofs.YtmpheeanjjfddaaW.PrintLast Go.Proofs.YtmpheeanjjfddaaW.PrintMore Go.Proofs.Ytmpheeanjjfddaa.XW05 Go.Proofs.Ytmpheeanjjfddaa.XT06
set_option linter.unusedSimpArgs false
set_option linter.unusedVariables false

def toS (c : Cmd) : S124 := ⟨c.on, c.words.map B, c.tos.map toT⟩
def resL (o : Option (List Cmd)) : List S124 × Int := match o with | some res => (res.map toS, 0) | none => ([], 6)
def parseU (l : List UInt8) : Option (List Cmd) := match tokS [] l with | none => none | some toks => lineS [] 1 toks
def parse_Line.f (a0 : ByteArray) : Option (List S124 × Int) := if a0.size < 500000000 then some (resL (parseU a0.data.toList)) else none
theorem M_apart {α : Type} {d : Kd α} {base e' : Nat} {ok : Nat → Prop} {w : World} {v : Value} {x : α} {cs : List Value} (h : d.M w base ok x cs) (hty : ∀ k, v.ownBlock = some k → ∃ cells, w.heap[k]? = some (.cells cells e' (0, 0))) (ht : ∀ q ∈ d.E, q ≠ e') : d.M w base (fun k => ok k ∧ some k ≠ v.ownBlock) x cs := by
  refine d.M_mono (fun k hk => ⟨hk.1, fun e => ?_⟩) (d.M_bound h)
  obtain ⟨_, _, _, q, hq, cells, hc⟩ := hk
  obtain ⟨cells', hc'⟩ := hty k e.symm
  rw [hc] at hc'
  injection hc' with hc'
  injection hc' with _ hc' _
  exact ht q hq hc'

theorem S_grown_ty {α : Type} {d : Kd α} {e base t : Nat} {ok : Nat → Prop} {w w1 : World} {v : Value} {xs : List α} {row : Option Nat} (h : Kd.S d e w base ok v xs) (hg : w.grownBy w1 row)
    (ht : ∀ k, row = some k → ∃ cells, w.heap[k]? = some (.cells cells t (0, 0))) (hne : ∀ q, q ∈ e :: d.E → q ≠ t) : Kd.S d e w1 base ok v xs := by
  obtain ⟨f, hf⟩ := h
  exact ⟨f, R_grown_ty hf hg ht hne⟩
/-- What holds between the rounds of Line. -/
structure LI (w : World) (br b N C : Nat) (toks : List Tok) (vo : Value) (j : Nat) (outs : List Cmd) (W : World) : Prop where
  rd : RdI br b j N W
  tok : 0 < N → Kd.R k128 128 W w.heap.size (fun _ => True) (.slice (some ⟨b, 0, none⟩) N C) (toks.map s83)
  out : Kd.S k124 124 W w.heap.size (fun _ => True) vo (outs.map toS)
  bel : Below w.heap.size w W
  hbr : w.heap.size ≤ br
section
variable {w W W1 : World} {br b N C j : Nat} {toks : List Tok} {vo : Value} {outs : List Cmd}
theorem LI.new (h : LI w br b N C toks vo j outs W) (hg : W.grownBy W1 none) : LI w br b N C toks vo j outs W1 := by
  have nn : ∀ (t : Nat) (k : Nat), (none : Option Nat) = some k → ∃ cells, W.heap[k]? = some (.cells cells t (0, 0)) := fun _ _ e => by cases e
  exact ⟨h.rd.grown hg (nn 0) (by decide), fun h0 => R_grown_ty (h.tok h0) hg (nn 0) (by decide), S_grown_ty h.out hg (nn 0) (by decide), h.bel.grown hg h.bel.size (fun k hk => by cases hk), h.hbr⟩
theorem LI.take (h : LI w br b N C toks vo j outs W) {j1 : Nat} (hr : RdI br b j1 N W1) (hg : W.grownBy W1 (some br)) : LI w br b N C toks vo j1 outs W1 :=
  ⟨hr, fun h0 => R_grown_ty (h.tok h0) hg h.rd.ty (by decide), S_grown_ty h.out hg h.rd.ty (by decide), h.bel.grown hg h.bel.size (fun k hk => by injection hk with hk; subst hk; exact h.hbr), h.hbr⟩
theorem LI.app (h : LI w br b N C toks vo j outs W) {v1 : Value} {outs1 : List Cmd} (hg : W.grownBy W1 vo.ownBlock) (ho : Kd.S k124 124 W1 w.heap.size (fun _ => True) v1 (outs1.map toS)) : LI w br b N C toks v1 j outs1 W1 :=
  ⟨h.rd.grown hg (Kd.S_typed h.out) (by decide), fun h0 => R_grown_ty (h.tok h0) hg (Kd.S_typed h.out) (by decide), ho, h.bel.grown hg h.bel.size (Kd.S_base h.out), h.hbr⟩
end
theorem RdI.cell {br b j N : Nat} {W : World} (h : RdI br b j N W) : ∃ A c, W.cell? ⟨br, 0, none⟩ = some (.slice A (N - j) c) := by
  obtain ⟨_, A, c, hb, _⟩ := h
  exact ⟨A, c, blk_cell hb 0⟩
theorem field0 (k : Int) (x : ByteArray) (W : World) : Sem.run Try.prog (Instr.field 128 (Value.agg #[Value.int IntKind.i64 k, Value.string x]) 0) W = .ok (.int .i64 k) W := by kernel_rfl
set_option maxRecDepth 100000 in
set_option maxHeartbeats 8000000 in
theorem parse_Line.calls (a0 : ByteArray) (r1 : List S124) (r2 : Int) (w : World) (h : parse_Line.f a0 = some (r1, r2)) :
    Calls Try.prog 17 #[.string a0] w fun e w' => ∃ v0_ : Value, e = .returned (.tuple #[v0_, .int .i64 r2]) ∧ Kd.S k124 124 w' w.heap.size (fun _ => True) v0_ r1 ∧ Below w.heap.size w w' := by
  unfold parse_Line.f at h
  by_cases hsz : a0.size < 500000000
  case neg => rw [if_neg hsz] at h; exact absurd h (by simp)
  rw [if_pos hsz] at h
  have h := Option.some.inj h
  obtain ⟨l, rfl, hl⟩ := ex_B a0
  rw [B_data] at h
  have hl' : l.length < 500000000 := by rw [B_size] at hsz; exact hsz
  have infoC : (Try.prog.info? 124).map (fun i => (i.zero, i.size, i.bytes)) = some (some (.agg #[.int .i64 0, .slice none 0 0, .slice none 0 0]), 3, 56) := by kernel_rfl
  obtain ⟨kt, hkt⟩ := (Tokens_ev l (by omega)).get
  have hlen : ∀ toks, tokS [] l = some toks → toks.length ≤ l.length ∧ ∀ x ∈ toks, x.1 ≤ 6 := by
    intro toks ht
    obtain ⟨h1, _⟩ := tokS_len l.length _ l [] toks (Nat.le_refl _) (Nat.le_refl _) (by simp) ht
    refine ⟨by simpa using h1, fun x hx => ?_⟩
    rcases tokS_ok _ l [] toks (Nat.le_refl _) (by simp) ht x hx with h | h
    · omega
    · exact h.2.1
  unfold parseU at h
  cases ht : tokS [] l with
  | none =>
    rw [ht] at h hkt
    obtain ⟨rfl, rfl⟩ := Prod.mk.inj h
    go_enter Try.func17, Try.ntmps17
    go_wp2_with (go_at_call 43; refine (lex_Tokens.calls kt (B l) [] 6 _ hkt).mono ?_; rintro e1 w1 ⟨v1, rfl, ho1, hb1⟩)
    go_ret2
    exact ⟨_, rfl, Kd.S_nil _ _ _ _ _, hb1⟩
  | some toks =>
    rw [ht] at h hkt
    obtain ⟨hN, h6⟩ := hlen toks ht
    simp only [resT] at hkt
    obtain ⟨LM, hLM⟩ : ∃ x, lineS [] 1 toks = x := ⟨_, rfl⟩
    simp only [hLM] at h
    have HRES := Aside0.mk h
    clear h ht hlen
    have hnn : toks.length < 1000000000 := by omega
    have HNN := Aside0.mk hnn
    have HH6 := Aside0.mk h6
    have HLM := Aside0.mk hLM
    clear hN hnn h6 hLM hl' hsz hl
    go_enter Try.func17, Try.ntmps17
    go_wp2_with (go_at_call 43; refine (lex_Tokens.calls kt (B l) (toks.map s83) 0 _ hkt).mono ?_; rintro e1 w1 ⟨v1, rfl, ho1, hb1⟩; obtain ⟨Av, cv, ev⟩ := Kd.R_slice ho1; subst ev; rw [List.length_map] at ho1 ⊢)
    have hst : ∃ b C, LI w w1.heap.size b toks.length C toks (.slice none 0 0) 0 [] (w1.alloc (.cells #[.slice Av toks.length cv] 120)) := by
      have hbn := blk_new w1 (.cells #[.slice Av toks.length cv] 120 (0, 0))
      have hbl : Below w.heap.size w (w1.alloc (.cells #[.slice Av toks.length cv] 120)) := below_alloc hb1 _
      by_cases hz : 0 < toks.length
      · obtain ⟨g, cap, eg, _⟩ := Kd.R_form ho1 (by rw [List.length_map]; exact hz)
        injection eg with e1 e2 e3
        subst e1 e3
        have hcap := (Kd.R_reads' ho1).2.1
        exact ⟨g, cv, ⟨Nat.zero_le _, _, cv, hbn, fun _ => ⟨by rw [Nat.zero_mul], hcap⟩⟩, fun _ => Kd.R_alloc ho1 _, Kd.S_nil _ _ _ _ _, hbl, hb1.size⟩
      · exact ⟨0, 0, ⟨Nat.zero_le _, Av, cv, hbn, fun h => absurd h hz⟩, fun h => absurd h hz, Kd.S_nil _ _ _ _ _, hbl, hb1.size⟩
    obtain ⟨b, C, hst⟩ := hst
    have HST := Aside0.mk hst
    obtain ⟨br, hbr⟩ : ∃ br, w1.heap.size = br := ⟨_, rfl⟩
    rw [hbr] at HST ⊢
    clear hst ho1 hb1 hbr hkt
    go_loopg [7, 8] (toks.length + 1) (fun g v7 v8 wr => ∃ (j : Nat) (on : Int) (outs : List Cmd), v7 = .int .i64 on ∧ j ≤ toks.length ∧ toks.length - j < g ∧ Aside0 (outs.length ≤ j) ∧ Aside0 (LI w br b toks.length C toks v8 j outs wr) ∧ Aside0 (lineS outs on (toks.drop j) = LM))
    case atStart => exact ⟨0, 1, [], rfl, Nat.zero_le _, by omega, ⟨by simp⟩, HST, HLM⟩
    case round =>
      obtain ⟨j, on, outs, rfl, hj, hg, HOL, HJ, HR⟩ := hrel
      obtain ⟨Ao, co, eo⟩ := Kd.S_slice HJ.out.out
      rw [List.length_map] at eo
      subst eo
      obtain ⟨A, c0, hc0⟩ := HJ.out.rd.cell
      by_cases hlt : j < toks.length
      · have HPOS := Aside0.mk (show 0 < toks.length by omega)
        have hn0 : toks.drop j ≠ [] := fun e => by have := congrArg List.length e; simp at this; omega
        obtain ⟨n, hn⟩ : ∃ n, toks.length - j = n := ⟨_, rfl⟩
        rw [hn] at hc0
        have hn1 : (0 : Int) < (n : Int) := by omega
        have hn2 : 0 < n := by omega
        cases hcm : cmdS on [] [] (toks.drop j) with
        | none =>
          have HCM := Aside0.mk hcm
          have HRN := Aside0.mk (show resL none = (r1, r2) by rw [← HRES.out, ← HR.out, lineS_bad _ _ _ hn0 hcm])
          clear hcm hn0
          go_wp2_with (go_at_call 44; refine (command_calls br b j toks.length C on toks _ rfl HNN.out HH6.out HJ.out.rd (HJ.out.tok HPOS.out)).mono ?_; rintro e2 w2 ⟨on', Aw, nw, cw, At, nt, ct, okb, rfl, hg2, hce⟩; rw [HCM.out] at hce; have hokb : okb = false := hce; subst hokb; have hbl2 := HJ.out.bel.grown hg2 HJ.out.bel.size (fun k hk => by injection hk with hk; subst hk; exact HJ.out.hbr))
          go_ret2
          obtain ⟨rfl, rfl⟩ := Prod.mk.inj HRN.out
          exact ⟨_, rfl, Kd.S_nil _ _ _ _ _, by first | exact hbl2 | exact below_alloc hbl2 _⟩
        | some cr =>
          obtain ⟨c, r⟩ := cr
          have HCM := Aside0.mk hcm
          have hless := cmdS_less _ _ _ _ hcm
          have HREST := Aside0.mk (show ∀ j2, r = toks.drop j2 → j2 ≤ toks.length → j < j2 ∧ (r = [] ↔ j2 = toks.length) by
            rintro j2 rfl hj2
            simp only [List.length_drop] at hless
            refine ⟨by omega, ?_⟩
            rw [List.drop_eq_nil_iff]; omega)
          have HLAST := Aside0.mk (show r = [] → LM = some (outs ++ [c]) by rintro rfl; rw [← HR.out, lineS_last _ _ _ hn0 c hcm])
          have HMORE := Aside0.mk (show ∀ k x m, r = (k, x) :: m → LM = if k ≠ 1 ∧ m = [] then none else lineS (outs ++ [c]) (k : Int) m by rintro k x m rfl; rw [← HR.out, lineS_more _ _ _ hn0 c k x m hcm])
          clear hcm hn0 hless
          cases r with
          | nil =>
            have HRN := Aside0.mk (show resL (some (outs ++ [c])) = (r1, r2) by rw [← HRES.out, HLAST.out rfl])
            go_wp2_with (first | (go_at_call 44; refine (command_calls br b j toks.length C on toks _ rfl HNN.out HH6.out HJ.out.rd (HJ.out.tok HPOS.out)).mono ?_; rintro e2 w2 ⟨on', Aw, nw, cw, At, nt, ct, okb, rfl, hg2, hce⟩; rw [HCM.out] at hce; obtain ⟨rfl, rfl, j2, hr, hrd2, hw2, ht2⟩ := hce; have J2 := Aside0.mk (HJ.out.take hrd2 hg2); have J2a := Aside0.mk (J2.out.new (World.grownBy_alloc _ (.cells #[.int .i64 c.on, .slice Aw nw cw, .slice At nt ct] 124) none)); have HP := Aside0.mk (k124_mkM (w2.alloc (.cells #[.int .i64 c.on, .slice Aw nw cw, .slice At nt ct] 124)) w.heap.size (fun k => wr.heap.size ≤ k) (toS c) (Kd.R_lower (Kd.R_alloc (Kd.R_mono (Kd.R_bound hw2) (fun k hk => hk.2.1)) _) HJ.out.bel.size) (Kd.R_lower (Kd.R_alloc (Kd.R_mono (Kd.R_bound ht2) (fun k hk => hk.2.1)) _) HJ.out.bel.size)); have HS := Aside0.mk (Kd.S_alloc (S_grown_ty (Kd.S_mono (Kd.S_bound HJ.out.out) (ok' := fun k => True ∧ ¬ (wr.heap.size ≤ k)) (fun k hk => ⟨trivial, Nat.not_le_of_lt hk.2.2.1⟩)) hg2 HJ.out.rd.ty (by decide)) (.cells #[.int .i64 c.on, .slice Aw nw cw, .slice At nt ct] 124)); have HW2 := Aside0.mk (HREST.out j2 hr hrd2.1); have HR2 := Aside0.mk hr; clear hr hrd2 hw2 ht2 hg2) | ((with_reducible refine gate_builtin (b := .append) (xs := #[.tmp 36, .tmp 38]) rfl ?_); at_builtin; refine Kd.S_append k124 (w0 := w) w.heap.size rfl (.tmp 36) (.tmp 38) 50 124 (.agg #[.int .i64 0, .slice none 0 0, .slice none 0 0]) 56 rfl Try.underlying50 infoC rfl (by decide) (by omega) (.slice Ao outs.length co) (outs.map toS) (toS c) [.int .i64 c.on, .slice Aw nw cw, .slice At nt ct] (fun _ => True) (fun k => wr.heap.size ≤ k) rfl (by first | (go_simp; done) | (go_simp; rfl)) HP.out (fun k hk => ⟨trivial, fun e => Nat.not_le_of_lt (Kd.S_lt HJ.out.out k e.symm) hk⟩) (fun _ _ => trivial) HS.out J2a.out.bel J2a.out.bel.size (by have := HOL.out; have := HNN.out; rw [List.length_map]; omega) ?_; intro v1 w5 ho hb hg5 hat; obtain ⟨A1, n1, q1, ev⟩ := R_is (Kd.S_R ho); subst ev; rw [show outs.map toS ++ [toS c] = (outs ++ [c]).map toS by simp] at ho; have J5 := Aside0.mk (J2a.out.app hg5 ho); obtain ⟨A5, c5, hc5⟩ := J5.out.rd.cell; rw [show toks.length - j2 = 0 by have := HW2.out.2.mp (by first | rfl | trivial); omega] at hc5; clear ho hb hg5 hat))
            go_ret2
            obtain ⟨rfl, rfl⟩ := Prod.mk.inj HRN.out
            exact ⟨_, rfl, J5.out.out, J5.out.bel⟩
          | cons kx m =>
            obtain ⟨k, x⟩ := kx
            have HD := Aside0.mk (show ∀ j2, (k, x) :: m = toks.drop j2 → j2 < toks.length ∧ m = toks.drop (j2 + 1) ∧ (m = [] ↔ j2 + 1 = toks.length) by
              intro j2 h
              have hlt2 : j2 < toks.length := by have := congrArg List.length h; simp at this; omega
              have h' := h
              rw [drop_get toks j2 hlt2] at h'
              injection h' with _ h'
              refine ⟨hlt2, h', ?_⟩
              rw [h', List.drop_eq_nil_iff]; omega)
            have HTK := Aside0.mk (show ∀ j2 W, (k, x) :: m = toks.drop j2 → j2 < toks.length → RdI br b j2 toks.length W → Kd.R k128 128 W w.heap.size (fun _ => True) (.slice (some ⟨b, 0, none⟩) toks.length C) (toks.map s83) →
                Calls Try.prog 45 #[.pointer (some ⟨br, 0, none⟩)] W fun e w' => e = .returned (.agg #[.int .i64 (k : Int), .string (B x)]) ∧ RdI br b (j2 + 1) toks.length w' ∧ W.grownBy w' (some br) by
              intro j2 W h1 h2 h3 h4
              have := take_calls br b j2 toks.length C toks W rfl h3 h2 h4
              rw [drop_get toks j2 h2] at h1
              injection h1 with h1 _
              rw [← h1] at this
              exact this)
            by_cases hk1 : k = 1
            · subst hk1
              have hfield := field0 (1 : Int) (B x)
              go_wp2_with (first | (go_at_call 44; refine (command_calls br b j toks.length C on toks _ rfl HNN.out HH6.out HJ.out.rd (HJ.out.tok HPOS.out)).mono ?_; rintro e2 w2 ⟨on', Aw, nw, cw, At, nt, ct, okb, rfl, hg2, hce⟩; rw [HCM.out] at hce; obtain ⟨rfl, rfl, j2, hr, hrd2, hw2, ht2⟩ := hce; have J2 := Aside0.mk (HJ.out.take hrd2 hg2); have J2a := Aside0.mk (J2.out.new (World.grownBy_alloc _ (.cells #[.int .i64 c.on, .slice Aw nw cw, .slice At nt ct] 124) none)); have HP := Aside0.mk (k124_mkM (w2.alloc (.cells #[.int .i64 c.on, .slice Aw nw cw, .slice At nt ct] 124)) w.heap.size (fun k => wr.heap.size ≤ k) (toS c) (Kd.R_lower (Kd.R_alloc (Kd.R_mono (Kd.R_bound hw2) (fun k hk => hk.2.1)) _) HJ.out.bel.size) (Kd.R_lower (Kd.R_alloc (Kd.R_mono (Kd.R_bound ht2) (fun k hk => hk.2.1)) _) HJ.out.bel.size)); have HS := Aside0.mk (Kd.S_alloc (S_grown_ty (Kd.S_mono (Kd.S_bound HJ.out.out) (ok' := fun k => True ∧ ¬ (wr.heap.size ≤ k)) (fun k hk => ⟨trivial, Nat.not_le_of_lt hk.2.2.1⟩)) hg2 HJ.out.rd.ty (by decide)) (.cells #[.int .i64 c.on, .slice Aw nw cw, .slice At nt ct] 124)); have HW2 := Aside0.mk (HREST.out j2 hr hrd2.1); have HR2 := Aside0.mk hr; clear hr hrd2 hw2 ht2 hg2) | ((with_reducible refine gate_builtin (b := .append) (xs := #[.tmp 36, .tmp 38]) rfl ?_); at_builtin; refine Kd.S_append k124 (w0 := w) w.heap.size rfl (.tmp 36) (.tmp 38) 50 124 (.agg #[.int .i64 0, .slice none 0 0, .slice none 0 0]) 56 rfl Try.underlying50 infoC rfl (by decide) (by omega) (.slice Ao outs.length co) (outs.map toS) (toS c) [.int .i64 c.on, .slice Aw nw cw, .slice At nt ct] (fun _ => True) (fun k => wr.heap.size ≤ k) rfl (by first | (go_simp; done) | (go_simp; rfl)) HP.out (fun k hk => ⟨trivial, fun e => Nat.not_le_of_lt (Kd.S_lt HJ.out.out k e.symm) hk⟩) (fun _ _ => trivial) HS.out J2a.out.bel J2a.out.bel.size (by have := HOL.out; have := HNN.out; rw [List.length_map]; omega) ?_; intro v1 w5 ho hb hg5 hat; obtain ⟨A1, n1, q1, ev⟩ := R_is (Kd.S_R ho); subst ev; rw [show outs.map toS ++ [toS c] = (outs ++ [c]).map toS by simp] at ho; have J5 := Aside0.mk (J2a.out.app hg5 ho); obtain ⟨A5, c5, hc5⟩ := J5.out.rd.cell; rw [show toks.length - j2 = toks.length - j2 - 1 + 1 by have := (HD.out j2 HR2.out).1; omega] at hc5; obtain ⟨n5, hn5⟩ : ∃ n5, toks.length - j2 - 1 = n5 := ⟨_, rfl⟩; rw [hn5] at hc5; clear hn5; have hz5 : (((n5 + 1 : Nat) : Int) == 0) = false := beq_eq_false_iff_ne.2 (by omega); clear ho hb hg5 hat) | (go_at_call 45; refine (HTK.out j2 _ HR2.out (HD.out j2 HR2.out).1 J5.out.rd (J5.out.tok HPOS.out)).mono ?_; rintro e6 w6 ⟨rfl, hr6, hg6⟩; have J6 := Aside0.mk (J5.out.take hr6 hg6); obtain ⟨A6, c6, hc6⟩ := J6.out.rd.cell; clear hr6 hg6))
              go_roundg (gk - 1)
              case measure => have := HW2.out.1; have := (HD.out j2 HR2.out).1; omega
              case rel => exact ⟨j2 + 1, (1 : Int), outs ++ [c], by first | rfl | go_num, by have := (HD.out j2 HR2.out).1; omega, by have := HW2.out.1; have := (HD.out j2 HR2.out).1; omega, ⟨by have := HOL.out; have := HW2.out.1; simp; omega⟩, J6, ⟨by have h1 := HMORE.out 1 x m rfl; rw [if_neg (by simp)] at h1; rw [h1, (HD.out j2 HR2.out).2.1]; try rfl⟩⟩
            · have hfield := field0 (k : Int) (B x)
              have hkz : ((k : Int) == 1) = false := by simp; omega
              by_cases hm : m = []
              · subst hm
                have HRN := Aside0.mk (show resL none = (r1, r2) by rw [← HRES.out, HMORE.out k x [] rfl, if_pos ⟨hk1, rfl⟩])
                go_wp2_with (first | (go_at_call 44; refine (command_calls br b j toks.length C on toks _ rfl HNN.out HH6.out HJ.out.rd (HJ.out.tok HPOS.out)).mono ?_; rintro e2 w2 ⟨on', Aw, nw, cw, At, nt, ct, okb, rfl, hg2, hce⟩; rw [HCM.out] at hce; obtain ⟨rfl, rfl, j2, hr, hrd2, hw2, ht2⟩ := hce; have J2 := Aside0.mk (HJ.out.take hrd2 hg2); have J2a := Aside0.mk (J2.out.new (World.grownBy_alloc _ (.cells #[.int .i64 c.on, .slice Aw nw cw, .slice At nt ct] 124) none)); have HP := Aside0.mk (k124_mkM (w2.alloc (.cells #[.int .i64 c.on, .slice Aw nw cw, .slice At nt ct] 124)) w.heap.size (fun k => wr.heap.size ≤ k) (toS c) (Kd.R_lower (Kd.R_alloc (Kd.R_mono (Kd.R_bound hw2) (fun k hk => hk.2.1)) _) HJ.out.bel.size) (Kd.R_lower (Kd.R_alloc (Kd.R_mono (Kd.R_bound ht2) (fun k hk => hk.2.1)) _) HJ.out.bel.size)); have HS := Aside0.mk (Kd.S_alloc (S_grown_ty (Kd.S_mono (Kd.S_bound HJ.out.out) (ok' := fun k => True ∧ ¬ (wr.heap.size ≤ k)) (fun k hk => ⟨trivial, Nat.not_le_of_lt hk.2.2.1⟩)) hg2 HJ.out.rd.ty (by decide)) (.cells #[.int .i64 c.on, .slice Aw nw cw, .slice At nt ct] 124)); have HW2 := Aside0.mk (HREST.out j2 hr hrd2.1); have HR2 := Aside0.mk hr; clear hr hrd2 hw2 ht2 hg2) | ((with_reducible refine gate_builtin (b := .append) (xs := #[.tmp 36, .tmp 38]) rfl ?_); at_builtin; refine Kd.S_append k124 (w0 := w) w.heap.size rfl (.tmp 36) (.tmp 38) 50 124 (.agg #[.int .i64 0, .slice none 0 0, .slice none 0 0]) 56 rfl Try.underlying50 infoC rfl (by decide) (by omega) (.slice Ao outs.length co) (outs.map toS) (toS c) [.int .i64 c.on, .slice Aw nw cw, .slice At nt ct] (fun _ => True) (fun k => wr.heap.size ≤ k) rfl (by first | (go_simp; done) | (go_simp; rfl)) HP.out (fun k hk => ⟨trivial, fun e => Nat.not_le_of_lt (Kd.S_lt HJ.out.out k e.symm) hk⟩) (fun _ _ => trivial) HS.out J2a.out.bel J2a.out.bel.size (by have := HOL.out; have := HNN.out; rw [List.length_map]; omega) ?_; intro v1 w5 ho hb hg5 hat; obtain ⟨A1, n1, q1, ev⟩ := R_is (Kd.S_R ho); subst ev; rw [show outs.map toS ++ [toS c] = (outs ++ [c]).map toS by simp] at ho; have J5 := Aside0.mk (J2a.out.app hg5 ho); obtain ⟨A5, c5, hc5⟩ := J5.out.rd.cell; rw [show toks.length - j2 = toks.length - j2 - 1 + 1 by have := (HD.out j2 HR2.out).1; omega] at hc5; obtain ⟨n5, hn5⟩ : ∃ n5, toks.length - j2 - 1 = n5 := ⟨_, rfl⟩; rw [hn5] at hc5; clear hn5; have hz5 : (((n5 + 1 : Nat) : Int) == 0) = false := beq_eq_false_iff_ne.2 (by omega); clear ho hb hg5 hat) | (go_at_call 45; refine (HTK.out j2 _ HR2.out (HD.out j2 HR2.out).1 J5.out.rd (J5.out.tok HPOS.out)).mono ?_; rintro e6 w6 ⟨rfl, hr6, hg6⟩; have J6 := Aside0.mk (J5.out.take hr6 hg6); obtain ⟨A6, c6, hc6⟩ := J6.out.rd.cell; rw [show toks.length - (j2 + 1) = 0 by have := (HD.out j2 HR2.out).2.2.mp (by first | rfl | trivial); omega] at hc6; clear hr6 hg6))
                go_ret2
                obtain ⟨rfl, rfl⟩ := Prod.mk.inj HRN.out
                exact ⟨_, rfl, Kd.S_nil _ _ _ _ _, J6.out.bel⟩
              · have HM0 := Aside0.mk hm
                clear hm
                go_wp2_with (first | (go_at_call 44; refine (command_calls br b j toks.length C on toks _ rfl HNN.out HH6.out HJ.out.rd (HJ.out.tok HPOS.out)).mono ?_; rintro e2 w2 ⟨on', Aw, nw, cw, At, nt, ct, okb, rfl, hg2, hce⟩; rw [HCM.out] at hce; obtain ⟨rfl, rfl, j2, hr, hrd2, hw2, ht2⟩ := hce; have J2 := Aside0.mk (HJ.out.take hrd2 hg2); have J2a := Aside0.mk (J2.out.new (World.grownBy_alloc _ (.cells #[.int .i64 c.on, .slice Aw nw cw, .slice At nt ct] 124) none)); have HP := Aside0.mk (k124_mkM (w2.alloc (.cells #[.int .i64 c.on, .slice Aw nw cw, .slice At nt ct] 124)) w.heap.size (fun k => wr.heap.size ≤ k) (toS c) (Kd.R_lower (Kd.R_alloc (Kd.R_mono (Kd.R_bound hw2) (fun k hk => hk.2.1)) _) HJ.out.bel.size) (Kd.R_lower (Kd.R_alloc (Kd.R_mono (Kd.R_bound ht2) (fun k hk => hk.2.1)) _) HJ.out.bel.size)); have HS := Aside0.mk (Kd.S_alloc (S_grown_ty (Kd.S_mono (Kd.S_bound HJ.out.out) (ok' := fun k => True ∧ ¬ (wr.heap.size ≤ k)) (fun k hk => ⟨trivial, Nat.not_le_of_lt hk.2.2.1⟩)) hg2 HJ.out.rd.ty (by decide)) (.cells #[.int .i64 c.on, .slice Aw nw cw, .slice At nt ct] 124)); have HW2 := Aside0.mk (HREST.out j2 hr hrd2.1); have HR2 := Aside0.mk hr; clear hr hrd2 hw2 ht2 hg2) | ((with_reducible refine gate_builtin (b := .append) (xs := #[.tmp 36, .tmp 38]) rfl ?_); at_builtin; refine Kd.S_append k124 (w0 := w) w.heap.size rfl (.tmp 36) (.tmp 38) 50 124 (.agg #[.int .i64 0, .slice none 0 0, .slice none 0 0]) 56 rfl Try.underlying50 infoC rfl (by decide) (by omega) (.slice Ao outs.length co) (outs.map toS) (toS c) [.int .i64 c.on, .slice Aw nw cw, .slice At nt ct] (fun _ => True) (fun k => wr.heap.size ≤ k) rfl (by first | (go_simp; done) | (go_simp; rfl)) HP.out (fun k hk => ⟨trivial, fun e => Nat.not_le_of_lt (Kd.S_lt HJ.out.out k e.symm) hk⟩) (fun _ _ => trivial) HS.out J2a.out.bel J2a.out.bel.size (by have := HOL.out; have := HNN.out; rw [List.length_map]; omega) ?_; intro v1 w5 ho hb hg5 hat; obtain ⟨A1, n1, q1, ev⟩ := R_is (Kd.S_R ho); subst ev; rw [show outs.map toS ++ [toS c] = (outs ++ [c]).map toS by simp] at ho; have J5 := Aside0.mk (J2a.out.app hg5 ho); obtain ⟨A5, c5, hc5⟩ := J5.out.rd.cell; rw [show toks.length - j2 = toks.length - j2 - 1 + 1 by have := (HD.out j2 HR2.out).1; omega] at hc5; obtain ⟨n5, hn5⟩ : ∃ n5, toks.length - j2 - 1 = n5 := ⟨_, rfl⟩; rw [hn5] at hc5; clear hn5; have hz5 : (((n5 + 1 : Nat) : Int) == 0) = false := beq_eq_false_iff_ne.2 (by omega); clear ho hb hg5 hat) | (go_at_call 45; refine (HTK.out j2 _ HR2.out (HD.out j2 HR2.out).1 J5.out.rd (J5.out.tok HPOS.out)).mono ?_; rintro e6 w6 ⟨rfl, hr6, hg6⟩; have J6 := Aside0.mk (J5.out.take hr6 hg6); obtain ⟨A6, c6, hc6⟩ := J6.out.rd.cell; rw [show toks.length - (j2 + 1) = toks.length - (j2 + 1) - 1 + 1 by have := (HD.out j2 HR2.out).1; have := mt (HD.out j2 HR2.out).2.2.2 HM0.out; omega] at hc6; obtain ⟨n6, hn6⟩ : ∃ n6, toks.length - (j2 + 1) - 1 = n6 := ⟨_, rfl⟩; rw [hn6] at hc6; clear hn6; have hz6 : ((n6 : Int) + 1 == 0) = false := beq_eq_false_iff_ne.2 (by omega); clear hr6 hg6))
                go_roundg (gk - 1)
                case measure => have := HW2.out.1; have := (HD.out j2 HR2.out).1; omega
                case rel => exact ⟨j2 + 1, (k : Int), outs ++ [c], by first | rfl | go_num, by have := (HD.out j2 HR2.out).1; omega, by have := HW2.out.1; have := (HD.out j2 HR2.out).1; omega, ⟨by have := HOL.out; have := HW2.out.1; simp; omega⟩, J6, ⟨by have h1 := HMORE.out k x m rfl; rw [if_neg (fun h => HM0.out h.2)] at h1; rw [h1, (HD.out j2 HR2.out).2.1]; try rfl⟩⟩
      · have hj' : j = toks.length := by omega
        subst hj'
        rw [Nat.sub_self] at hc0
        have HRN := Aside0.mk (show resL (some outs) = (r1, r2) by rw [← HRES.out, ← HR.out, List.drop_length, lineS_nil])
        go_wp2
        go_ret2
        obtain ⟨rfl, rfl⟩ := Prod.mk.inj HRN.out
        exact ⟨_, rfl, HJ.out.out, HJ.out.bel⟩
end Go.Proofs.Ytmpheeanjjfddaa.X
/- parse.Right as a plain function, with its contract; condition: fewer than 1000000000 commands, and ways of each. -/
namespace Go.Proofs.Ytmpheeanjjfddaa.X
open Go.RowKit Go.Proofs.YtmpheeanjjfddaaW.PrintWords Go.Proofs.YtmpheeanjjfddaaW.PrintLast Go.Proofs.YtmpheeanjjfddaaW.PrintMore Go.Proofs.Ytmpheeanjjfddaa.XW05 Go.Proofs.Ytmpheeanjjfddaa.XT06
set_option linter.unusedSimpArgs false
set_option linter.unusedVariables false

theorem add_none (b o j : Nat) : (⟨b, o, none⟩ : Addr).add j = ⟨b, o + j, none⟩ := by unfold Addr.add; split <;> simp_all
/-- A row that is read: where it lies, and each element's cells. -/
theorem C_form {α : Type} {d : Kd α} {w : World} {A : Option Addr} {n : Nat} {xs : List α} (h : d.C w A n xs) (hn : 0 < n) (hs : 0 < d.sz) :
    ∃ b o, A = some ⟨b, o, none⟩ ∧ b < w.heap.size ∧ ∀ (j : Nat) (hj : j < xs.length), ∃ c, c.length = d.sz ∧ d.K w xs[j] c ∧ ∀ i u, c[i]? = some u → w.cell? ⟨b, o + (j * d.sz + i), none⟩ = some u := by
  obtain ⟨h1, h2, h3⟩ := h
  obtain ⟨⟨b, o, s⟩, rfl, hc⟩ := h3 hn
  obtain ⟨c0, hc0, hk0, hcc0⟩ := hc 0 xs[0] (List.getElem?_eq_getElem (by omega))
  have h0 := hcc0 0 c0[0] (List.getElem?_eq_getElem (by omega))
  have hsn : s = none := by
    cases s with
    | none => rfl
    | some s => simp [Addr.add, World.cell?] at h0; split at h0 <;> simp at h0
  subst hsn
  rw [add_none] at h0
  refine ⟨b, o, rfl, World.block_lt_of_cell? w _ h0, ?_⟩
  intro j hj
  obtain ⟨c, hcl, hk, hcc⟩ := hc j xs[j] (List.getElem?_eq_getElem hj)
  refine ⟨c, hcl, hk, fun i u hi => ?_⟩
  have := hcc i u hi
  rw [add_none] at this
  exact this
theorem toRow {w : World} {A : Option Addr} {n : Nat} {xs : List S134} (h : Kd.C k134 w A n xs) (hn : 0 < n) :
    ∃ b o, A = some ⟨b, o, none⟩ ∧ b < w.heap.size ∧ ∀ (j : Nat) (hj : j < xs.length), w.cell? ⟨b, o + j * 2, none⟩ = some (.int .i64 xs[j].f0) ∧ w.cell? ⟨b, o + j * 2 + 1, none⟩ = some (.string xs[j].f1) := by
  obtain ⟨b, o, rfl, hb, hc⟩ := C_form h hn (show 0 < k134.sz by decide)
  refine ⟨b, o, rfl, hb, fun j hj => ?_⟩
  obtain ⟨c, hcl, hk, hcc⟩ := hc j hj
  obtain rfl := k134_open hk
  exact ⟨hcc 0 _ rfl, hcc 1 _ rfl⟩
theorem cmdRow {w : World} {A : Option Addr} {n : Nat} {xs : List S124} (h : Kd.C k124 w A n xs) (hn : 0 < n) :
    ∃ b o, A = some ⟨b, o, none⟩ ∧ b < w.heap.size ∧ ∀ (j : Nat) (hj : j < xs.length), ∃ A1 c1 A2 c2, w.cell? ⟨b, o + j * 3, none⟩ = some (.int .i64 xs[j].f0) ∧ w.cell? ⟨b, o + j * 3 + 1, none⟩ = some (.slice A1 xs[j].f1.length c1) ∧ w.cell? ⟨b, o + j * 3 + 2, none⟩ = some (.slice A2 xs[j].f2.length c2) ∧
      xs[j].f1.length ≤ c1 ∧ Kd.string.C w A1 xs[j].f1.length xs[j].f1 ∧ xs[j].f2.length ≤ c2 ∧ Kd.C k134 w A2 xs[j].f2.length xs[j].f2 := by
  obtain ⟨b, o, rfl, hb, hc⟩ := C_form h hn (show 0 < k124.sz by decide)
  refine ⟨b, o, rfl, hb, fun j hj => ?_⟩
  obtain ⟨c, hcl, hk, hcc⟩ := hc j hj
  obtain ⟨A1, c1, A2, c2, rfl, l1, g1, l2, g2⟩ := k124_open hk
  exact ⟨A1, c1, A2, c2, hcc 0 _ rfl, hcc 1 _ rfl, hcc 2 _ rfl, l1, g1, l2, g2⟩

end Go.Proofs.Ytmpheeanjjfddaa.X
/- flatironlaw06.Of: commands, as the document has them, as a contract; condition: fewer than 1000000000 commands, and ways of each. -/
namespace Go.Proofs.Ytmpheeanjjfddaa.X
open Go.RowKit Go.Proofs.YtmpheeanjjfddaaW.PrintWords Go.Proofs.YtmpheeanjjfddaaW.PrintLast Go.Proofs.YtmpheeanjjfddaaW.PrintMore Go.Proofs.Ytmpheeanjjfddaa.XW05 Go.Proofs.Ytmpheeanjjfddaa.XT06
set_option linter.unusedSimpArgs false
set_option linter.unusedVariables false

def cT (t : S134) : S136 := ⟨t.f0, t.f1⟩
def cC (x : S124) : S132 := ⟨x.f0, x.f1, x.f2.map cT⟩
/-- A slice that is no row of the call's own: its three words alone. -/
def slEnc (x : Option Addr × Nat × Nat) : Value := .slice x.1 x.2.1 x.2.2
def kSl : Kd (Option Addr × Nat × Nat) := Kd.scalar slEnc (fun _ => rfl)
def kRC : Kd (Int × (Option Addr × Nat × Nat) × List S136) := Kd.pair (Kd.int .i64) (Kd.pair kSl (Kd.slice 136 k136))
abbrev RCg := Int × (Option Addr × Nat × Nat) × List S136
theorem kRC_mkM (w : World) (base : Nat) (ok : Nat → Prop) (a : Int) (A : Option Addr) (n c : Nat) (ts : List S136) {v : Value} (h : Kd.R k136 136 w base ok v ts) : kRC.M w base ok (a, (A, n, c), ts) [.int .i64 a, .slice A n c, v] :=
  ⟨[.int .i64 a], [.slice A n c, v], rfl, rfl, ⟨[.slice A n c], [v], rfl, rfl, ⟨v, rfl, h⟩⟩⟩
def relC (w : World) (x : S124) (g : RCg) : Prop := g.1 = x.f0 ∧ g.2.1.2.1 = x.f1.length ∧ x.f1.length ≤ g.2.1.2.2 ∧ Kd.string.C w g.2.1.1 x.f1.length x.f1 ∧ g.2.2 = x.f2.map cT
def allC (w : World) (xs : List S124) (gs : List RCg) : Prop := gs.length = xs.length ∧ ∀ j (h1 : j < xs.length) (h2 : j < gs.length), relC w xs[j] gs[j]
theorem allC_snoc {w : World} {xs : List S124} {gs : List RCg} {x : S124} {g : RCg} (h : allC w xs gs) (hx : relC w x g) : allC w (xs ++ [x]) (gs ++ [g]) := by
  refine ⟨by simp [h.1], fun j h1 h2 => ?_⟩
  by_cases hj : j < xs.length
  · rw [List.getElem_append_left hj, List.getElem_append_left (by rw [h.1]; exact hj)]
    exact h.2 j hj _
  · have e : j = xs.length := by simp at h1; omega
    subst e
    rw [List.getElem_append_right (by omega), List.getElem_append_right (by rw [h.1]; omega)]
    simpa [h.1] using hx
theorem C_conv {w W : World} {A : Option Addr} {n : Nat} {L : List S124} {gs : List RCg} (h : Kd.C kRC W A n gs) (hr : allC w L gs) (hb : Below w.heap.size w W) : Kd.C k132 W A n (L.map cC) := by
  obtain ⟨h1, h2, h3⟩ := h
  refine ⟨by rw [List.length_map, ← hr.1]; exact h1, h2, fun hn => ?_⟩
  obtain ⟨ad, e, hc⟩ := h3 hn
  refine ⟨ad, e, fun j p hj => ?_⟩
  obtain ⟨hj1, hj2⟩ := List.getElem?_eq_some_iff.1 hj
  rw [List.length_map] at hj1
  have hj3 : j < gs.length := by rw [hr.1]; exact hj1
  obtain ⟨c, hcl, hk, hcc⟩ := hc j gs[j] (List.getElem?_eq_getElem hj3)
  refine ⟨c, hcl, ?_, hcc⟩
  obtain ⟨r1, r2, r3, r4, r5⟩ := hr.2 j hj1 hj3
  rw [List.getElem_map] at hj2
  subst hj2
  obtain ⟨_, _, rfl, rfl, ⟨_, _, rfl, rfl, ⟨A2, c2, rfl, l2, g2⟩⟩⟩ := hk
  have e1 : kSl = Kd.scalar slEnc (fun _ => rfl) := rfl
  rw [r1, r5] at *
  have hs : slEnc gs[j].2.1 = .slice gs[j].2.1.1 L[j].f1.length gs[j].2.1.2.2 := by rw [← r2]; rfl
  rw [hs]
  exact k132_mk W (cC L[j]) r3 (Kd.C_below r4 hb) l2 g2
/-- What holds between the rounds of the inner loop. -/
structure OI (w : World) (N0 : Nat) (a : Int) (A1 : Option Addr) (n1 c1 : Nat) (vo : Value) (gs : List RCg) (vt : Value) (ts : List S136) (W : World) : Prop where
  box : W.heap[N0 + 1]? = some (.cells #[.int .i64 a, .slice A1 n1 c1, vt] 132 (0, 0))
  row : Kd.R k136 136 W N0 (fun _ => True) vt ts
  out : Kd.R kRC 132 W w.heap.size (fun k => k < N0) vo gs
  bel : Below w.heap.size w W
  le : w.heap.size ≤ N0
section
variable {w W W1 : World} {N0 n1 c1 : Nat} {a : Int} {A1 : Option Addr} {vo vt : Value} {gs : List RCg} {ts : List S136}
theorem OI.lt (h : OI w N0 a A1 n1 c1 vo gs vt ts W) : N0 + 1 < W.heap.size := blk_lt h.box
theorem OI.new (h : OI w N0 a A1 n1 c1 vo gs vt ts W) (hb : Below W.heap.size W W1) : OI w N0 a A1 n1 c1 vo gs vt ts W1 :=
  ⟨blk_below h.box hb, Kd.R_below h.row hb, Kd.R_below h.out hb, below_step h.bel hb, h.le⟩
theorem OI.app (h : OI w N0 a A1 n1 c1 vo gs vt ts W) {v1 : Value} {ts1 : List S136} (hg : W.grownBy W1 vt.ownBlock) (ho : Kd.R k136 136 W1 N0 (fun _ => True) v1 ts1) :
    OI w N0 a A1 n1 c1 vo gs v1 ts1 (W1.setCell ⟨N0 + 1, 2, none⟩ v1) := by
  have hbx := blk_grown_ty h.box hg (R_row_ty h.row) (by decide)
  have hs := World.grownBy_set W1 (N0 + 1) 2 v1
  have hst : ∀ k, some (N0 + 1) = some k → ∃ cells, W1.heap[k]? = some (.cells cells 132 (0, 0)) := by
    intro k hk; injection hk with hk; subst hk; exact ⟨_, hbx⟩
  refine ⟨blk_put hbx 2 v1 rfl, R_grown_ty ho hs hst (by decide), ?_, ?_, h.le⟩
  · refine Kd.R_grown (Kd.R_grown h.out hg (fun k hk e => ?_)) hs (fun k hk e => ?_)
    · have := Kd.R_base h.row k e.symm; omega
    · injection e with e; omega
  · have h1 := h.bel.grown hg h.bel.size (fun k hk => Nat.le_trans h.le (Kd.R_base h.row k hk))
    exact h1.grown hs h1.size (fun k hk => by injection hk with hk; have := h.le; omega)
end
set_option maxRecDepth 100000 in
set_option maxHeartbeats 8000000 in
theorem of_calls (A : Option Addr) (c : Nat) (L : List S124) (w : World) (hC : Kd.C k124 w A L.length L) (hl : L.length < 1000000000) (hls : ∀ z ∈ L, z.f2.length < 1000000000) :
    Calls Try.prog 18 #[.slice A L.length c] w fun e w' => ∃ A' c', e = .returned (.slice A' L.length c') ∧ L.length ≤ c' ∧ Kd.C k132 w' A' L.length (L.map cC) ∧ Below w.heap.size w w' := by
  have infoC : (Try.prog.info? 132).map (fun i => (i.zero, i.size, i.bytes)) = some (some (.agg #[.int .i64 0, .slice none 0 0, .slice none 0 0]), 3, 56) := by kernel_rfl
  have infoT : (Try.prog.info? 136).map (fun i => (i.zero, i.size, i.bytes)) = some (some (.agg #[.int .i64 0, .string ⟨#[]⟩]), 2, 24) := by kernel_rfl
  have HC := Aside0.mk hC
  have HLS := Aside0.mk hls
  clear hC hls
  go_enter Try.func18, Try.ntmps18
  go_wp2
  go_loopg [3, 11] L.length (fun g v3 v11 wr => ∃ (wo : World) (i : Nat) (gs : List RCg), wo = wr ∧ i ≤ L.length ∧ L.length - i ≤ g ∧ v11 = .int .i64 (i : Int) ∧ Aside0 (Kd.R kRC 132 wr w.heap.size (fun _ => True) v3 gs) ∧ Aside0 (Below w.heap.size w wr) ∧ Aside0 (allC w (L.take i) gs))
  case atStart => exact ⟨_, 0, [], rfl, Nat.zero_le _, by omega, rfl, ⟨Kd.R_nil _ _ _ _ _⟩, ⟨Below.refl _ _⟩, ⟨⟨rfl, by simp⟩⟩⟩
  case round =>
    obtain ⟨wo, i, gs, rfl, hi, hg, rfl, HO, HB, HA⟩ := hrel
    obtain ⟨Ao, co, eo⟩ := Kd.R_slice HO.out
    have hgl : gs.length = i := by have := HA.out.1; rw [this]; simp; omega
    rw [hgl] at eo
    subst eo
    by_cases hlt : i < L.length
    · obtain ⟨b, o, rfl, hb, hcc⟩ := cmdRow HC.out (by omega)
      obtain ⟨A1, c1, A2, c2, d0, d1, d2, l1, g1, l2, g2⟩ := hcc i hlt
      obtain ⟨x, hx⟩ : ∃ x, L[i] = x := ⟨_, rfl⟩
      rw [hx] at d0 d1 d2 l1 g1 l2 g2
      have HX := Aside0.mk hx
      have d0 := (HB.out.cell (World.block_lt_of_cell? w _ d0)).trans d0
      have d1 := (HB.out.cell (World.block_lt_of_cell? w _ d1)).trans d1
      have d2 := (HB.out.cell (World.block_lt_of_cell? w _ d2)).trans d2
      have HG1 := Aside0.mk (And.intro l1 g1)
      have HG2 := Aside0.mk g2
      have HXL := Aside0.mk (show x.f2.length < 1000000000 from HLS.out x (by rw [← hx]; exact List.getElem_mem _))
      clear hcc hx l1 g1 l2 g2
      obtain ⟨go, hgo⟩ : ∃ x, gk = x := ⟨_, rfl⟩
      have b5 := blk_new wo (.cells #[.int .i64 x.f0, .slice A1 x.f1.length c1, .slice A2 x.f2.length c2] 124 (0, 0))
      have f0 : (wo.alloc (.cells #[.int .i64 x.f0, .slice A1 x.f1.length c1, .slice A2 x.f2.length c2] 124)).cell? ⟨wo.heap.size, 0, none⟩ = some (.int .i64 x.f0) := blk_cell b5 0
      have f1 : (wo.alloc (.cells #[.int .i64 x.f0, .slice A1 x.f1.length c1, .slice A2 x.f2.length c2] 124)).cell? ⟨wo.heap.size, 1, none⟩ = some (.slice A1 x.f1.length c1) := blk_cell b5 1
      have f2 : ((wo.alloc (.cells #[.int .i64 x.f0, .slice A1 x.f1.length c1, .slice A2 x.f2.length c2] 124)).alloc (.cells #[.int .i64 x.f0, .slice A1 x.f1.length c1, .slice none 0 0] 132)).cell? ⟨wo.heap.size, 2, none⟩ = some (.slice A2 x.f2.length c2) := blk_cell (blk_alloc b5 _) 2
      have b6 := blk_new (wo.alloc (.cells #[.int .i64 x.f0, .slice A1 x.f1.length c1, .slice A2 x.f2.length c2] 124)) (.cells #[.int .i64 x.f0, .slice A1 x.f1.length c1, .slice none 0 0] 132 (0, 0))
      rw [show (wo.alloc (.cells #[.int .i64 x.f0, .slice A1 x.f1.length c1, .slice A2 x.f2.length c2] 124)).heap.size = wo.heap.size + 1 by simp] at b6
      have hw6 : Below wo.heap.size wo ((wo.alloc (.cells #[.int .i64 x.f0, .slice A1 x.f1.length c1, .slice A2 x.f2.length c2] 124)).alloc (.cells #[.int .i64 x.f0, .slice A1 x.f1.length c1, .slice none 0 0] 132)) := below_alloc (below_alloc (Below.refl _ _) _) _
      have HJ0 := Aside0.mk (show OI w wo.heap.size x.f0 A1 x.f1.length c1 (.slice Ao i co) gs (.slice none 0 0) [] ((wo.alloc (.cells #[.int .i64 x.f0, .slice A1 x.f1.length c1, .slice A2 x.f2.length c2] 124)).alloc (.cells #[.int .i64 x.f0, .slice A1 x.f1.length c1, .slice none 0 0] 132)) from
        ⟨b6, Kd.R_nil _ _ _ _ _, Kd.R_below (Kd.R_mono (Kd.R_bound HO.out) (ok' := fun k => k < wo.heap.size) (fun k hk => hk.2.2.1)) hw6, below_step HB.out hw6, HB.out.size⟩)
      clear b5 b6 hw6 HO
      go_wp2
      go_loopg [23] x.f2.length (fun g v23 wi => ∃ (k : Nat) (ts : List S136) (vt : Value), k ≤ x.f2.length ∧ x.f2.length - k ≤ g ∧ v23 = .int .i64 (k : Int) ∧ Aside0 (OI w wo.heap.size x.f0 A1 x.f1.length c1 (.slice Ao i co) gs vt ts wi) ∧ Aside0 (ts = (x.f2.take k).map cT))
      case atStart => exact ⟨0, [], _, Nat.zero_le _, by omega, rfl, HJ0, ⟨by simp⟩⟩
      case round =>
        obtain ⟨k, ts, vt, hk, hgi, rfl, HJ, HT⟩ := hrel
        obtain ⟨At, ct, et⟩ := Kd.R_slice HJ.out.row
        have htl : ts.length = k := by rw [HT.out]; simp; omega
        rw [htl] at et
        subst et
        by_cases hlk : k < x.f2.length
        · obtain ⟨b2, o2, rfl, hb2, hcc2⟩ := toRow (Kd.C_below HG2.out HJ.out.bel) (by omega)
          obtain ⟨q0, q1⟩ := hcc2 k hlk
          obtain ⟨z, hz⟩ : ∃ z, x.f2[k] = z := ⟨_, rfl⟩
          rw [hz] at q0 q1
          have HZ := Aside0.mk hz
          have HJ8 := Aside0.mk (HJ.out.new (below_alloc (Below.refl _ _) (.cells #[.int .i64 z.f0, .string z.f1] 134)))
          have b8 := blk_new wr (.cells #[.int .i64 z.f0, .string z.f1] 134 (0, 0))
          have p0 := blk_cell b8 0
          have p1 := blk_cell b8 1
          have p2 : (wr.alloc (.cells #[.int .i64 z.f0, .string z.f1] 134)).cell? ⟨wo.heap.size + 1, 2, none⟩ = some (.slice At k ct) := blk_cell HJ8.out.box 2
          have htl' : ts.length < 1000000000 := by have := HXL.out; omega
          clear hcc2 hz b8
          go_wp2_with ((with_reducible refine gate_builtin (b := .append) (xs := #[.tmp 28, .tmp 34]) rfl ?_); at_builtin; refine Kd.R_append k136 (w0 := wr.alloc (.cells #[.int .i64 z.f0, .string z.f1] 134)) wo.heap.size rfl (.tmp 28) (.tmp 34) 130 136 (.agg #[.int .i64 0, .string ⟨#[]⟩]) 24 rfl Try.underlying130 infoT rfl (by decide) (by omega) (.slice At k ct) ts (⟨z.f0, z.f1⟩ : S136) [.int .i64 z.f0, .string z.f1] (fun _ => True) (fun _ => False) rfl (by first | (go_simp; done) | (go_simp; rfl)) (k136_mkM _ _ _ _) (fun _ hk => hk.elim) (fun _ _ => trivial) HJ8.out.row (Below.refl _ _) (by have := HJ8.out.lt; omega) (by have := HXL.out; rw [htl]; omega) ?_; intro v1 w5 ho hb hg5 hat; obtain ⟨Av, nv, cv, ev⟩ := R_is ho; subst ev; have J5 := Aside0.mk (HJ8.out.app hg5 ho); have hbx := blk_grown_ty HJ8.out.box hg5 (R_row_ty HJ8.out.row) (by decide); have s1 := blk_cell hbx 2; have s2 := blk_frozen hbx 2; clear ho hb hg5 hat hbx)
          go_roundg (gk - 1)
          case measure => omega
          case rel => exact ⟨k + 1, ts ++ [⟨z.f0, z.f1⟩], _, by omega, by omega, by go_num, J5, ⟨by rw [List.take_succ_eq_append_getElem hlk, List.map_append, ← HT.out, HZ.out]; rfl⟩⟩
        · have hk' : k = x.f2.length := by omega
          subst hk'
          have HTT := Aside0.mk (show ts = x.f2.map cT by rw [HT.out, List.take_length])
          have e0 := blk_cell HJ.out.box 0
          have e1 := blk_cell HJ.out.box 1
          have e2 := blk_cell HJ.out.box 2
          have HPM := Aside0.mk (kRC_mkM wr w.heap.size (fun k => wo.heap.size ≤ k) x.f0 A1 x.f1.length c1 ts (Kd.R_lower (Kd.R_mono (Kd.R_bound HJ.out.row) (fun k hk => hk.2.1)) HJ.out.le))
          have HOO := Aside0.mk (Kd.R_mono HJ.out.out (ok' := fun _ => True) (fun _ _ => trivial))
          go_wp2_with ((with_reducible refine gate_builtin (b := .append) (xs := #[.tmp 38, .tmp 40]) rfl ?_); at_builtin; refine Kd.R_append kRC (w0 := wr) (W := wr) w.heap.size rfl (.tmp 38) (.tmp 40) 53 132 (.agg #[.int .i64 0, .slice none 0 0, .slice none 0 0]) 56 rfl Try.underlying53 infoC rfl (by decide) (by omega) (.slice Ao i co) gs (x.f0, (A1, x.f1.length, c1), ts) [.int .i64 x.f0, .slice A1 x.f1.length c1, .slice At x.f2.length ct] (fun _ => True) (fun k => wo.heap.size ≤ k) rfl rfl HPM.out (fun k hk => ⟨trivial, fun e => Nat.not_le_of_lt (HJ.out.out.1 k e.symm) hk⟩) (fun _ _ => trivial) HOO.out (Below.refl _ _) HJ.out.bel.size (by rw [hgl]; omega) ?_; intro v1 w5 ho hb hg5 hat; have HO5 := Aside0.mk ho; have HB5 := Aside0.mk (HJ.out.bel.grown hg5 HJ.out.bel.size (Kd.R_base HOO.out)); clear ho hb hg5 hat)
          go_roundg (go - 1)
          case measure => omega
          case rel => exact ⟨_, i + 1, gs ++ [(x.f0, (A1, x.f1.length, c1), ts)], rfl, by omega, by omega, by go_num, HO5, HB5, ⟨by rw [List.take_succ_eq_append_getElem hlt, HX.out]; exact allC_snoc HA.out ⟨rfl, rfl, HG1.out.1, HG1.out.2, HTT.out⟩⟩⟩
    · have hi' : i = L.length := by omega
      subst hi'
      go_wp2
      go_ret
      obtain ⟨q1, q2, q3⟩ := Kd.R_reads' HO.out
      have q3 := C_conv q3 (by have := HA.out; rw [List.take_length] at this; exact this) HB.out
      rw [hgl] at q3
      exact ⟨_, _, rfl, q2, q3, HB.out⟩
end Go.Proofs.Ytmpheeanjjfddaa.X
/- The reference's Is and Of, Pairs: what they say. Plain Lean. -/
namespace Go.Proofs.Ytmpheeanjjfddaa.X
open Go.RowKit Go.Proofs.YtmpheeanjjfddaaW.PrintWords Go.Proofs.YtmpheeanjjfddaaW.PrintLast Go.Proofs.YtmpheeanjjfddaaW.PrintMore Go.Proofs.Ytmpheeanjjfddaa.XW05 Go.Proofs.Ytmpheeanjjfddaa.XT06
set_option linter.unusedSimpArgs false
set_option linter.unusedVariables false

def rD (c : Cmd) : S132 := cC (toS c)
def pR (p : List UInt8 × List UInt8) : S69 := ⟨B p.1, B p.2⟩
theorem rd_map' {α β : Type} (f : α → β) (z : β) (l : List α) (i : Nat) (h : i < l.length) : (l.map f).getD ((i : Int)).toNat z = f l[i] := by
  rw [show ((i : Int)).toNat = i from rfl, List.getD_eq_getElem?_getD, List.getElem?_map, List.getElem?_eq_getElem h]
  rfl
theorem refIs_loop (cs : List Cmd) (hcs : cs.length < 1000000000) (name : List UInt8) : ∀ i, i ≤ cs.length → Ev (fun k => flatironref19_Is.l0 k (cs.map rD) (B name) (i : Int)) (isU (cs.drop i) name) := by
  refine upto_ind ?_ ?_
  · refine Ev.step (fun k => by rw [flatironref19_Is.l0]) ?_
    refine Ev.neg (by rw [List.length_map]; omega) ?_
    rw [List.drop_length]
    exact Ev.ret _
  · intro i hi ih
    rw [drop_get cs i hi]
    have r : rd_T132 (cs.map rD) (i : Int) = rD cs[i] := rd_map' rD _ cs i hi
    refine Ev.step (fun k => by rw [flatironref19_Is.l0]) ?_
    rw [r, wrap_succ i (by omega)]
    have e1 : (rD cs[i]).f1 = cs[i].words.map B := rfl
    rw [e1]
    refine Ev.pos (by rw [List.length_map]; omega) ?_
    refine Ev.pos (by omega) ?_
    have hu : isU (cs[i] :: cs.drop (i + 1)) name = ((match cs[i].words with | [] => false | y :: _ => y == name) || isU (cs.drop (i + 1)) name) := by
      unfold isU
      rw [List.any_cons]
      cases cs[i].words <;> rfl
    rw [hu]
    cases hw : cs[i].words with
    | nil =>
      refine Ev.neg (by simp) ?_
      rw [Bool.false_or]
      exact ih
    | cons y ys =>
      refine Ev.pos (by simp only [List.map_cons, List.length_cons]; omega) ?_
      refine Ev.pos (by simp only [List.map_cons, List.length_cons]; omega) ?_
      have e2 : rdOf ByteArray.empty ((y :: ys).map B) 0 = B y := rfl
      rw [e2]
      refine Ev.iff (show ((B y).toList = (B name).toList) = (y = name) by rw [B_toList, B_toList]) ?_ ?_
      · intro h
        refine Ev.eq (Ev.ret _) ?_
        have : (y == name) = true := by simpa using h
        show true = ((y == name) || _)
        rw [this]; rfl
      · intro h
        have : (y == name) = false := by simpa using h
        show Ev _ ((y == name) || _)
        rw [this, Bool.false_or]
        exact ih
theorem refIs_ev (cs : List Cmd) (hcs : cs.length < 1000000000) (name : List UInt8) : Ev (fun k => flatironref19_Is.f k (cs.map rD) (B name)) (isU cs name) := by
  refine Ev.congr (fun k => by rw [flatironref19_Is.f]) ?_
  exact refIs_loop cs hcs name 0 (Nat.zero_le _)
def resC (o : Option CallU) : ByteArray × List ByteArray × List S69 × Bool := match o with | none => (⟨#[]⟩, [], [], false) | some c => (B c.1, c.2.1.map B, c.2.2.map pR, true)
theorem head45 (w : List UInt8) (h : ¬ w = []) : (w.head? = some 45) = (bt (B w) 0 = 45) := by
  cases w with
  | nil => exact absurd rfl h
  | cons b r =>
    have hb := bt_B (b :: r) 0 (by simp)
    rw [show ((0 : Nat) : Int) = 0 from rfl] at hb
    rw [hb]
    show (some b = some 45) = _
    have := u8_num b 45 (by omega)
    exact (propext ⟨fun h => Option.some.inj h, fun h => congrArg some h⟩ : (some b = some 45) = (b = 45)).trans this.symm
set_option maxRecDepth 100000 in
theorem refOf_loop (ws : List (List UInt8)) (hws : ws.length < 1000000000) (hy : ∀ y ∈ ws, y.length < 100000000) : ∀ d i, ws.length - i ≤ d → i ≤ ws.length → ∀ (dir : List UInt8) (goals : List (List UInt8)) (vars : List (List UInt8 × List UInt8)), dir.length ≤ 1 + i * 100000001 → goals.length ≤ i → vars.length ≤ i →
    Ev (fun k => flatironref19_Of.l0 k (ws.map B) (i : Int) (B dir) (goals.map B) (vars.map pR)) (resC (ofS dir goals vars (ws.drop i))) := by
  intro d
  induction d with
  | zero =>
    intro i hd hi dir goals vars h1 h2 h3
    rw [List.drop_eq_nil_of_le (by omega), ofS_nil]
    refine Ev.step (fun k => by rw [flatironref19_Of.l0]) ?_
    refine Ev.neg (by rw [List.length_map]; omega) ?_
    exact Ev.ret _
  | succ d ih =>
    intro i hd hi dir goals vars h1 h2 h3
    by_cases hlt : i < ws.length
    · obtain ⟨y, hyy⟩ : ∃ y, ws[i] = y := ⟨_, rfl⟩
      have hyl := hy y (by rw [← hyy]; exact List.getElem_mem _)
      rw [drop_get ws i hlt, hyy]
      have r : rdOf ByteArray.empty (ws.map B) (i : Int) = B y := by rw [rdOf_get _ _ _ (by rw [List.length_map]; exact hlt), List.getElem_map, hyy]
      have hw := wrap_succ i (by omega)
      obtain ⟨sn, st, hset, hsp⟩ := refset_ev y hyl
      refine Ev.step (fun k => by rw [flatironref19_Of.l0]) ?_
      rw [r]
      refine Ev.pos (by rw [List.length_map]; omega) ?_
      refine Ev.pos (by omega) ?_
      refine Ev.bind hset ?_
      -- the ways but '-C'
      have rest : ¬ (y = [45, 67] ∧ ws.drop (i + 1) ≠ []) → Ev (fun k => flatironref19_Of.j2 k (ws.map B) (i : Int) (setU y).isSome false (B dir) (goals.map B) (vars.map pR) sn st) (resC (ofS dir goals vars (y :: ws.drop (i + 1)))) := by
        intro hno
        refine Ev.step (fun k => by rw [flatironref19_Of.j2]) ?_
        refine Ev.neg (by simp) ?_
        rw [r]
        refine Ev.pos (by omega) ?_
        refine Ev.pos (by rw [List.length_map]; omega) ?_
        by_cases hbad : y = [] ∨ y.head? = some 45
        · rw [ofS_bad dir y goals vars _ hno hbad]
          have j3 : Ev (fun k => flatironref19_Of.j3 k (ws.map B) (i : Int) (setU y).isSome true (B dir) (goals.map B) (vars.map pR) sn st) (resC none) := by
            refine Ev.step (fun k => by rw [flatironref19_Of.j3]) ?_
            refine Ev.pos rfl ?_
            exact Ev.ret _
          refine Ev.iff (show ((B y).toList = []) = (y = []) by rw [B_toList]) ?_ ?_
          · intro _; exact j3
          · intro hne
            refine Ev.pos (by rw [B_size]; have := List.length_pos_iff.2 hne; omega) ?_
            have h45 : bt (B y) 0 = 45 := (head45 y hne) ▸ (hbad.resolve_left hne)
            rw [show (bt (B y) 0 == 45) = true by rw [h45]; rfl]
            exact j3
        · have hne : ¬ y = [] := fun h => hbad (.inl h)
          have hn45 : ¬ y.head? = some 45 := fun h => hbad (.inr h)
          refine Ev.neg (by rw [B_toList]; exact hne) ?_
          refine Ev.pos (by rw [B_size]; have := List.length_pos_iff.2 hne; omega) ?_
          rw [show (bt (B y) 0 == 45) = false by rw [beq_eq_false_iff_ne]; exact fun h => hn45 ((head45 y hne).symm ▸ h)]
          refine Ev.step (fun k => by rw [flatironref19_Of.j3]) ?_
          refine Ev.neg (by simp) ?_
          rw [hw, r]
          cases hs : setU y with
          | some p =>
            rw [ofS_var dir y goals vars _ hbad p hs]
            obtain ⟨e1, e2⟩ := hsp p hs
            refine Ev.pos rfl ?_
            refine Ev.pos (by rw [List.length_map]; omega) ?_
            have := ih (i + 1) (by omega) (by omega) dir goals (vars ++ [p]) (Nat.le_trans h1 (Nat.add_le_add_left (Nat.mul_le_mul_right _ (Nat.le_succ i)) 1)) (by omega) (by simp; omega)
            rw [List.map_append] at this
            rw [e1, e2]
            exact this
          | none =>
            rw [ofS_goal dir y goals vars _ hbad hs]
            refine Ev.neg (by simp) ?_
            refine Ev.pos (by omega) ?_
            refine Ev.pos (by rw [List.length_map]; omega) ?_
            refine Ev.pos (by rw [List.length_map]; omega) ?_
            have := ih (i + 1) (by omega) (by omega) dir (goals ++ [y]) vars (Nat.le_trans h1 (Nat.add_le_add_left (Nat.mul_le_mul_right _ (Nat.le_succ i)) 1)) (by simp; omega) (by omega)
            rw [List.map_append] at this
            exact this
      refine Ev.iff (show ((B y).toList = ([45, 67] : List UInt8)) = (y = [45, 67]) by rw [B_toList]) ?_ ?_
      · intro hyc
        rw [hw, List.length_map]
        by_cases h2' : i + 1 < ws.length
        · rw [decide_eq_true (by omega : ((i + 1 : Nat) : Int) < (ws.length : Int))]
          obtain ⟨z, hz⟩ : ∃ z, ws[i + 1] = z := ⟨_, rfl⟩
          have hzl := hy z (by rw [← hz]; exact List.getElem_mem _)
          have rz : rdOf ByteArray.empty (ws.map B) ((i + 1 : Nat) : Int) = B z := by rw [rdOf_get _ _ _ (by rw [List.length_map]; exact h2'), List.getElem_map, hz]
          rw [drop_get ws (i + 1) h2', hz, hyc, ofS_dir]
          refine Ev.step (fun k => by rw [flatironref19_Of.j2]) ?_
          refine Ev.pos rfl ?_
          rw [hw, rz, wrap_succ (i + 1) (by omega)]
          have hs1 : (B dir).size = dir.length := B_size dir
          refine Ev.pos (by rw [hs1]; omega) ?_
          refine Ev.pos (by omega) ?_
          refine Ev.pos (by rw [List.length_map]; omega) ?_
          refine Ev.pos (by rw [hs1, B_size]; omega) ?_
          have := ih (i + 1 + 1) (by omega) (by omega) (dir ++ 47 :: z) goals vars (by simp; omega) (by omega) (by omega)
          have e : (B dir ++ (⟨#[47]⟩ : ByteArray)) ++ B z = B (dir ++ 47 :: z) := by
            rw [show (⟨#[47]⟩ : ByteArray) = B [47] from rfl, B_append, B_append]
            simp
          rw [e]
          exact this
        · rw [decide_eq_false (by omega : ¬ ((i + 1 : Nat) : Int) < (ws.length : Int))]
          exact rest (fun h => h.2 (List.drop_eq_nil_of_le (by omega)))
      · intro hyc
        exact rest (fun h => hyc h.1)
    · exact ih i (by omega) hi dir goals vars h1 h2 h3
theorem refOf_ev (cs : List Cmd) (hcs : cs.length < 1000000000) (hw : ∀ c ∈ cs, c.words.length < 1000000000 ∧ (∀ y ∈ c.words, y.length < 100000000)) : Ev (fun k => flatironref19_Of.f k (cs.map rD)) (resC (callU cs)) := by
  refine Ev.congr (fun k => by rw [flatironref19_Of.f]) ?_
  have bad : Ev (fun k => flatironref19_Of.j0 k (cs.map rD) true) (resC none) := by
    refine Ev.step (fun k => by rw [flatironref19_Of.j0]) ?_
    refine Ev.pos rfl ?_
    exact Ev.ret _
  by_cases h1 : cs.length = 1
  · obtain ⟨c, rfl⟩ : ∃ c, cs = [c] := List.length_eq_one_iff.1 h1
    obtain ⟨hwl, hwy⟩ := hw c (by simp)
    refine Ev.pos (by simp) ?_
    refine Ev.pos (by simp) ?_
    have r : rd_T132 ([c].map rD) 0 = rD c := rfl
    rw [r]
    have e2 : (rD c).f2.length = c.tos.length := by show (((c.tos.map toT).map cT)).length = _; simp
    rw [e2]
    show Ev _ (resC (if c.tos = [] then _ else _))
    by_cases ht : c.tos = []
    · rw [if_pos ht, ht]
      rw [show decide ((([] : List (Int × List UInt8)).length : Int) > 0) = false from rfl]
      refine Ev.step (fun k => by rw [flatironref19_Of.j0]) ?_
      refine Ev.neg (by simp) ?_
      refine Ev.pos (by simp) ?_
      rw [r]
      show Ev (fun k => flatironref19_Of.l0 k (c.words.map B) 1 _ _ _) _
      by_cases hc0 : c.words = []
      · rw [hc0]
        refine Ev.step (fun k => by rw [flatironref19_Of.l0]) ?_
        refine Ev.neg (by simp) ?_
        exact Ev.ret _
      · exact refOf_loop c.words hwl hwy _ 1 (Nat.le_refl _) (List.length_pos_iff.2 hc0) [46] [] [] (by simp) (by simp) (by simp)
    · rw [if_neg ht]
      rw [show decide ((c.tos.length : Int) > 0) = true from decide_eq_true (by have := List.length_pos_iff.2 ht; omega)]
      exact bad
  · have hc : callU cs = none := by
      match cs, h1 with
      | [], _ => rfl
      | [c], h => exact absurd rfl h
      | c :: d :: r, _ => rfl
    rw [hc]
    refine Ev.neg (by rw [List.length_map]; omega) ?_
    exact bad
theorem pairs_loop (vs : List (List UInt8 × List UInt8)) (pSf : List UInt8 × List UInt8 → S98) (hp : ∀ p, (pSf p).f0 = B p.1 ∧ (pSf p).f1 = B p.2) (hv : vs.length < 1000000000) : ∀ i, i ≤ vs.length → Ev (fun k => flatironlaw19_Pairs.l0 k ((vs.take i).map pR) (vs.map pSf) (vs.length : Int) (i : Int)) (vs.map pR) := by
  refine upto_ind ?_ ?_
  · refine Ev.step (fun k => by rw [flatironlaw19_Pairs.l0]) ?_
    refine Ev.neg (by omega) ?_
    rw [List.take_length]
    exact Ev.ret _
  · intro i hi ih
    refine Ev.step (fun k => by rw [flatironlaw19_Pairs.l0]) ?_
    have r : rd_T98 (vs.map pSf) (i : Int) = pSf vs[i] := rd_map' pSf _ vs i hi
    rw [r, wrap_succ i (by omega), (hp vs[i]).1, (hp vs[i]).2]
    refine Ev.pos (by omega) ?_
    refine Ev.pos (by omega) ?_
    refine Ev.pos (by rw [List.length_map]; omega) ?_
    refine Ev.pos (by rw [List.length_map, List.length_take]; omega) ?_
    rw [List.take_succ_eq_append_getElem hi, List.map_append] at ih
    exact ih
theorem pairs_ev (vs : List (List UInt8 × List UInt8)) (pSf : List UInt8 × List UInt8 → S98) (hp : ∀ p, (pSf p).f0 = B p.1 ∧ (pSf p).f1 = B p.2) (hv : vs.length < 1000000000) : Ev (fun k => flatironlaw19_Pairs.f k (vs.map pSf)) (vs.map pR) := by
  refine Ev.congr (fun k => by rw [flatironlaw19_Pairs.f]) ?_
  rw [List.length_map]
  have := pairs_loop vs pSf hp hv 0 (Nat.zero_le _)
  simpa using this
theorem equalS19_loop (A : List ByteArray) (hl : A.length < 1000000000) : ∀ i, i ≤ A.length → Ev (fun k => slices_Equal_string_string.l0 k A A (A.length : Int) (i : Int)) true := by
  refine upto_ind ?_ ?_
  · refine Ev.step (fun k => by rw [slices_Equal_string_string.l0]) ?_
    refine Ev.neg (by omega) ?_
    exact Ev.ret _
  · intro i hi ih
    refine Ev.step (fun k => by rw [slices_Equal_string_string.l0]) ?_
    rw [wrap_succ i (by omega)]
    refine Ev.pos (by omega) ?_
    refine Ev.pos (by omega) ?_
    refine Ev.pos (by omega) ?_
    refine Ev.pos (by omega) ?_
    refine Ev.pos rfl ?_
    exact ih
theorem equalS19_ev (A : List ByteArray) (hl : A.length < 1000000000) : Ev (fun k => slices_Equal_string_string.f k A A) true := by
  refine Ev.congr (fun k => by rw [slices_Equal_string_string.f]) ?_
  refine Ev.pos rfl ?_
  exact equalS19_loop A hl 0 (Nat.zero_le _)
theorem equalP_loop (A : List S69) (hl : A.length < 1000000000) : ∀ i, i ≤ A.length → Ev (fun k => flatironref14_Pair.l0 k A A (A.length : Int) (i : Int)) true := by
  refine upto_ind ?_ ?_
  · refine Ev.step (fun k => by rw [flatironref14_Pair.l0]) ?_
    refine Ev.neg (by omega) ?_
    exact Ev.ret _
  · intro i hi ih
    refine Ev.step (fun k => by rw [flatironref14_Pair.l0]) ?_
    rw [wrap_succ i (by omega)]
    refine Ev.pos (by omega) ?_
    refine Ev.pos (by omega) ?_
    refine Ev.pos (by omega) ?_
    refine Ev.pos (by omega) ?_
    refine Ev.neg (by simp) ?_
    exact ih
theorem equalP_ev (A : List S69) (hl : A.length < 1000000000) : Ev (fun k => flatironref14_Pair.f k A A) true := by
  refine Ev.congr (fun k => by rw [flatironref14_Pair.f]) ?_
  refine Ev.pos rfl ?_
  exact equalP_loop A hl 0 (Nat.zero_le _)
end Go.Proofs.Ytmpheeanjjfddaa.X
/- Sizes of a line's commands, and of what is shown; commands come back. Plain Lean; no program. -/
namespace Go.Proofs.Ytmpheeanjjfddaa.X
set_option linter.unusedSimpArgs false
set_option linter.unusedVariables false

def wtC (c : Cmd) : Nat := 1 + c.words.length + 2 * c.tos.length
theorem flat_to (l : List (Int × List UInt8)) : (l.flatMap toksTo).length = 2 * l.length := by
  induction l with
  | nil => rfl
  | cons a l ih => rw [List.flatMap_cons, List.length_append, ih]; simp [toksTo]; omega
theorem toksCmd_len' (c : Cmd) : (toksCmd c).length = c.words.length + 2 * c.tos.length := by
  rw [toksCmd, List.length_append, List.length_map, flat_to]
theorem toksAll_wt (l : List Cmd) : (toksAll l).length ≤ (l.map wtC).sum := by
  have h : ∀ l : List Cmd, (l.flatMap (fun d => (d.on.toNat, ([] : List UInt8)) :: toksCmd d)).length = (l.map wtC).sum := by
    intro l
    induction l with
    | nil => rfl
    | cons c l ih =>
      rw [List.flatMap_cons, List.length_append, ih, List.map_cons, List.sum_cons, List.length_cons, toksCmd_len']
      unfold wtC; omega
  cases l with
  | nil => simp [toksAll]
  | cons c l =>
    rw [toksAll, List.length_append, h, toksCmd_len', List.map_cons, List.sum_cons]
    unfold wtC; omega
theorem len_wt (l : List Cmd) : l.length ≤ (l.map wtC).sum ∧ ∀ c ∈ l, c.words.length ≤ (l.map wtC).sum ∧ c.tos.length ≤ (l.map wtC).sum := by
  induction l with
  | nil => simp
  | cons c l ih =>
    rw [List.map_cons, List.sum_cons]
    refine ⟨by rw [List.length_cons]; unfold wtC at *; omega, fun d hd => ?_⟩
    rcases List.mem_cons.1 hd with rfl | hd
    · unfold wtC; omega
    · have := ih.2 d hd; omega
theorem cmdS_wt : ∀ n (l : List Tok) (on : Int) (ws : List (List UInt8)) (ts : List (Int × List UInt8)) (c : Cmd) (r : List Tok), l.length ≤ n → cmdS on ws ts l = some (c, r) → c.words.length + 2 * c.tos.length + r.length = ws.length + 2 * ts.length + l.length := by
  intro n
  induction n with
  | zero =>
    intro l on ws ts c r hl h
    have : l = [] := List.length_eq_zero_iff.1 (by omega)
    subst this
    rw [cmdS_nil] at h
    split at h
    · simp at h
    · simp at h; obtain ⟨rfl, rfl⟩ := h; simp
  | succ n ih =>
    intro l on ws ts c r hl h
    cases l with
    | nil =>
      rw [cmdS_nil] at h
      split at h
      · simp at h
      · simp at h; obtain ⟨rfl, rfl⟩ := h; simp
    | cons a l =>
      obtain ⟨k, x⟩ := a
      simp at hl
      by_cases h0 : k = 0
      · subst h0
        rw [cmdS_word] at h
        have := ih l _ _ _ _ _ hl h
        simp at this ⊢; omega
      · by_cases h4 : 4 ≤ k
        · by_cases hr : ∃ y r', l = (0, y) :: r'
          · obtain ⟨y, r', rfl⟩ := hr
            rw [cmdS_to _ _ _ k h4] at h
            simp at hl
            have := ih r' _ _ _ _ _ (by omega) h
            simp at this ⊢; omega
          · rw [cmdS_to0 _ _ _ k h4 x l (fun y r' e => hr ⟨y, r', e⟩)] at h
            simp at h
        · rw [cmdS_end _ _ _ k h0 h4] at h
          split at h
          · simp at h
          · simp at h
            obtain ⟨rfl, rfl⟩ := h
            simp
theorem cmdS_all (P : List UInt8 → Prop) : ∀ n (l : List Tok) (on : Int) (ws : List (List UInt8)) (ts : List (Int × List UInt8)) (c : Cmd) (r : List Tok), l.length ≤ n → (∀ x ∈ l, P x.2) → (∀ x ∈ ws, P x) → (∀ t ∈ ts, P t.2) → cmdS on ws ts l = some (c, r) → (∀ x ∈ c.words, P x) ∧ (∀ t ∈ c.tos, P t.2) := by
  intro n
  induction n with
  | zero =>
    intro l on ws ts c r hl hp hw ht h
    have : l = [] := List.length_eq_zero_iff.1 (by omega)
    subst this
    rw [cmdS_nil] at h
    split at h
    · simp at h
    · simp at h; obtain ⟨rfl, rfl⟩ := h; exact ⟨hw, ht⟩
  | succ n ih =>
    intro l on ws ts c r hl hp hw ht h
    cases l with
    | nil =>
      rw [cmdS_nil] at h
      split at h
      · simp at h
      · simp at h; obtain ⟨rfl, rfl⟩ := h; exact ⟨hw, ht⟩
    | cons a l =>
      obtain ⟨k, x⟩ := a
      simp at hl
      by_cases h0 : k = 0
      · subst h0
        rw [cmdS_word] at h
        refine ih l _ _ _ _ _ hl (fun y hy => hp y (by simp [hy])) ?_ ht h
        intro y hy
        rcases List.mem_append.1 hy with hy | hy
        · exact hw y hy
        · simp at hy; subst hy; exact hp (0, y) (by simp)
      · by_cases h4 : 4 ≤ k
        · by_cases hr : ∃ y r', l = (0, y) :: r'
          · obtain ⟨y, r', rfl⟩ := hr
            rw [cmdS_to _ _ _ k h4] at h
            simp at hl
            refine ih r' _ _ _ _ _ (by omega) (fun z hz => hp z (by simp [hz])) hw ?_ h
            intro t htt
            rcases List.mem_append.1 htt with htt | htt
            · exact ht t htt
            · simp at htt; subst htt; exact hp (0, y) (by simp)
          · rw [cmdS_to0 _ _ _ k h4 x l (fun y r' e => hr ⟨y, r', e⟩)] at h
            simp at h
        · rw [cmdS_end _ _ _ k h0 h4] at h
          split at h
          · simp at h
          · simp at h
            obtain ⟨rfl, rfl⟩ := h
            exact ⟨hw, ht⟩
theorem lineS_wt (P : List UInt8 → Prop) : ∀ n (l : List Tok) (out : List Cmd) (on : Int) (res : List Cmd), l.length ≤ n → (∀ x ∈ l, P x.2) → (∀ c ∈ out, (∀ x ∈ c.words, P x) ∧ (∀ t ∈ c.tos, P t.2)) → lineS out on l = some res →
    (res.map wtC).sum ≤ (out.map wtC).sum + l.length + 1 ∧ ∀ c ∈ res, (∀ x ∈ c.words, P x) ∧ (∀ t ∈ c.tos, P t.2) := by
  intro n
  induction n with
  | zero =>
    intro l out on res hl hp ho h
    have : l = [] := List.length_eq_zero_iff.1 (by omega)
    subst this
    rw [lineS_nil] at h
    simp at h; subst h
    exact ⟨by simp, ho⟩
  | succ n ih =>
    intro l out on res hl hp ho h
    by_cases hn : l = []
    · subst hn
      rw [lineS_nil] at h
      simp at h; subst h
      exact ⟨by simp, ho⟩
    · cases hc : cmdS on [] [] l with
      | none => rw [lineS_bad _ _ _ hn hc] at h; simp at h
      | some cr =>
        obtain ⟨c, r⟩ := cr
        have hwt := cmdS_wt _ l on [] [] c r (Nat.le_refl _) hc
        obtain ⟨_, ⟨p, hp2⟩, _⟩ := cmdS_rest _ l _ _ _ _ _ (Nat.le_refl _) hc
        have hall := cmdS_all P _ l on [] [] c r (Nat.le_refl _) hp (by simp) (by simp) hc
        have ho' : ∀ d ∈ out ++ [c], (∀ x ∈ d.words, P x) ∧ (∀ t ∈ d.tos, P t.2) := by
          intro d hd
          rcases List.mem_append.1 hd with hd | hd
          · exact ho d hd
          · simp at hd; subst hd; exact hall
        have hless := cmdS_less l on c r hc
        have hsum : ((out ++ [c]).map wtC).sum = (out.map wtC).sum + wtC c := by simp
        have hwc : wtC c = 1 + (c.words.length + 2 * c.tos.length) := by unfold wtC; omega
        simp only [List.length_nil, Nat.mul_zero, Nat.zero_add] at hwt
        cases r with
        | nil =>
          rw [lineS_last _ _ _ hn c hc] at h
          simp only [Option.some.injEq] at h
          subst h
          simp only [List.length_nil] at hwt
          exact ⟨by rw [hsum, hwc]; omega, ho'⟩
        | cons a m =>
          obtain ⟨k, x⟩ := a
          rw [lineS_more _ _ _ hn c k x m hc] at h
          split at h
          · simp at h
          · simp only [List.length_cons] at hwt hless
            obtain ⟨g1, g2⟩ := ih m _ _ res (by omega) (fun y hy => hp y (by rw [hp2]; simp [hy])) ho' h
            rw [hsum, hwc] at g1
            exact ⟨by omega, g2⟩
theorem toksAll_all (P : List UInt8 → Prop) (h0 : P []) (l : List Cmd) (h : ∀ c ∈ l, (∀ x ∈ c.words, P x) ∧ (∀ t ∈ c.tos, P t.2)) : ∀ x ∈ toksAll l, P x.2 := by
  have h1 : ∀ c : Cmd, ((∀ x ∈ c.words, P x) ∧ (∀ t ∈ c.tos, P t.2)) → ∀ x ∈ toksCmd c, P x.2 := by
    intro c hc x hx
    simp only [toksCmd, List.mem_append, List.mem_map, List.mem_flatMap] at hx
    rcases hx with ⟨y, hy, rfl⟩ | ⟨t, ht, hx⟩
    · exact hc.1 y hy
    · simp [toksTo] at hx
      rcases hx with rfl | rfl
      · exact h0
      · exact hc.2 t ht
  cases l with
  | nil => simp [toksAll]
  | cons c l =>
    intro x hx
    simp only [toksAll, List.mem_append, List.mem_flatMap] at hx
    rcases hx with hx | ⟨d, hd, hx⟩
    · exact h1 c (h c (by simp)) x hx
    · rcases List.mem_cons.1 hx with rfl | hx
      · exact h0
      · exact h1 d (h d (by simp [hd])) x hx
theorem shown_len (cs : List Cmd) (h1 : (toksAll cs).length ≤ 5000) (h2 : ∀ x ∈ toksAll cs, x.2.length ≤ 1000) : (joinU ((toksAll cs).map show1)).length ≤ 5000 * (4002 + 1) := by
  have h := joinU_len 4002 ((toksAll cs).map show1) (by
    intro x hx
    obtain ⟨y, hy, rfl⟩ := List.mem_map.1 hx
    have := show1_len y
    have := h2 y hy
    omega)
  rw [List.length_map] at h
  exact Nat.le_trans h (Nat.mul_le_mul_right _ h1)
end Go.Proofs.Ytmpheeanjjfddaa.X
/- sub.Is as a plain function, with its contract; condition: fewer than 1000000000 commands. -/
namespace Go.Proofs.Ytmpheeanjjfddaa.X
open Go.RowKit Go.Proofs.YtmpheeanjjfddaaW.PrintWords Go.Proofs.YtmpheeanjjfddaaW.PrintLast Go.Proofs.YtmpheeanjjfddaaW.PrintMore Go.Proofs.Ytmpheeanjjfddaa.XW05 Go.Proofs.Ytmpheeanjjfddaa.XT06
set_option linter.unusedSimpArgs false
set_option linter.unusedVariables false

def isS (name : ByteArray) (x : S124) : Bool := match x.f1 with | [] => false | y :: _ => y.toList == name.toList
set_option maxRecDepth 100000 in
set_option maxHeartbeats 2000000 in
theorem isLit_calls (x : S124) (A1 A2 : Option Addr) (c1 n2 c2 g : Nat) (name : ByteArray) (w : World) (hg : w.heap[g]? = some (.cells #[.string name] 9 (0, 0))) (h1 : Kd.string.C w A1 x.f1.length x.f1) :
    Calls Try.prog 48 #[.agg #[.int .i64 x.f0, .slice A1 x.f1.length c1, .slice A2 n2 c2], .pointer (some ⟨g, 0, none⟩)] w fun e w' => e = .returned (.bool (isS name x)) ∧ Below w.heap.size w w' := by
  obtain ⟨a, ws, ts⟩ := x
  simp only at h1 ⊢
  have hbn := blk_new w (.cells #[.int .i64 a, .slice A1 ws.length c1, .slice A2 n2 c2] 124 (0, 0))
  have HB := Aside0.mk (below_drew (show Below w.heap.size w (w.alloc (.cells #[.int .i64 a, .slice A1 ws.length c1, .slice A2 n2 c2] 124)) from below_alloc (Below.refl _ _) _))
  have k1 : (w.alloc (.cells #[.int .i64 a, .slice A1 ws.length c1, .slice A2 n2 c2] 124)).cell? ⟨w.heap.size, 1, none⟩ = some (.slice A1 ws.length c1) := blk_cell hbn 1
  have kg : (w.alloc (.cells #[.int .i64 a, .slice A1 ws.length c1, .slice A2 n2 c2] 124)).cell? ⟨g, 0, none⟩ = some (.string name) := blk_cell (blk_alloc hg _) 0
  have k1d : (w.alloc (.cells #[.int .i64 a, .slice A1 ws.length c1, .slice A2 n2 c2] 124)).drew.cell? ⟨w.heap.size, 1, none⟩ = some (.slice A1 ws.length c1) := k1
  have kgd : (w.alloc (.cells #[.int .i64 a, .slice A1 ws.length c1, .slice A2 n2 c2] 124)).drew.cell? ⟨g, 0, none⟩ = some (.string name) := kg
  clear hbn
  cases ws with
  | nil =>
    have HI := Aside0.mk (show isS name ⟨a, [], ts⟩ = false from rfl)
    clear h1
    go_enter Try.func48, Try.ntmps48
    go_wp2
    go_region
    all_goals
      go_wp2
      go_ret
      exact ⟨by rw [HI.out]; rfl, HB.out⟩
  | cons y r =>
    obtain ⟨b, o, rfl, hb, hcc⟩ := reads_cells h1 (by simp)
    have y0 := hcc 0 y rfl
    rw [Nat.add_zero] at y0
    have ky : (w.alloc (.cells #[.int .i64 a, .slice (some ⟨b, o, none⟩) (y :: r).length c1, .slice A2 n2 c2] 124)).cell? ⟨b, o, none⟩ = some (.string y) := (World.cell?_alloc_lt w _ _ (World.block_lt_of_cell? w _ y0)).trans y0
    have kyd : (w.alloc (.cells #[.int .i64 a, .slice (some ⟨b, o, none⟩) (y :: r).length c1, .slice A2 n2 c2] 124)).drew.cell? ⟨b, o, none⟩ = some (.string y) := ky
    have HI := Aside0.mk (show isS name ⟨a, y :: r, ts⟩ = (y.toList == name.toList) from rfl)
    obtain ⟨n, hn⟩ : ∃ n, (y :: r).length = n + 1 := ⟨r.length, rfl⟩
    rw [hn] at k1 kg k1d kgd ky kyd HB ⊢
    have hpos : decide (((n + 1 : Nat) : Int) > 0) = true := decide_eq_true (by omega)
    have hpos2 : (0 : Int) < ((n + 1 : Nat) : Int) := by omega
    clear hcc hn h1
    obtain ⟨v, hv⟩ : ∃ v, (y.toList == name.toList) = v := ⟨_, rfl⟩
    cases v with
    | true =>
      rw [hv] at HI
      have hv2 : y.toList = name.toList := by simpa using hv
      go_enter Try.func48, Try.ntmps48
      go_wp2
      go_region
      all_goals
        go_wp2
        go_ret
        exact ⟨by rw [HI.out]; rfl, HB.out⟩
    | false =>
      rw [hv] at HI
      have hv2 : ¬ y.toList = name.toList := by simpa using hv
      go_enter Try.func48, Try.ntmps48
      go_wp2
      go_region
      all_goals
        go_wp2
        go_ret
        exact ⟨by rw [HI.out]; rfl, HB.out⟩
set_option maxRecDepth 100000 in
set_option maxHeartbeats 2000000 in
theorem indexI_calls (A : Option Addr) (c : Nat) (zs : List S124) (g : Nat) (name : ByteArray) (w : World) (hbox : w.heap[g]? = some (.cells #[.string name] 9 (0, 0))) (hC : Kd.C k124 w A zs.length zs) (hl : zs.length < 1000000000) :
    Calls Try.prog 82 #[.slice A zs.length c, .func (.func 48) #[] #[.pointer (some ⟨g, 0, none⟩)]] w fun e w' => ∃ r : Int, e = .returned (.int .i64 r) ∧ decide (r ≥ 0) = zs.any (isS name) ∧ Below w.heap.size w w' := by
  have HC := Aside0.mk hC
  have HBX := Aside0.mk hbox
  clear hC hbox
  go_enter Try.func82, Try.ntmps82
  go_wp2
  go_loopg [5, 8] zs.length (fun g v5 v8 wr => ∃ kk : Nat, kk ≤ zs.length ∧ zs.length - kk ≤ g ∧ v8 = .int .i64 kk ∧ Aside0 (Below w.heap.size w wr) ∧ Aside0 ((zs.take kk).any (isS name) = false))
  case atStart => exact ⟨0, Nat.zero_le _, by omega, rfl, ⟨Below.refl _ _⟩, ⟨by simp⟩⟩
  case round =>
    obtain ⟨kk, hkk, hg, rfl, HB, HA⟩ := hrel
    by_cases hlt : kk < zs.length
    · obtain ⟨b, o, rfl, hb, hcc⟩ := cmdRow (Kd.C_below HC.out HB.out) (by omega)
      obtain ⟨A1, c1, A2, c2, d0, d1, d2, l1, g1, l2, g2⟩ := hcc kk hlt
      obtain ⟨z, hz⟩ : ∃ z, zs[kk] = z := ⟨_, rfl⟩
      rw [hz] at d0 d1 d2 l1 g1 l2 g2
      have HZ := Aside0.mk hz
      have HG1 := Aside0.mk g1
      have HBR := Aside0.mk (blk_below HBX.out HB.out)
      clear hcc hz g1 g2
      cases hq : isS name z with
      | true =>
        have HQ := Aside0.mk hq
        clear hq
        go_wp2_with (go_at_call 48; refine (isLit_calls z A1 A2 c1 z.f2.length c2 g name _ HBR.out HG1.out).mono ?_; rintro e1 w1 ⟨rfl, hb1⟩; rw [HQ.out]; have hb2 := below_step HB.out hb1)
        go_ret
        refine ⟨_, rfl, ?_, hb2⟩
        have : zs.any (isS name) = true := List.any_eq_true.2 ⟨z, by rw [← HZ.out]; exact List.getElem_mem _, HQ.out⟩
        rw [this]
        exact decide_eq_true (by omega)
      | false =>
        have HQ := Aside0.mk hq
        clear hq
        go_wp2_with (go_at_call 48; refine (isLit_calls z A1 A2 c1 z.f2.length c2 g name _ HBR.out HG1.out).mono ?_; rintro e1 w1 ⟨rfl, hb1⟩; rw [HQ.out]; have HB2 := Aside0.mk (below_step HB.out hb1))
        go_roundg (gk - 1)
        case measure => omega
        case rel => exact ⟨kk + 1, by omega, by omega, by go_num, HB2, ⟨by rw [List.take_succ_eq_append_getElem hlt, List.any_append, HA.out, HZ.out]; simp [HQ.out]⟩⟩
    · have : kk = zs.length := by omega
      subst this
      go_wp2
      go_ret
      refine ⟨_, rfl, ?_, HB.out⟩
      have := HA.out
      rw [List.take_length] at this
      rw [this]
      rfl
set_option maxRecDepth 100000 in
theorem containsI_calls (A : Option Addr) (c : Nat) (zs : List S124) (g : Nat) (name : ByteArray) (w : World) (hbox : w.heap[g]? = some (.cells #[.string name] 9 (0, 0))) (hC : Kd.C k124 w A zs.length zs) (hl : zs.length < 1000000000) :
    Calls Try.prog 47 #[.slice A zs.length c, .func (.func 48) #[] #[.pointer (some ⟨g, 0, none⟩)]] w fun e w' => e = .returned (.bool (zs.any (isS name))) ∧ Below w.heap.size w w' := by
  have HC := Aside0.mk hC
  have HBX := Aside0.mk hbox
  clear hC hbox
  go_enter Try.func47, Try.ntmps47
  go_wp2_with (go_at_call 82; refine (indexI_calls A c zs g name _ HBX.out HC.out hl).mono ?_; rintro e1 w1 ⟨r, rfl, hr, hb1⟩)
  go_ret
  exact ⟨by rw [← hr]; rfl, hb1⟩
def sub_Is.f (zs : List S124) (name : ByteArray) : Option Bool := if zs.length < 1000000000 then some (zs.any (isS name)) else none
set_option maxRecDepth 100000 in
theorem sub_Is.calls (A0 : Option Addr) (c0 : Nat) (l0 : List S124) (a1 : ByteArray) (r : Bool) (w : World) (hr0 : Kd.C k124 w A0 l0.length l0) (hc0 : l0.length ≤ c0) (h : sub_Is.f l0 a1 = some r) :
    Calls Try.prog 21 #[.slice A0 l0.length c0, .string a1] w fun e w' => e = .returned (.bool r) ∧ Below w.heap.size w w' := by
  unfold sub_Is.f at h
  by_cases hl : l0.length < 1000000000
  case neg => rw [if_neg hl] at h; exact absurd h (by simp)
  rw [if_pos hl] at h
  obtain rfl := Option.some.inj h
  have hb0 : Below w.heap.size w (w.alloc (.cells #[.string a1] 9)) := below_alloc (Below.refl _ _) _
  have HC := Aside0.mk (Kd.C_below hr0 hb0)
  have HBX := Aside0.mk (blk_new w (.cells #[.string a1] 9 (0, 0)))
  clear hr0 h
  go_enter Try.func21, Try.ntmps21
  go_wp2_with (go_at_call 47; refine (containsI_calls A0 c0 l0 _ a1 _ HBX.out HC.out hl).mono ?_; rintro e1 w1 ⟨rfl, hb1⟩; have HB1 := Aside0.mk (below_step hb0 hb1))
  go_ret
  exact ⟨rfl, HB1.out⟩
end Go.Proofs.Ytmpheeanjjfddaa.X
/- sub.Of as a plain function, with its contract; condition: fewer than 1000000000 commands and words, words of fewer than 100000000 bytes. -/
namespace Go.Proofs.Ytmpheeanjjfddaa.X
open Go.RowKit Go.Proofs.YtmpheeanjjfddaaW.PrintWords Go.Proofs.YtmpheeanjjfddaaW.PrintLast Go.Proofs.YtmpheeanjjfddaaW.PrintMore Go.Proofs.Ytmpheeanjjfddaa.XW05 Go.Proofs.Ytmpheeanjjfddaa.XT06
set_option linter.unusedSimpArgs false
set_option linter.unusedVariables false

def pS (p : List UInt8 × List UInt8) : S98 := ⟨B p.1, B p.2⟩
def callS (l : List S124) : Option CallU := match l with | [z] => if z.f2.length = 0 then ofS [46] [] [] ((z.f1.map (·.data.toList)).drop 1) else none | _ => none
def resO (is : Bool) (o : Option CallU) : ByteArray × List ByteArray × List S98 × Bool × Int := match is with
  | false => (⟨#[]⟩, [], [], false, 0)
  | true => match o with | none => (⟨#[]⟩, [], [], true, 1) | some c => (B c.1, c.2.1.map B, c.2.2.map pS, true, 0)
def sub_Of.f (l0 : List S124) (a1 : ByteArray) : Option (ByteArray × List ByteArray × List S98 × Bool × Int) :=
  if l0.length < 1000000000 ∧ ∀ z ∈ l0, z.f1.length < 1000000000 ∧ ∀ x ∈ z.f1, x.size < 100000000 then some (resO (l0.any (isS a1)) (callS l0)) else none
theorem ex_Bs : ∀ l : List ByteArray, ∃ ws : List (List UInt8), l = ws.map B ∧ l.map (·.data.toList) = ws := by
  intro l
  induction l with
  | nil => exact ⟨[], rfl, rfl⟩
  | cons s l ih =>
    obtain ⟨ws, h1, h2⟩ := ih
    exact ⟨s.data.toList :: ws, by rw [List.map_cons, B_of, ← h1], by rw [List.map_cons, h2]⟩
/-- What holds between the rounds. -/
structure SI (w : World) (gc : Nat) (dir : List UInt8) (vg vv : Value) (goals : List (List UInt8)) (vars : List (List UInt8 × List UInt8)) (W : World) : Prop where
  box : W.heap[gc]? = some (.cells #[.string (B dir), vg, vv] 57 (0, 0))
  res : W.heap[w.heap.size]? = some (.cells #[.string ⟨#[]⟩, .slice none 0 0, .slice none 0 0] 57 (0, 0))
  gl : Kd.R Kd.string 9 W w.heap.size (fun _ => True) vg (goals.map B)
  vr : Kd.R k98 98 W w.heap.size (fun _ => True) vv (vars.map pS)
  bel : Below w.heap.size w W
  lt : w.heap.size < gc
section
variable {w W W1 : World} {gc : Nat} {dir : List UInt8} {vg vv : Value} {goals : List (List UInt8)} {vars : List (List UInt8 × List UInt8)}
theorem SI.new (h : SI w gc dir vg vv goals vars W) (hb : Below W.heap.size W W1) : SI w gc dir vg vv goals vars W1 :=
  ⟨blk_below h.box hb, blk_below h.res hb, Kd.R_below h.gl hb, Kd.R_below h.vr hb, below_step h.bel hb, h.lt⟩
theorem SI.dirs (h : SI w gc dir vg vv goals vars W) {d1 : List UInt8} {s : ByteArray} (hs : s = B d1) : SI w gc d1 vg vv goals vars (W.setCell ⟨gc, 0, none⟩ (.string s)) := by
  subst hs
  have hg := World.grownBy_set W gc 0 (.string (B d1))
  have hst : ∀ k, some gc = some k → ∃ cells, W.heap[k]? = some (.cells cells 57 (0, 0)) := by
    intro k hk; injection hk with hk; subst hk; exact ⟨_, h.box⟩
  exact ⟨blk_put h.box 0 _ rfl, blk_far h.res (by have := h.lt; simp; omega) _, R_grown_ty h.gl hg hst (by decide), R_grown_ty h.vr hg hst (by decide), h.bel.grown hg h.bel.size (fun k hk => by injection hk with hk; have := h.lt; omega), h.lt⟩
theorem SI.goal (h : SI w gc dir vg vv goals vars W) {v1 : Value} {g1 : List (List UInt8)} (hg : W.grownBy W1 vg.ownBlock) (ho : Kd.R Kd.string 9 W1 w.heap.size (fun _ => True) v1 (g1.map B)) :
    SI w gc dir v1 vv g1 vars (W1.setCell ⟨gc, 1, none⟩ v1) := by
  have ht := R_row_ty h.gl
  have hbx := blk_grown_ty h.box hg ht (by decide)
  have hs := World.grownBy_set W1 gc 1 v1
  have hst : ∀ k, some gc = some k → ∃ cells, W1.heap[k]? = some (.cells cells 57 (0, 0)) := by
    intro k hk; injection hk with hk; subst hk; exact ⟨_, hbx⟩
  have hb1 := h.bel.grown hg h.bel.size (Kd.R_base h.gl)
  exact ⟨blk_put hbx 1 v1 rfl, blk_far (blk_grown_ty h.res hg ht (by decide)) (by have := h.lt; simp; omega) _, R_grown_ty ho hs hst (by decide), R_grown_ty (R_grown_ty h.vr hg ht (by decide)) hs hst (by decide), hb1.grown hs hb1.size (fun k hk => by injection hk with hk; have := h.lt; omega), h.lt⟩
theorem SI.var (h : SI w gc dir vg vv goals vars W) {v1 : Value} {g1 : List (List UInt8 × List UInt8)} (hg : W.grownBy W1 vv.ownBlock) (ho : Kd.R k98 98 W1 w.heap.size (fun _ => True) v1 (g1.map pS)) :
    SI w gc dir vg v1 goals g1 (W1.setCell ⟨gc, 2, none⟩ v1) := by
  have ht := R_row_ty h.vr
  have hbx := blk_grown_ty h.box hg ht (by decide)
  have hs := World.grownBy_set W1 gc 2 v1
  have hst : ∀ k, some gc = some k → ∃ cells, W1.heap[k]? = some (.cells cells 57 (0, 0)) := by
    intro k hk; injection hk with hk; subst hk; exact ⟨_, hbx⟩
  have hb1 := h.bel.grown hg h.bel.size (Kd.R_base h.vr)
  exact ⟨blk_put hbx 2 v1 rfl, blk_far (blk_grown_ty h.res hg ht (by decide)) (by have := h.lt; simp; omega) _, R_grown_ty (R_grown_ty h.gl hg ht (by decide)) hs hst (by decide), R_grown_ty ho hs hst (by decide), hb1.grown hs hb1.size (fun k hk => by injection hk with hk; have := h.lt; omega), h.lt⟩
end
theorem B_lit' : (⟨#[47]⟩ : ByteArray) = B [47] := rfl
/-- The answer's box is written: all else is as it was. -/
theorem res_put {w W : World} (hb : Below w.heap.size w W) (hr : W.heap[w.heap.size]? = some (.cells #[.string ⟨#[]⟩, .slice none 0 0, .slice none 0 0] 57 (0, 0))) (x y z : Value) {X : World}
    (hX : X = ((W.setCell ⟨w.heap.size, 0, none⟩ x).setCell ⟨w.heap.size, 1, none⟩ y).setCell ⟨w.heap.size, 2, none⟩ z) :
    Below w.heap.size w X ∧ X.heap[w.heap.size]? = some (.cells #[x, y, z] 57 (0, 0)) ∧ W.grownBy X (some w.heap.size) := by
  subst hX
  have b1 := blk_put hr 0 x (cs' := #[x, .slice none 0 0, .slice none 0 0]) rfl
  have b2 := blk_put b1 1 y (cs' := #[x, y, .slice none 0 0]) rfl
  have b3 := blk_put b2 2 z (cs' := #[x, y, z]) rfl
  have g1 := World.grownBy_set W w.heap.size 0 x
  have g2 := World.grownBy_set (W.setCell ⟨w.heap.size, 0, none⟩ x) w.heap.size 1 y
  have g3 := World.grownBy_set ((W.setCell ⟨w.heap.size, 0, none⟩ x).setCell ⟨w.heap.size, 1, none⟩ y) w.heap.size 2 z
  have g := (g1.trans g2).trans g3
  exact ⟨hb.grown g hb.size (fun k hk => by injection hk with hk; omega), b3, g⟩
set_option maxRecDepth 100000 in
set_option maxHeartbeats 16000000 in
theorem sub_Of.calls (A0 : Option Addr) (c0 : Nat) (l0 : List S124) (a1 : ByteArray) (r1 : ByteArray) (r2 : List ByteArray) (r3 : List S98) (r4 : Bool) (r5 : Int) (w : World) (hSH : Shp w) (hr0 : Kd.C k124 w A0 l0.length l0) (hc0 : l0.length ≤ c0) (h : sub_Of.f l0 a1 = some (r1, r2, r3, r4, r5)) :
    Calls Try.prog 19 #[.slice A0 l0.length c0, .string a1] w fun e w' => ∃ v1_ v2_ : Value, e = .returned (.tuple #[.agg #[.string r1, v1_, v2_], .bool r4, .int .i64 r5]) ∧ Kd.R Kd.string 9 w' w.heap.size (fun _ => True) v1_ r2 ∧ Kd.R k98 98 w' w.heap.size (fun _ => True) v2_ r3 ∧ Below w.heap.size w w' := by
  unfold sub_Of.f at h
  by_cases hz : l0.length < 1000000000 ∧ ∀ z ∈ l0, z.f1.length < 1000000000 ∧ ∀ x ∈ z.f1, x.size < 100000000
  case neg => rw [if_neg hz] at h; exact absurd h (by simp)
  rw [if_pos hz] at h
  have h := Option.some.inj h
  obtain ⟨hl, hzs⟩ := hz
  have infoS : (Try.prog.info? 9).map (fun i => (i.zero, i.size, i.bytes)) = some (some (.string ⟨#[]⟩), 1, 16) := by kernel_rfl
  have infoP : (Try.prog.info? 98).map (fun i => (i.zero, i.size, i.bytes)) = some (some (.agg #[.string ⟨#[]⟩, .string ⟨#[]⟩]), 2, 32) := by kernel_rfl
  have hb0 : Below w.heap.size w (w.alloc (.cells #[.string ⟨#[]⟩, .slice none 0 0, .slice none 0 0] 57)) := below_alloc (Below.refl _ _) _
  have HB0 := Aside0.mk hb0
  have HRB := Aside0.mk (blk_new w (.cells #[.string ⟨#[]⟩, .slice none 0 0, .slice none 0 0] 57 (0, 0)))
  have HC0 := Aside0.mk hr0
  have HSH := Aside0.mk hSH
  clear hSH hr0 hb0
  obtain ⟨is, his⟩ : ∃ x, l0.any (isS a1) = x := ⟨_, rfl⟩
  have HIS := Aside0.mk (show sub_Is.f l0 a1 = some is by unfold sub_Is.f; rw [if_pos hl, his])
  rw [his] at h
  cases is with
  | false =>
    obtain ⟨rfl, rfl, rfl, rfl, rfl⟩ : r1 = (⟨#[]⟩ : ByteArray) ∧ r2 = [] ∧ r3 = [] ∧ r4 = false ∧ r5 = 0 := by
      simp only [resO, Prod.mk.injEq] at h
      exact ⟨h.1.symm, h.2.1.symm, h.2.2.1.symm, h.2.2.2.1.symm, h.2.2.2.2.symm⟩
    go_enter Try.func19, Try.ntmps19
    go_wp2_with (go_at_call 21; refine (sub_Is.calls A0 c0 l0 a1 false _ (Kd.C_below HC0.out HB0.out) hc0 HIS.out).mono ?_; rintro e1 w1 ⟨rfl, hb1⟩; have HB1 := Aside0.mk (below_step HB0.out hb1); have HR1 := Aside0.mk (blk_below HRB.out hb1); have k0 := blk_cell HR1.out 0; have k1 := blk_cell HR1.out 1; have k2 := blk_cell HR1.out 2; have f0 := blk_frozen HR1.out 0; have f1 := blk_frozen HR1.out 1; have f2 := blk_frozen HR1.out 2; clear hb1)
    obtain ⟨q1, q2, q3⟩ := res_put HB1.out HR1.out (.string ⟨#[]⟩) (.slice none 0 0) (.slice none 0 0) rfl
    refine bodyPost_ret (results_ctt rfl _ _ w.heap.size 57 #[.string ⟨#[]⟩, .slice none 0 0, .slice none 0 0] (0, 0) _ rfl q2 Try.underlying57 rfl (by kernel_rfl)) rfl ?_
    exact ⟨_, _, rfl, Kd.R_nil _ _ _ _ _, Kd.R_nil _ _ _ _ _, q1⟩
  | true =>
    have hres : resO true (callS l0) = (r1, r2, r3, r4, r5) := h
    clear h
    by_cases hone : ∃ x, l0 = [x] ∧ x.f2.length = 0
    · obtain ⟨x, rfl, hx2⟩ := hone
      obtain ⟨b, o, rfl, hb, hcc⟩ := cmdRow HC0.out (by simp)
      obtain ⟨A1, c1, A2, c2, d0, d1, d2, l1, g1, l2, g2⟩ := hcc 0 (by simp)
      rw [Nat.zero_mul, Nat.add_zero] at d0 d1 d2
      simp only [List.getElem_cons_zero] at d0 d1 d2 l1 g1 l2 g2
      obtain ⟨hxl, hxs⟩ := hzs x (by simp)
      obtain ⟨y0, yr, hy0⟩ : ∃ y r, x.f1 = y :: r := by
        cases hw : x.f1 with
        | nil => exfalso; simp [isS, hw] at his
        | cons y r => exact ⟨y, r, rfl⟩
      obtain ⟨b1, o1, rfl, hb1', hwc⟩ := reads_cells g1 (by rw [hy0]; simp)
      obtain ⟨ws, hws, hwd⟩ := ex_Bs x.f1
      obtain ⟨n, hn⟩ : ∃ n, x.f1.length = n := ⟨_, rfl⟩
      have hn' : ws.length = n := by rw [← hn, hws, List.length_map]
      have hnp : 0 < n := by rw [← hn, hy0]; simp
      have HWS := Aside0.mk (show ∀ y ∈ ws, y.length < 100000000 by
        intro y hy
        have := hxs (B y) (by rw [hws]; exact List.mem_map_of_mem hy)
        rwa [B_size] at this)
      have HW := Aside0.mk (show ∀ j (hj : j < ws.length), w.cell? ⟨b1, o1 + j, none⟩ = some (.string (B ws[j])) by
        intro j hj
        refine hwc j (B ws[j]) ?_
        rw [hws, List.getElem?_map, List.getElem?_eq_getElem hj]; rfl)
      have HRES := Aside0.mk (show resO true (ofS [46] [] [] (ws.drop 1)) = (r1, r2, r3, r4, r5) by
        rw [← hres]
        simp only [callS, if_pos hx2, hwd])
      rw [hn] at d1 l1 hxl
      rw [hx2] at d2
      have hnl : n < 1000000000 := hxl
      have D1 := Aside0.mk d1
      have D2 := Aside0.mk d2
      have hnz : (1 : Int) ≤ (n : Int) := by omega
      have hnc : (n : Int) ≤ (c1 : Int) := by omega
      have HX2 := Aside0.mk hx2
      clear hcc g1 g2 l2 hxs hy0 hwc hws hn hres d0 d1 d2 hx2 hzs his hxl
      have start : ∀ w1 : World, Below w.heap.size w w1 → w1.heap[w.heap.size]? = some (.cells #[.string ⟨#[]⟩, .slice none 0 0, .slice none 0 0] 57 (0, 0)) → SI w w1.heap.size [46] (.slice none 0 0) (.slice none 0 0) [] [] (w1.alloc (.cells #[.string ⟨#[46]⟩, .slice none 0 0, .slice none 0 0] 57)) := by
        intro w1 h1 h2
        exact ⟨blk_new w1 _, blk_alloc h2 _, Kd.R_nil _ _ _ _ _, Kd.R_nil _ _ _ _ _, below_alloc h1 _, blk_lt h2⟩
      have HST := Aside0.mk start
      clear start
      obtain ⟨e1, rfl⟩ : ∃ e1, c1 = e1 + 1 := ⟨c1 - 1, by omega⟩
      obtain ⟨AB, hAB⟩ : ∃ AB : Addr, (if e1 = 0 then some (⟨b1, o1, none⟩ : Addr) else some ⟨b1, o1 + 1, none⟩) = some AB := ⟨if e1 = 0 then ⟨b1, o1, none⟩ else ⟨b1, o1 + 1, none⟩, by split <;> rfl⟩
      have HAB := Aside0.mk (show 0 < n - 1 → AB = ⟨b1, o1 + 1, none⟩ by
        intro hh
        rw [if_neg (by omega)] at hAB
        exact (Option.some.inj hAB).symm)
      go_enter Try.func19, Try.ntmps19
      go_wp2_with (go_at_call 21; refine (sub_Is.calls _ c0 [x] a1 true _ (Kd.C_below HC0.out HB0.out) hc0 HIS.out).mono ?_; rintro e1 w1 ⟨rfl, hb1⟩; have HB1 := Aside0.mk (below_step HB0.out hb1); have HR1 := Aside0.mk (blk_below HRB.out hb1); have k0 := blk_cell HR1.out 0; have k1 := blk_cell HR1.out 1; have k2 := blk_cell HR1.out 2; have f0 := blk_frozen HR1.out 0; have f1 := blk_frozen HR1.out 1; have f2 := blk_frozen HR1.out 2; have k3 := (HB1.out.cell (World.block_lt_of_cell? w _ D2.out)).trans D2.out; have k4 : (w1.alloc (.cells #[.string ⟨#[46]⟩, .slice none 0 0, .slice none 0 0] 57)).cell? ⟨b, o + 1, none⟩ = some (.slice (some ⟨b1, o1, none⟩) n (e1 + 1)) := ((below_alloc HB1.out (.cells #[.string ⟨#[46]⟩, .slice none 0 0, .slice none 0 0] 57)).cell (World.block_lt_of_cell? w _ D1.out)).trans D1.out; have HJ0 := Aside0.mk (HST.out w1 HB1.out HR1.out); clear hb1)
      go_loopg [8] (n + 1) (fun g v8 wr => ∃ (i m : Nat) (dir : List UInt8) (goals : List (List UInt8)) (vars : List (List UInt8 × List UInt8)) (A8 : Addr) (c8 : Nat) (vg vv : Value) (wo : World), wo = wr ∧ v8 = .slice (some A8) m c8 ∧ i + m = n ∧ m < g ∧ Aside0 (0 < m → A8 = ⟨b1, o1 + i, none⟩) ∧ m ≤ c8 ∧ Aside0 (SI w w1.heap.size dir vg vv goals vars wo) ∧ Aside0 (resO true (ofS dir goals vars (ws.drop i)) = (r1, r2, r3, r4, r5)) ∧ Aside0 (dir.length ≤ 1 + i * 100000001) ∧ Aside0 (goals.length ≤ i ∧ vars.length ≤ i))
      case atStart => exact ⟨1, n - 1, [46], [], [], _, _, _, _, _, rfl, rfl, by omega, by omega, HAB, by omega, HJ0, HRES, ⟨by simp⟩, ⟨by simp⟩⟩
      case round =>
        obtain ⟨i, m, dir, goals, vars, A8, c8, vg, vv, wo, rfl, rfl, him, hg, HA8, hmc, HJ, HRR, HDL, HGL⟩ := hrel
        obtain ⟨Ag, ng, cg, eg⟩ := R_is HJ.out.gl
        subst eg
        obtain ⟨Av, nv, cv, ev⟩ := R_is HJ.out.vr
        subst ev
        by_cases hm : 0 < m
        · have hA := HA8.out hm
          subst hA
          obtain ⟨e, rfl⟩ : ∃ e, c8 = e + 1 := ⟨c8 - 1, by omega⟩
          have hi : i < ws.length := by omega
          have hdr := drop_get ws i hi
          obtain ⟨y, hy⟩ : ∃ y, ws[i] = y := ⟨_, rfl⟩
          rw [hy] at hdr
          have hyc := HW.out i hi
          rw [hy] at hyc
          have hyl := HWS.out y (by rw [← hy]; exact List.getElem_mem _)
          obtain ⟨sn, st, hset, hsetp⟩ := set_ok y hyl
          have y0 : wo.cell? ⟨b1, o1 + i, none⟩ = some (.string (B y)) := (HJ.out.bel.cell (World.block_lt_of_cell? w _ hyc)).trans hyc
          have HYC := Aside0.mk hyc
          have HDR := Aside0.mk hdr
          have hm0 : (0 : Int) < (m : Int) := by omega
          have hys : (B y).size = y.length := B_size y
          obtain ⟨AB, hAB⟩ : ∃ AB : Addr, (if e = 0 then some (⟨b1, o1 + i, none⟩ : Addr) else some ⟨b1, o1 + i + 1, none⟩) = some AB := ⟨if e = 0 then ⟨b1, o1 + i, none⟩ else ⟨b1, o1 + i + 1, none⟩, by split <;> rfl⟩
          have HAB := Aside0.mk (show 0 < m - 1 → AB = ⟨b1, o1 + (i + 1), none⟩ by
            intro hh
            rw [if_neg (by omega)] at hAB
            exact (Option.some.inj hAB).symm)
          have hme : (m : Int) ≤ ((e + 1 : Nat) : Int) := by omega
          have hm1 : (1 : Int) ≤ (m : Int) := by omega
          clear hyc hdr HA8
          by_cases hA : y = [45, 67] ∧ 1 < m
          · obtain ⟨hyA, hm2⟩ := hA
            have hyt : (B y).toList = [45, 67] := by rw [B_toList, hyA]
            have hmd : decide ((m : Int) > 1) = true := decide_eq_true (by omega)
            have he0 : ¬ e = 0 := by omega
            obtain ⟨e', rfl⟩ : ∃ e', e = e' + 1 := ⟨e - 1, by omega⟩
            have hi2 : i + 1 < ws.length := by omega
            have hdr2 := drop_get ws (i + 1) hi2
            obtain ⟨z, hz⟩ : ∃ z, ws[i + 1] = z := ⟨_, rfl⟩
            rw [hz] at hdr2
            have hzc := HW.out (i + 1) hi2
            rw [hz, ← Nat.add_assoc] at hzc
            have hzl := HWS.out z (by rw [← hz]; exact List.getElem_mem _)
            have HZC := Aside0.mk hzc
            have HRZ := Aside0.mk (show resO true (ofS (dir ++ 47 :: z) goals vars (ws.drop (i + 1 + 1))) = (r1, r2, r3, r4, r5) by rw [← HRR.out, HDR.out, hyA, hdr2, ofS_dir])
            have hzs : (B z).size = z.length := B_size z
            have hds : (B dir).size = dir.length := B_size dir
            have hil : i < 1000000000 := by omega
            have hdl := HDL.out
            have hq1 : (9223372036854775807 < 1 + z.length) = False := eq_false (by omega)
            have hq2 : (9223372036854775807 < dir.length + (1 + z.length)) = False := eq_false (by omega)
            have HZD := Aside0.mk (show (dir ++ 47 :: z).length ≤ 1 + (i + 1 + 1) * 100000001 by simp; omega)
            obtain ⟨AC, hAC⟩ : ∃ AC : Addr, (if e' = 0 then some (⟨b1, o1 + i + 1, none⟩ : Addr) else some ⟨b1, o1 + i + 1 + 1, none⟩) = some AC := ⟨if e' = 0 then ⟨b1, o1 + i + 1, none⟩ else ⟨b1, o1 + i + 1 + 1, none⟩, by split <;> rfl⟩
            have HAC := Aside0.mk (show 0 < m - 1 - 1 → AC = ⟨b1, o1 + (i + 1 + 1), none⟩ by
              intro hh
              rw [if_neg (by omega)] at hAC
              exact (Option.some.inj hAC).symm)
            have hm3 : (1 : Int) ≤ ((m - 1 : Nat) : Int) := by omega
            have hm4 : ((m - 1 : Nat) : Int) ≤ ((e' + 1 : Nat) : Int) := by omega
            have hm5 : (0 : Int) < ((m - 1 : Nat) : Int) := by omega
            obtain ⟨m1, hm1e⟩ : ∃ m1, m = m1 + 1 + 1 := ⟨m - 2, by omega⟩
            subst hm1e
            have HSET := Aside0.mk hset
            clear hyA hzc hdr2 hsetp hset hdl
            go_wp2_with (go_at_call 46; refine (sub_set.calls (B y) sn st _ _ (Shp.below HSH.out HJ.out.bel) HSET.out).mono ?_; rintro e2 w2 ⟨rfl, hb2⟩; have J2 := Aside0.mk (HJ.out.new (below_alloc hb2 (.cells #[.string sn, .string st] 98))); have J2d := Aside0.mk (J2.out.new (below_drew (Below.refl _ _))); have y2 := (J2.out.bel.cell (World.block_lt_of_cell? w _ HYC.out)).trans HYC.out; have z2 := (J2.out.bel.cell (World.block_lt_of_cell? w _ HZC.out)).trans HZC.out; have z2d := (J2d.out.bel.cell (World.block_lt_of_cell? w _ HZC.out)).trans HZC.out; have q0 := blk_cell J2.out.box 0; have q0d := blk_cell J2d.out.box 0; have s0 := blk_frozen J2.out.box 0; have s0d := blk_frozen J2d.out.box 0; clear hb2)
            go_region
            all_goals
              go_wp2
              go_roundg (gk - 1)
              case measure => omega
              case rel => exact ⟨i + 1 + 1, m1, dir ++ 47 :: z, goals, vars, AC, _, _, _, _, rfl, by first | rfl | go_num, by omega, by omega, ⟨fun h => HAC.out (by omega)⟩, by omega, ⟨(J2.out.dirs (s := B dir ++ ((⟨#[47]⟩ : ByteArray) ++ B z)) (d1 := dir ++ 47 :: z) (by rw [B_lit', B_append, B_append]; rfl)).new (below_drew (Below.refl _ _))⟩, HRZ, HZD, ⟨by have := HGL.out; omega⟩⟩
          · have hno : ¬ (y = [45, 67] ∧ ws.drop (i + 1) ≠ []) := by
              rintro ⟨h1, h2⟩
              refine hA ⟨h1, ?_⟩
              have : i + 1 < ws.length := by
                rcases Nat.lt_or_ge (i + 1) ws.length with h | h
                · exact h
                · exact absurd (List.drop_eq_nil_of_le h) h2
              omega
            by_cases hbad : y = [] ∨ y.head? = some 45
            · have HRN := Aside0.mk (show resO true none = (r1, r2, r3, r4, r5) by rw [← HRR.out, HDR.out, ofS_bad dir y goals vars _ hno hbad])
              have HSET := Aside0.mk hset
              clear hset hsetp hno
              by_cases hye : y = []
              · have hyt : (B y).toList = [] := by rw [B_toList, hye]
                have hyn : ¬ (B y).toList = [45, 67] := by rw [hyt]; simp
                have hyp : (B y).toList.isEmpty = true := by rw [hyt]; rfl
                clear hbad hye hA
                go_wp2_with (go_at_call 46; refine (sub_set.calls (B y) sn st _ _ (Shp.below HSH.out HJ.out.bel) HSET.out).mono ?_; rintro e2 w2 ⟨rfl, hb2⟩; have J2 := Aside0.mk (HJ.out.new (below_alloc hb2 (.cells #[.string sn, .string st] 98))); have J2d := Aside0.mk (J2.out.new (below_drew (Below.refl _ _))); have y2 := (J2.out.bel.cell (World.block_lt_of_cell? w _ HYC.out)).trans HYC.out; have y2d := (J2d.out.bel.cell (World.block_lt_of_cell? w _ HYC.out)).trans HYC.out; have q1c := blk_cell J2.out.box 1; have q1d : (w2.alloc (.cells #[.string sn, .string st] 98)).drew.cell? ⟨w1.heap.size, 1, none⟩ = some (.slice Ag ng cg) := blk_cell J2d.out.box 1; have q2c := blk_cell J2.out.box 2; have t0 := blk_cell (blk_new w2 (.cells #[.string sn, .string st] 98 (0, 0))) 0; have t1 := blk_cell (blk_new w2 (.cells #[.string sn, .string st] 98 (0, 0))) 1; have J2a := Aside0.mk (J2d.out.new (below_alloc (Below.refl _ _) (.cells #[.string (B y)] 9))); have q1a : ((w2.alloc (.cells #[.string sn, .string st] 98)).drew.alloc (.cells #[.string (B y)] 9)).cell? ⟨w1.heap.size, 1, none⟩ = some (.slice Ag ng cg) := blk_cell J2a.out.box 1; have J2b := Aside0.mk (J2.out.new (below_alloc (Below.refl _ _) (.cells #[.string (B y)] 9))); have q1b : ((w2.alloc (.cells #[.string sn, .string st] 98)).alloc (.cells #[.string (B y)] 9)).cell? ⟨w1.heap.size, 1, none⟩ = some (.slice Ag ng cg) := blk_cell J2b.out.box 1; have u0 := blk_cell J2.out.res 0; have u1 := blk_cell J2.out.res 1; have u2 := blk_cell J2.out.res 2; have g0 := blk_frozen J2.out.res 0; have g1 := blk_frozen J2.out.res 1; have g2 := blk_frozen J2.out.res 2; clear hb2)
                obtain ⟨q1, q2, q3⟩ := res_put J2.out.bel J2.out.res (.string ⟨#[]⟩) (.slice none 0 0) (.slice none 0 0) rfl
                refine bodyPost_ret (results_ctt rfl _ _ w.heap.size 57 #[.string ⟨#[]⟩, .slice none 0 0, .slice none 0 0] (0, 0) _ rfl q2 Try.underlying57 rfl (by kernel_rfl)) rfl ?_
                obtain ⟨rfl, rfl, rfl, rfl, rfl⟩ : r1 = (⟨#[]⟩ : ByteArray) ∧ r2 = [] ∧ r3 = [] ∧ r4 = true ∧ r5 = 1 := by
                  have h := HRN.out
                  simp only [resO, Prod.mk.injEq] at h
                  exact ⟨h.1.symm, h.2.1.symm, h.2.2.1.symm, h.2.2.2.1.symm, h.2.2.2.2.symm⟩
                exact ⟨_, _, rfl, Kd.R_nil _ _ _ _ _, Kd.R_nil _ _ _ _ _, q1⟩
              · have hyn : (B y).toList.isEmpty = false := by rw [B_toList]; exact List.isEmpty_eq_false_iff.2 hye
                have hyl0 := List.length_pos_iff.2 hye
                have hy0 : 0 < (B y).size := by rw [hys]; exact hyl0
                have hy0' : 0 < y.length := hyl0
                obtain ⟨x0, hx0⟩ : ∃ x0, (B y)[0]'hy0 = x0 := ⟨_, rfl⟩
                have hq45 : ((x0.toNat : Int) == 45) = true := by
                  have h1 := hbad.resolve_left hye
                  have h2 : y[0]'hyl0 = 45 := by
                    rw [List.head?_eq_getElem?, List.getElem?_eq_getElem hyl0] at h1
                    exact Option.some.inj h1
                  have e0 : x0 = 45 := hx0.symm.trans ((getB' y 0 hyl0 hy0).trans h2)
                  rw [e0]; rfl
                by_cases hyc : y = [45, 67]
                · have hyt : (B y).toList = [45, 67] := by rw [B_toList, hyc]
                  have hm1' : m = 1 := by
                    rcases Nat.lt_or_ge 1 m with h | h
                    · exact absurd ⟨hyc, h⟩ hA
                    · omega
                  subst hm1'
                  clear hbad hye hyc hA
                  go_wp2_with (go_at_call 46; refine (sub_set.calls (B y) sn st _ _ (Shp.below HSH.out HJ.out.bel) HSET.out).mono ?_; rintro e2 w2 ⟨rfl, hb2⟩; have J2 := Aside0.mk (HJ.out.new (below_alloc hb2 (.cells #[.string sn, .string st] 98))); have J2d := Aside0.mk (J2.out.new (below_drew (Below.refl _ _))); have y2 := (J2.out.bel.cell (World.block_lt_of_cell? w _ HYC.out)).trans HYC.out; have y2d := (J2d.out.bel.cell (World.block_lt_of_cell? w _ HYC.out)).trans HYC.out; have q1c := blk_cell J2.out.box 1; have q1d : (w2.alloc (.cells #[.string sn, .string st] 98)).drew.cell? ⟨w1.heap.size, 1, none⟩ = some (.slice Ag ng cg) := blk_cell J2d.out.box 1; have q2c := blk_cell J2.out.box 2; have t0 := blk_cell (blk_new w2 (.cells #[.string sn, .string st] 98 (0, 0))) 0; have t1 := blk_cell (blk_new w2 (.cells #[.string sn, .string st] 98 (0, 0))) 1; have J2a := Aside0.mk (J2d.out.new (below_alloc (Below.refl _ _) (.cells #[.string (B y)] 9))); have q1a : ((w2.alloc (.cells #[.string sn, .string st] 98)).drew.alloc (.cells #[.string (B y)] 9)).cell? ⟨w1.heap.size, 1, none⟩ = some (.slice Ag ng cg) := blk_cell J2a.out.box 1; have J2b := Aside0.mk (J2.out.new (below_alloc (Below.refl _ _) (.cells #[.string (B y)] 9))); have q1b : ((w2.alloc (.cells #[.string sn, .string st] 98)).alloc (.cells #[.string (B y)] 9)).cell? ⟨w1.heap.size, 1, none⟩ = some (.slice Ag ng cg) := blk_cell J2b.out.box 1; have u0 := blk_cell J2.out.res 0; have u1 := blk_cell J2.out.res 1; have u2 := blk_cell J2.out.res 2; have g0 := blk_frozen J2.out.res 0; have g1 := blk_frozen J2.out.res 1; have g2 := blk_frozen J2.out.res 2; clear hb2)
                  obtain ⟨q1, q2, q3⟩ := res_put J2.out.bel J2.out.res (.string ⟨#[]⟩) (.slice none 0 0) (.slice none 0 0) rfl
                  refine bodyPost_ret (results_ctt rfl _ _ w.heap.size 57 #[.string ⟨#[]⟩, .slice none 0 0, .slice none 0 0] (0, 0) _ rfl q2 Try.underlying57 rfl (by kernel_rfl)) rfl ?_
                  obtain ⟨rfl, rfl, rfl, rfl, rfl⟩ : r1 = (⟨#[]⟩ : ByteArray) ∧ r2 = [] ∧ r3 = [] ∧ r4 = true ∧ r5 = 1 := by
                    have h := HRN.out
                    simp only [resO, Prod.mk.injEq] at h
                    exact ⟨h.1.symm, h.2.1.symm, h.2.2.1.symm, h.2.2.2.1.symm, h.2.2.2.2.symm⟩
                  exact ⟨_, _, rfl, Kd.R_nil _ _ _ _ _, Kd.R_nil _ _ _ _ _, q1⟩
                · have hyt : ¬ (B y).toList = [45, 67] := by rw [B_toList]; exact hyc
                  clear hbad hye hyc hA
                  go_wp2_with (go_at_call 46; refine (sub_set.calls (B y) sn st _ _ (Shp.below HSH.out HJ.out.bel) HSET.out).mono ?_; rintro e2 w2 ⟨rfl, hb2⟩; have J2 := Aside0.mk (HJ.out.new (below_alloc hb2 (.cells #[.string sn, .string st] 98))); have J2d := Aside0.mk (J2.out.new (below_drew (Below.refl _ _))); have y2 := (J2.out.bel.cell (World.block_lt_of_cell? w _ HYC.out)).trans HYC.out; have y2d := (J2d.out.bel.cell (World.block_lt_of_cell? w _ HYC.out)).trans HYC.out; have q1c := blk_cell J2.out.box 1; have q1d : (w2.alloc (.cells #[.string sn, .string st] 98)).drew.cell? ⟨w1.heap.size, 1, none⟩ = some (.slice Ag ng cg) := blk_cell J2d.out.box 1; have q2c := blk_cell J2.out.box 2; have t0 := blk_cell (blk_new w2 (.cells #[.string sn, .string st] 98 (0, 0))) 0; have t1 := blk_cell (blk_new w2 (.cells #[.string sn, .string st] 98 (0, 0))) 1; have J2a := Aside0.mk (J2d.out.new (below_alloc (Below.refl _ _) (.cells #[.string (B y)] 9))); have q1a : ((w2.alloc (.cells #[.string sn, .string st] 98)).drew.alloc (.cells #[.string (B y)] 9)).cell? ⟨w1.heap.size, 1, none⟩ = some (.slice Ag ng cg) := blk_cell J2a.out.box 1; have J2b := Aside0.mk (J2.out.new (below_alloc (Below.refl _ _) (.cells #[.string (B y)] 9))); have q1b : ((w2.alloc (.cells #[.string sn, .string st] 98)).alloc (.cells #[.string (B y)] 9)).cell? ⟨w1.heap.size, 1, none⟩ = some (.slice Ag ng cg) := blk_cell J2b.out.box 1; have u0 := blk_cell J2.out.res 0; have u1 := blk_cell J2.out.res 1; have u2 := blk_cell J2.out.res 2; have g0 := blk_frozen J2.out.res 0; have g1 := blk_frozen J2.out.res 1; have g2 := blk_frozen J2.out.res 2; clear hb2)
                  obtain ⟨q1, q2, q3⟩ := res_put J2.out.bel J2.out.res (.string ⟨#[]⟩) (.slice none 0 0) (.slice none 0 0) rfl
                  refine bodyPost_ret (results_ctt rfl _ _ w.heap.size 57 #[.string ⟨#[]⟩, .slice none 0 0, .slice none 0 0] (0, 0) _ rfl q2 Try.underlying57 rfl (by kernel_rfl)) rfl ?_
                  obtain ⟨rfl, rfl, rfl, rfl, rfl⟩ : r1 = (⟨#[]⟩ : ByteArray) ∧ r2 = [] ∧ r3 = [] ∧ r4 = true ∧ r5 = 1 := by
                    have h := HRN.out
                    simp only [resO, Prod.mk.injEq] at h
                    exact ⟨h.1.symm, h.2.1.symm, h.2.2.1.symm, h.2.2.2.1.symm, h.2.2.2.2.symm⟩
                  exact ⟨_, _, rfl, Kd.R_nil _ _ _ _ _, Kd.R_nil _ _ _ _ _, q1⟩
            · have hye : ¬ y = [] := fun h => hbad (.inl h)
              have hyc : ¬ y = [45, 67] := by rintro rfl; exact hbad (.inr rfl)
              have hyn : (B y).toList.isEmpty = false := by rw [B_toList]; exact List.isEmpty_eq_false_iff.2 hye
              have hyl0 := List.length_pos_iff.2 hye
              have hy0 : 0 < (B y).size := by rw [hys]; exact hyl0
              obtain ⟨x0, hx0⟩ : ∃ x0, (B y)[0]'hy0 = x0 := ⟨_, rfl⟩
              have hq45 : ((x0.toNat : Int) == 45) = false := by
                have e0 : x0 = y[0]'hyl0 := hx0.symm.trans (getB' y 0 hyl0 hy0)
                rw [beq_eq_false_iff_ne]
                intro h
                rw [e0] at h
                have h2 : y[0]'hyl0 = 45 := (u8_num _ 45 (by omega)) ▸ h
                exact hbad (.inr (by rw [List.head?_eq_getElem?, List.getElem?_eq_getElem hyl0, h2]))
              have hyt : ¬ (B y).toList = [45, 67] := by rw [B_toList]; exact hyc
              have HDM := Aside0.mk (show dir.length ≤ 1 + (i + 1) * 100000001 from Nat.le_trans HDL.out (Nat.add_le_add_left (Nat.mul_le_mul_right _ (Nat.le_succ i)) 1))
              cases hs : setU y with
              | some p =>
                obtain ⟨hsn, hst⟩ := hsetp p hs
                have HRV := Aside0.mk (show resO true (ofS dir goals (vars ++ [p]) (ws.drop (i + 1))) = (r1, r2, r3, r4, r5) by rw [← HRR.out, HDR.out, ofS_var dir y goals vars _ hbad p hs])
                rw [hs] at hset
                have HSET := Aside0.mk (show sub_set.f (B y) = some (sn, st, true) from hset)
                have hvl : vars.length < 1000000000 := by have := HGL.out.2; omega
                have HPS := Aside0.mk (show (⟨sn, st⟩ : S98) = pS p by rw [hsn, hst]; rfl)
                clear hset hsetp hno hbad hye hyc hA hs hsn hst
                obtain ⟨m1, rfl⟩ : ∃ m1, m = m1 + 1 := ⟨m - 1, by omega⟩
                go_wp2_with (first | (go_at_call 46; refine (sub_set.calls (B y) sn st _ _ (Shp.below HSH.out HJ.out.bel) HSET.out).mono ?_; rintro e2 w2 ⟨rfl, hb2⟩; have J2 := Aside0.mk (HJ.out.new (below_alloc hb2 (.cells #[.string sn, .string st] 98))); have J2d := Aside0.mk (J2.out.new (below_drew (Below.refl _ _))); have y2 := (J2.out.bel.cell (World.block_lt_of_cell? w _ HYC.out)).trans HYC.out; have y2d := (J2d.out.bel.cell (World.block_lt_of_cell? w _ HYC.out)).trans HYC.out; have q1c := blk_cell J2.out.box 1; have q1d : (w2.alloc (.cells #[.string sn, .string st] 98)).drew.cell? ⟨w1.heap.size, 1, none⟩ = some (.slice Ag ng cg) := blk_cell J2d.out.box 1; have q2c := blk_cell J2.out.box 2; have t0 := blk_cell (blk_new w2 (.cells #[.string sn, .string st] 98 (0, 0))) 0; have t1 := blk_cell (blk_new w2 (.cells #[.string sn, .string st] 98 (0, 0))) 1; have J2a := Aside0.mk (J2d.out.new (below_alloc (Below.refl _ _) (.cells #[.string (B y)] 9))); have q1a : ((w2.alloc (.cells #[.string sn, .string st] 98)).drew.alloc (.cells #[.string (B y)] 9)).cell? ⟨w1.heap.size, 1, none⟩ = some (.slice Ag ng cg) := blk_cell J2a.out.box 1; have J2b := Aside0.mk (J2.out.new (below_alloc (Below.refl _ _) (.cells #[.string (B y)] 9))); have q1b : ((w2.alloc (.cells #[.string sn, .string st] 98)).alloc (.cells #[.string (B y)] 9)).cell? ⟨w1.heap.size, 1, none⟩ = some (.slice Ag ng cg) := blk_cell J2b.out.box 1; have u0 := blk_cell J2.out.res 0; have u1 := blk_cell J2.out.res 1; have u2 := blk_cell J2.out.res 2; have g0 := blk_frozen J2.out.res 0; have g1 := blk_frozen J2.out.res 1; have g2 := blk_frozen J2.out.res 2; clear hb2) | ((with_reducible refine gate_builtin (b := .append) (xs := #[.tmp 90, .tmp 92]) rfl ?_); at_builtin; refine Kd.R_append k98 (w0 := w) w.heap.size rfl (.tmp 90) (.tmp 92) 55 98 (.agg #[.string ⟨#[]⟩, .string ⟨#[]⟩]) 32 rfl Try.underlying55 infoP rfl (by decide) (by omega) (.slice Av nv cv) (vars.map pS) (⟨sn, st⟩ : S98) [.string sn, .string st] (fun _ => True) (fun _ => False) rfl (by first | (go_simp; done) | (go_simp; rfl)) (k98_mkM _ _ _ _) (fun _ hk => hk.elim) (fun _ _ => trivial) J2.out.vr J2.out.bel J2.out.bel.size (by rw [List.length_map]; omega) ?_; intro v1 w4 ho hb hg4 hat; obtain ⟨A1x, n1x, c1x, ex⟩ := R_is ho; subst ex; rw [HPS.out, show vars.map pS ++ [pS p] = (vars ++ [p]).map pS by simp] at ho; have J4 := Aside0.mk (J2.out.var hg4 ho); have hbx := blk_grown_ty J2.out.box hg4 (R_row_ty J2.out.vr) (by decide); have s1 := blk_cell hbx 2; have s2 := blk_frozen hbx 2; clear ho hb hg4 hat hbx))
                go_roundg (gk - 1)
                case measure => omega
                case rel => exact ⟨i + 1, m1, dir, goals, vars ++ [p], AB, _, _, _, _, rfl, by first | rfl | go_num, by omega, by omega, ⟨fun h => HAB.out (by omega)⟩, by omega, J4, HRV, HDM, ⟨by have := HGL.out; simp; omega⟩⟩
              | none =>
                have HRV := Aside0.mk (show resO true (ofS dir (goals ++ [y]) vars (ws.drop (i + 1))) = (r1, r2, r3, r4, r5) by rw [← HRR.out, HDR.out, ofS_goal dir y goals vars _ hbad hs])
                rw [hs] at hset
                have HSET := Aside0.mk (show sub_set.f (B y) = some (sn, st, false) from hset)
                have hgl' : goals.length < 1000000000 := by have := HGL.out.1; omega
                clear hset hsetp hno hbad hye hyc hA hs
                obtain ⟨m1, rfl⟩ : ∃ m1, m = m1 + 1 := ⟨m - 1, by omega⟩
                go_wp2_with (go_at_call 46; refine (sub_set.calls (B y) sn st _ _ (Shp.below HSH.out HJ.out.bel) HSET.out).mono ?_; rintro e2 w2 ⟨rfl, hb2⟩; have J2 := Aside0.mk (HJ.out.new (below_alloc hb2 (.cells #[.string sn, .string st] 98))); have J2d := Aside0.mk (J2.out.new (below_drew (Below.refl _ _))); have y2 := (J2.out.bel.cell (World.block_lt_of_cell? w _ HYC.out)).trans HYC.out; have y2d := (J2d.out.bel.cell (World.block_lt_of_cell? w _ HYC.out)).trans HYC.out; have q1c := blk_cell J2.out.box 1; have q1d : (w2.alloc (.cells #[.string sn, .string st] 98)).drew.cell? ⟨w1.heap.size, 1, none⟩ = some (.slice Ag ng cg) := blk_cell J2d.out.box 1; have q2c := blk_cell J2.out.box 2; have t0 := blk_cell (blk_new w2 (.cells #[.string sn, .string st] 98 (0, 0))) 0; have t1 := blk_cell (blk_new w2 (.cells #[.string sn, .string st] 98 (0, 0))) 1; have J2a := Aside0.mk (J2d.out.new (below_alloc (Below.refl _ _) (.cells #[.string (B y)] 9))); have q1a : ((w2.alloc (.cells #[.string sn, .string st] 98)).drew.alloc (.cells #[.string (B y)] 9)).cell? ⟨w1.heap.size, 1, none⟩ = some (.slice Ag ng cg) := blk_cell J2a.out.box 1; have J2b := Aside0.mk (J2.out.new (below_alloc (Below.refl _ _) (.cells #[.string (B y)] 9))); have q1b : ((w2.alloc (.cells #[.string sn, .string st] 98)).alloc (.cells #[.string (B y)] 9)).cell? ⟨w1.heap.size, 1, none⟩ = some (.slice Ag ng cg) := blk_cell J2b.out.box 1; have u0 := blk_cell J2.out.res 0; have u1 := blk_cell J2.out.res 1; have u2 := blk_cell J2.out.res 2; have g0 := blk_frozen J2.out.res 0; have g1 := blk_frozen J2.out.res 1; have g2 := blk_frozen J2.out.res 2; clear hb2)
                go_region_law (first | (refine Kd.R_append_step Kd.string (w0 := w) (W := (w2.alloc (.cells #[.string sn, .string st] 98)).drew) w.heap.size (by rfl) (.tmp 47) (.tmp 51) 23 9 (.string ⟨#[]⟩) 16 rfl Try.underlying23 infoS rfl (by decide) (by omega) (.slice Ag ng cg) (goals.map B) (B y) [.string (B y)] (fun _ => True) (fun _ => False) rfl (by first | rfl | (go_simp; done) | (go_simp; rfl) | (simp [Act.eval]; done)) rfl (fun _ hk => hk.elim) (fun _ _ => trivial) J2d.out.gl J2d.out.bel J2d.out.bel.size (by rw [List.length_map]; omega) ?_; intro v1 w4 ho hb hg4 hat; obtain ⟨A1x, n1x, c1x, ex⟩ := R_is ho; subst ex; rw [show goals.map B ++ [B y] = (goals ++ [y]).map B by simp] at ho; have J4 := Aside0.mk (J2d.out.goal hg4 ho); have hbx := blk_grown_ty J2d.out.box hg4 (R_row_ty J2d.out.gl) (by decide); have s1 := blk_cell hbx 1; have s2 := blk_frozen hbx 1; clear ho hb hg4 hat hbx))
                all_goals
                  go_wp2
                  go_roundg (gk - 1)
                  case measure => omega
                  case rel => exact ⟨i + 1, m1, dir, goals ++ [y], vars, AB, _, _, _, _, rfl, by first | rfl | go_num, by omega, by omega, ⟨fun h => HAB.out (by omega)⟩, by omega, J4, HRV, HDM, ⟨by have := HGL.out; simp; omega⟩⟩
        · have hi : i = n := by omega
          have hm0' : m = 0 := by omega
          subst hm0'
          have HRN := Aside0.mk (show resO true (some (dir, goals, vars)) = (r1, r2, r3, r4, r5) by rw [← HRR.out, List.drop_eq_nil_of_le (by omega), ofS_nil])
          have b0 := blk_cell HJ.out.box 0
          have b1' := blk_cell HJ.out.box 1
          have b2 := blk_cell HJ.out.box 2
          have k0 := blk_cell HJ.out.res 0
          have k1 := blk_cell HJ.out.res 1
          have k2 := blk_cell HJ.out.res 2
          have f0 := blk_frozen HJ.out.res 0
          have f1 := blk_frozen HJ.out.res 1
          have f2 := blk_frozen HJ.out.res 2
          go_wp2
          obtain ⟨q1, q2, q3⟩ := res_put HJ.out.bel HJ.out.res (.string (B dir)) (.slice Ag ng cg) (.slice Av nv cv) rfl
          refine bodyPost_ret (results_ctt rfl _ _ w.heap.size 57 #[.string (B dir), .slice Ag ng cg, .slice Av nv cv] (0, 0) _ rfl q2 Try.underlying57 rfl (by kernel_rfl)) rfl ?_
          obtain ⟨rfl, rfl, rfl, rfl, rfl⟩ : r1 = B dir ∧ r2 = goals.map B ∧ r3 = vars.map pS ∧ r4 = true ∧ r5 = 0 := by
            have h := HRN.out
            simp only [resO, Prod.mk.injEq] at h
            exact ⟨h.1.symm, h.2.1.symm, h.2.2.1.symm, h.2.2.2.1.symm, h.2.2.2.2.symm⟩
          have hst : ∀ k, some w.heap.size = some k → ∃ cells, wo.heap[k]? = some (.cells cells 57 (0, 0)) := by
            intro k hk; injection hk with hk; subst hk; exact ⟨_, HJ.out.res⟩
          exact ⟨_, _, rfl, R_grown_ty HJ.out.gl q3 hst (by decide), R_grown_ty HJ.out.vr q3 hst (by decide), q1⟩
    · have HRN := Aside0.mk (show resO true none = (r1, r2, r3, r4, r5) by
        rw [← hres]
        congr 1
        match l0, hone with
        | [], _ => rfl
        | [z], h => exact (if_neg (fun e => h ⟨z, rfl, e⟩)).symm
        | _ :: _ :: _, _ => rfl)
      clear hres hzs
      have hret : r1 = (⟨#[]⟩ : ByteArray) ∧ r2 = [] ∧ r3 = [] ∧ r4 = true ∧ r5 = 1 := by
        have h := HRN.out
        simp only [resO, Prod.mk.injEq] at h
        exact ⟨h.1.symm, h.2.1.symm, h.2.2.1.symm, h.2.2.2.1.symm, h.2.2.2.2.symm⟩
      obtain ⟨rfl, rfl, rfl, rfl, rfl⟩ := hret
      by_cases hl1 : l0.length = 1
      · obtain ⟨x, rfl⟩ : ∃ x, l0 = [x] := List.length_eq_one_iff.1 hl1
        have hx2 : ¬ x.f2.length = 0 := fun e => hone ⟨x, rfl, e⟩
        obtain ⟨b, o, rfl, hb, hcc⟩ := cmdRow HC0.out (by simp)
        obtain ⟨A1, c1, A2, c2, d0, d1, d2, l1, g1, l2, g2⟩ := hcc 0 (by simp)
        rw [Nat.zero_mul, Nat.add_zero] at d0 d1 d2
        simp only [List.getElem_cons_zero] at d0 d1 d2
        have hxd : decide ((x.f2.length : Int) > 0) = true := decide_eq_true (by omega)
        have hxd2 : 0 < x.f2.length := by omega
        have D2 := Aside0.mk d2
        clear hcc g1 g2 l1 l2 d0 d1 d2 hone his hx2
        go_enter Try.func19, Try.ntmps19
        go_wp2_with (go_at_call 21; refine (sub_Is.calls _ c0 [x] a1 true _ (Kd.C_below HC0.out HB0.out) hc0 HIS.out).mono ?_; rintro e1 w1 ⟨rfl, hb1⟩; have HB1 := Aside0.mk (below_step HB0.out hb1); have HR1 := Aside0.mk (blk_below HRB.out hb1); have k0 := blk_cell HR1.out 0; have k1 := blk_cell HR1.out 1; have k2 := blk_cell HR1.out 2; have f0 := blk_frozen HR1.out 0; have f1 := blk_frozen HR1.out 1; have f2 := blk_frozen HR1.out 2; have k3 := (HB1.out.cell (World.block_lt_of_cell? w _ D2.out)).trans D2.out; clear hb1)
        obtain ⟨q1, q2, q3⟩ := res_put HB1.out HR1.out (.string ⟨#[]⟩) (.slice none 0 0) (.slice none 0 0) rfl
        refine bodyPost_ret (results_ctt rfl _ _ w.heap.size 57 #[.string ⟨#[]⟩, .slice none 0 0, .slice none 0 0] (0, 0) _ rfl q2 Try.underlying57 rfl (by kernel_rfl)) rfl ?_
        exact ⟨_, _, rfl, Kd.R_nil _ _ _ _ _, Kd.R_nil _ _ _ _ _, q1⟩
      · have hl1' : ((l0.length : Int) == 1) = false := by simp; omega
        have hl2' : ¬ ((l0.length : Int) = 1) := by omega
        clear hone his
        go_enter Try.func19, Try.ntmps19
        go_wp2_with (go_at_call 21; refine (sub_Is.calls A0 c0 l0 a1 true _ (Kd.C_below HC0.out HB0.out) hc0 HIS.out).mono ?_; rintro e1 w1 ⟨rfl, hb1⟩; have HB1 := Aside0.mk (below_step HB0.out hb1); have HR1 := Aside0.mk (blk_below HRB.out hb1); have k0 := blk_cell HR1.out 0; have k1 := blk_cell HR1.out 1; have k2 := blk_cell HR1.out 2; have f0 := blk_frozen HR1.out 0; have f1 := blk_frozen HR1.out 1; have f2 := blk_frozen HR1.out 2; clear hb1)
        obtain ⟨q1, q2, q3⟩ := res_put HB1.out HR1.out (.string ⟨#[]⟩) (.slice none 0 0) (.slice none 0 0) rfl
        refine bodyPost_ret (results_ctt rfl _ _ w.heap.size 57 #[.string ⟨#[]⟩, .slice none 0 0, .slice none 0 0] (0, 0) _ rfl q2 Try.underlying57 rfl (by kernel_rfl)) rfl ?_
        exact ⟨_, _, rfl, Kd.R_nil _ _ _ _ _, Kd.R_nil _ _ _ _ _, q1⟩
end Go.Proofs.Ytmpheeanjjfddaa.X
/- Laid for this claim by the session's own program xprint.py, over the print of the kit: functions of the program as plain Lean functions, each with a proof that a call comes to what its function says, or the row of a law out of these; no condition of its own. -/
namespace Go.Proofs.Ytmpheeanjjfddaa.XW19
open Go.Proofs.Ytmpheeanjjfddaa.X Go.Proofs.Ytmpheeanjjfddaa.XT06 Go.Proofs.Ytmpheeanjjfddaa.XW05 Go.RowKit Go.Proofs.YtmpheeanjjfddaaW.PrintWords Go.Proofs.YtmpheeanjjfddaaW.PrintLast Go.Proofs.YtmpheeanjjfddaaW.PrintMore
attribute [local go_sem] cell4_1 cell4_1d max2_int min2_int max_two min_two max_three min_three max_four min_four   -- for this text's walks alone
set_option linter.unusedVariables false
set_option linter.unusedSimpArgs false



def errW : Option Int → Value
  | none => .nilIface
  | some c => .iface 0 (.int .i64 c)
theorem errW_none : errW none = .nilIface := rfl
theorem errW_some (c : Int) : errW (some c) = .iface 0 (.int .i64 c) := rfl

theorem info9 : (Try.prog.info? 9).map (fun i => (i.zero, i.size, i.bytes)) = some (some (.string ⟨#[]⟩), 1, 16) := by kernel_rfl
theorem info98 : (Try.prog.info? 98).map (fun i => (i.zero, i.size, i.bytes)) = some (some (.agg #[(.string ⟨#[]⟩), (.string ⟨#[]⟩)]), 2, 32) := by kernel_rfl
-- the values' own types
end Go.Proofs.Ytmpheeanjjfddaa.XW19
/- Laid for this claim by the session's own program xprint.py, over the print of the kit: functions of the program as plain Lean functions, each with a proof that a call comes to what its function says, or the row of a law out of these; no condition of its own. -/
namespace Go.Proofs.Ytmpheeanjjfddaa.XW19
open Go.Proofs.Ytmpheeanjjfddaa.X Go.Proofs.Ytmpheeanjjfddaa.XT06 Go.Proofs.Ytmpheeanjjfddaa.XW05 Go.RowKit Go.Proofs.YtmpheeanjjfddaaW.PrintWords Go.Proofs.YtmpheeanjjfddaaW.PrintLast Go.Proofs.YtmpheeanjjfddaaW.PrintMore
attribute [local go_sem] cell4_1 cell4_1d max2_int min2_int max_two min_two max_three min_three max_four min_four   -- for this text's walks alone
set_option linter.unusedVariables false
set_option linter.unusedSimpArgs false

/-! ### flatironlaw19_lives: function 16 -/
def flatironlaw19_lives.f (k : Nat)  : Option (Bool) := (parse_Line.f (⟨#[109, 97, 107, 101, 32, 45, 67, 32, 100, 32, 88, 61, 49, 32, 97, 108, 108]⟩ : ByteArray)).bind fun bt101 => ((sub_Of.f bt101.1 (⟨#[109, 97, 107, 101]⟩ : ByteArray)).bind fun bt105 => (if bt101.2 = 0 then (if bt105.2.2.2.1 = true then (if bt105.2.2.2.2 = 0 then (if bt105.1.toList = ([46, 47, 100] : List UInt8) then ((slices_Equal_string_string.f k bt105.2.1 (([(⟨#[97, 108, 108]⟩ : ByteArray)] : List ByteArray))).bind fun t118 => (if t118 = true then ((sub_Pair.f k bt105.2.2.1 (([(⟨(⟨#[88]⟩ : ByteArray), (⟨#[49]⟩ : ByteArray)⟩ : S98)] : List (S98)))).bind fun t122 => (if t122 = true then (some true) else (some false))) else (some false))) else (some false)) else (some false)) else (some false)) else (some false)))
theorem flatironlaw19_lives.mono : ∀ k, LeO (flatironlaw19_lives.f k ) (flatironlaw19_lives.f (k + 1) ) := by
  intro  k
  unfold flatironlaw19_lives.f
  repeat' first
      | (with_reducible exact slices_Equal_string_string.mono _ _ _)
      | (with_reducible exact sub_Pair.mono _ _ _)
      | (with_reducible exact LeO.refl _)
      | (with_reducible exact LeO.none _)
      | (with_reducible refine LeO.ite ?_ ?_)
      | (with_reducible refine LeO.bind ?_ (fun _ => ?_))
      | exact slices_Equal_string_string.mono _ _ _
      | exact sub_Pair.mono _ _ _
      | exact LeO.none _
      | refine LeO.ite ?_ ?_
      | refine LeO.bind ?_ (fun _ => ?_)
set_option maxHeartbeats 8000000 in
set_option maxRecDepth 100000 in
theorem flatironlaw19_lives.calls (k : Nat)  (r : Bool) (w : World) (hSH : Shp w) (h : flatironlaw19_lives.f k  = some r) :
    Calls Try.prog 16 #[] w fun e w' => e = .returned (.bool r) ∧ Below w.heap.size w w' := by
  have hu57 := Try.underlying57
  have hu98 := Try.underlying98
  have HSH := Aside0.mk hSH
  clear hSH
  have HB := Aside0.mk (Below.refl w.heap.size w)
  have H : ((parse_Line.f (⟨#[109, 97, 107, 101, 32, 45, 67, 32, 100, 32, 88, 61, 49, 32, 97, 108, 108]⟩ : ByteArray)).bind fun bt101 => ((sub_Of.f bt101.1 (⟨#[109, 97, 107, 101]⟩ : ByteArray)).bind fun bt105 => (if bt101.2 = 0 then (if bt105.2.2.2.1 = true then (if bt105.2.2.2.2 = 0 then (if bt105.1.toList = ([46, 47, 100] : List UInt8) then ((slices_Equal_string_string.f k bt105.2.1 (([(⟨#[97, 108, 108]⟩ : ByteArray)] : List ByteArray))).bind fun t118 => (if t118 = true then ((sub_Pair.f k bt105.2.2.1 (([(⟨(⟨#[88]⟩ : ByteArray), (⟨#[49]⟩ : ByteArray)⟩ : S98)] : List (S98)))).bind fun t122 => (if t122 = true then (some true) else (some false))) else (some false))) else (some false)) else (some false)) else (some false)) else (some false)))) = some r := h
  clear h
  replace H := Option.bind_eq_some_iff.mp H
  obtain ⟨⟨t101, t102⟩, A10, H⟩ := H
  replace H : ((sub_Of.f t101 (⟨#[109, 97, 107, 101]⟩ : ByteArray)).bind fun bt105 => (if t102 = 0 then (if bt105.2.2.2.1 = true then (if bt105.2.2.2.2 = 0 then (if bt105.1.toList = ([46, 47, 100] : List UInt8) then ((slices_Equal_string_string.f k bt105.2.1 (([(⟨#[97, 108, 108]⟩ : ByteArray)] : List ByteArray))).bind fun t118 => (if t118 = true then ((sub_Pair.f k bt105.2.2.1 (([(⟨(⟨#[88]⟩ : ByteArray), (⟨#[49]⟩ : ByteArray)⟩ : S98)] : List (S98)))).bind fun t122 => (if t122 = true then (some true) else (some false))) else (some false))) else (some false)) else (some false)) else (some false)) else (some false))) = some r := H
  have A1 := Aside0.mk A10
  clear A10
  replace H := Option.bind_eq_some_iff.mp H
  obtain ⟨⟨t105, t106, t109, t112, t113⟩, A20, H⟩ := H
  replace H : (if t102 = 0 then (if t112 = true then (if t113 = 0 then (if t105.toList = ([46, 47, 100] : List UInt8) then ((slices_Equal_string_string.f k t106 (([(⟨#[97, 108, 108]⟩ : ByteArray)] : List ByteArray))).bind fun t118 => (if t118 = true then ((sub_Pair.f k t109 (([(⟨(⟨#[88]⟩ : ByteArray), (⟨#[49]⟩ : ByteArray)⟩ : S98)] : List (S98)))).bind fun t122 => (if t122 = true then (some true) else (some false))) else (some false))) else (some false)) else (some false)) else (some false)) else (some false)) = some r := H
  have A2 := Aside0.mk A20
  clear A20
  by_cases c3 : t102 = 0
  · rw [if_pos c3] at H
    have c3b0 : (t102 == 0) = true := beq_iff_eq.mpr c3
    have c3b1 : (t102 != 0) = false := bne_eq_false_iff_eq.mpr c3
    clear c3
    by_cases c4 : t112 = true
    · subst c4
      have H1 : (if t113 = 0 then (if t105.toList = ([46, 47, 100] : List UInt8) then ((slices_Equal_string_string.f k t106 (([(⟨#[97, 108, 108]⟩ : ByteArray)] : List ByteArray))).bind fun t118 => (if t118 = true then ((sub_Pair.f k t109 (([(⟨(⟨#[88]⟩ : ByteArray), (⟨#[49]⟩ : ByteArray)⟩ : S98)] : List (S98)))).bind fun t122 => (if t122 = true then (some true) else (some false))) else (some false))) else (some false)) else (some false)) = some r := by rw [if_pos rfl] at H; exact H
      clear H
      have H := H1
      clear H1
      by_cases c5 : t113 = 0
      · rw [if_pos c5] at H
        have c5b0 : (t113 == 0) = true := beq_iff_eq.mpr c5
        have c5b1 : (t113 != 0) = false := bne_eq_false_iff_eq.mpr c5
        clear c5
        by_cases c6 : t105.toList = ([46, 47, 100] : List UInt8)
        · rw [if_pos c6] at H
          have c6b0 : (t105.toList == ([46, 47, 100] : List UInt8)) = true := beq_iff_eq.mpr c6
          have c6b1 : (t105.toList != ([46, 47, 100] : List UInt8)) = false := bne_eq_false_iff_eq.mpr c6
          clear c6
          obtain ⟨y115, hy115⟩ : ∃ y_ : List ByteArray, y_ = (([(⟨#[97, 108, 108]⟩ : ByteArray)] : List ByteArray)) := ⟨_, rfl⟩
          replace H : ((slices_Equal_string_string.f k t106 y115).bind fun t118 => (if t118 = true then ((sub_Pair.f k t109 (([(⟨(⟨#[88]⟩ : ByteArray), (⟨#[49]⟩ : ByteArray)⟩ : S98)] : List (S98)))).bind fun t122 => (if t122 = true then (some true) else (some false))) else (some false))) = some r := by first | (rw [hy115]; with_reducible exact H) | (have H2_ := (Option.bind_some _ _).symm.trans H; rw [hy115]; with_reducible exact H2_) | (have H2_ := (Option.bind_some _ _).symm.trans H; with_reducible exact H2_) | with_reducible exact H | (rw [hy115]; exact H) | exact H
          have Ny115 := Aside0.mk hy115
          clear hy115
          replace H := Option.bind_eq_some_iff.mp H
          obtain ⟨t118, A70, H⟩ := H
          replace H : (if t118 = true then ((sub_Pair.f k t109 (([(⟨(⟨#[88]⟩ : ByteArray), (⟨#[49]⟩ : ByteArray)⟩ : S98)] : List (S98)))).bind fun t122 => (if t122 = true then (some true) else (some false))) else (some false)) = some r := H
          have A7 := Aside0.mk A70
          clear A70
          by_cases c8 : t118 = true
          · subst c8
            have H1 : ((sub_Pair.f k t109 (([(⟨(⟨#[88]⟩ : ByteArray), (⟨#[49]⟩ : ByteArray)⟩ : S98)] : List (S98)))).bind fun t122 => (if t122 = true then (some true) else (some false))) = some r := by rw [if_pos rfl] at H; exact H
            clear H
            have H := H1
            clear H1
            obtain ⟨y119, hy119⟩ : ∃ y_ : List (S98), y_ = (([(⟨(⟨#[88]⟩ : ByteArray), (⟨#[49]⟩ : ByteArray)⟩ : S98)] : List (S98))) := ⟨_, rfl⟩
            replace H : ((sub_Pair.f k t109 y119).bind fun t122 => (if t122 = true then (some true) else (some false))) = some r := by first | (rw [hy119]; with_reducible exact H) | (have H2_ := (Option.bind_some _ _).symm.trans H; rw [hy119]; with_reducible exact H2_) | (have H2_ := (Option.bind_some _ _).symm.trans H; with_reducible exact H2_) | with_reducible exact H | (rw [hy119]; exact H) | exact H
            have Ny119 := Aside0.mk hy119
            clear hy119
            replace H := Option.bind_eq_some_iff.mp H
            obtain ⟨t122, A90, H⟩ := H
            replace H : (if t122 = true then (some true) else (some false)) = some r := H
            have A9 := Aside0.mk A90
            clear A90
            by_cases c10 : t122 = true
            · subst c10
              have H1 : (some true) = some r := by rw [if_pos rfl] at H; exact H
              clear H
              have H := H1
              clear H1
              obtain rfl := Option.some.inj H
              go_enter Try.func16, Try.ntmps16
              go_wp2_with (first | ((with_reducible refine gate_callee (f := 17) rfl ?_); refine goesL_ (some 7) rfl rfl Try.func17 (by kernel_rfl) rfl #[.string (⟨#[109, 97, 107, 101, 32, 45, 67, 32, 100, 32, 88, 61, 49, 32, 97, 108, 108]⟩ : ByteArray)] rfl (by (try simp only [List.map_toArray, List.map_cons, List.map_nil]); first | done | rfl | (simp only [List.length_drop, List.length_take]; rfl)) ?_; (with_reducible refine (parse_Line.calls (⟨#[109, 97, 107, 101, 32, 45, 67, 32, 100, 32, 88, 61, 49, 32, 97, 108, 108]⟩ : ByteArray) t101 t102 _ A1.out).mono ?_); rintro e w11 ⟨v103, rfl, ho0, hb⟩; refine ⟨_, rfl, ?_⟩; have n0_ := Aside0.mk (Kd.S_lower ho0 (below_size (by repeat (first | (with_reducible first | exact HB.out | apply below_alloc | apply pw_below_drewN | apply below_drew1) | exact HB.out)))); have n1_ := Aside0.mk (below_step (by repeat (first | (with_reducible first | exact HB.out | apply below_alloc | apply pw_below_drewN | apply below_drew1) | exact HB.out)) hb); clear HB; have HO104 := n0_; have HB := n1_; clear n0_ n1_; (try clear hb); (try clear hb2); (try clear hk); (try clear hi); (try clear ho0); obtain ⟨Ao12, co12, eo12⟩ := Kd.S_slice HO104.out; subst eo12) | ((with_reducible refine gate_callee (f := 19) rfl ?_); refine goesL_ (some 12) rfl rfl Try.func19 (by kernel_rfl) rfl #[.slice Ao12 t101.length co12, .string (⟨#[109, 97, 107, 101]⟩ : ByteArray)] rfl (by (try simp only [List.map_toArray, List.map_cons, List.map_nil]); first | done | rfl | (simp only [List.length_drop, List.length_take]; rfl)) ?_; (with_reducible refine (sub_Of.calls _ _ t101 (⟨#[109, 97, 107, 101]⟩ : ByteArray) t105 t106 t109 true t113 _ ?side1 ?side2 ?side3 A2.out).mono ?_); (case side1 => first | exact HSH.out | exact Shp.below HSH.out (by repeat (first | (with_reducible first | exact HB.out | apply below_alloc | apply pw_below_drewN | apply below_drew1) | exact HB.out))); (case side2 => repeat (first | exact (Kd.S_reads' HO104.out).2.2 | (with_reducible refine Kd.C_alloc ?_ _) | (with_reducible refine Kd.C_drewN ?_ _) | (with_reducible refine Kd.C_drew ?_))); (case side3 => exact (Kd.S_reads' HO104.out).2.1); rintro e w13 ⟨v107, v110, rfl, ho0, ho1, hb⟩; refine ⟨_, rfl, ?_⟩; have n0_ := Aside0.mk (Kd.S_elder' (by (with_reducible repeat (first | apply Kd.S_alloc | apply Kd.S_drewN | apply Kd.S_drew)); (first | exact HO104.out | (first | refine Kd.R_mono HO104.out (fun _ hk => ?_) | refine Kd.S_mono HO104.out (fun _ hk => ?_) | refine Kd.Q_mono HO104.out (fun _ hk => ?_)); simp only [ownBlock_slice] at hk ⊢; exact hk)) (Kd.R_base ho0) hb); have n1_ := Aside0.mk (Kd.R_lower ho0 (below_size (by repeat (first | (with_reducible first | exact HB.out | apply below_alloc | apply pw_below_drewN | apply below_drew1) | exact HB.out)))); have n2_ := Aside0.mk (Kd.R_lower ho1 (below_size (by repeat (first | (with_reducible first | exact HB.out | apply below_alloc | apply pw_below_drewN | apply below_drew1) | exact HB.out)))); have n3_ := Aside0.mk (below_step (by repeat (first | (with_reducible first | exact HB.out | apply below_alloc | apply pw_below_drewN | apply below_drew1) | exact HB.out)) hb); clear HO104; clear HB; have HO104 := n0_; have HO108 := n1_; have HO111 := n2_; have HB := n3_; clear n0_ n1_ n2_ n3_; (try clear hb); (try clear hb2); (try clear hk); (try clear hi); (try clear ho0); (try clear ho1)) | ((with_reducible refine gate_dst (N := 3) rfl ?_); (try (refine gate_guard (by rfl) ?_; dsimp only)); refine box_event ?hg (N := 3) ?hd (cs := #[.string (⟨#[]⟩ : ByteArray), .slice none 0 0, .slice none 0 0]) (t := 57) ?hr ?_; (case hd => rfl); (case hg => rfl); (case hr => first | (go_simp; done) | (go_simp; rfl)); intro gb114 hg w14 hbox hb; have n0_ := Aside0.mk (Kd.S_below (by (with_reducible repeat (first | apply Kd.S_alloc | apply Kd.S_drewN | apply Kd.S_drew)); (first | exact HO104.out | (first | refine Kd.R_mono HO104.out (fun _ hk => ?_) | refine Kd.S_mono HO104.out (fun _ hk => ?_) | refine Kd.Q_mono HO104.out (fun _ hk => ?_)); simp only [ownBlock_slice] at hk ⊢; exact hk)) hb); have n1_ := Aside0.mk (Kd.R_below (by (with_reducible repeat (first | apply Kd.R_alloc | apply Kd.R_drewN | apply Kd.R_drew)); (first | exact HO108.out | (first | refine Kd.R_mono HO108.out (fun _ hk => ?_) | refine Kd.S_mono HO108.out (fun _ hk => ?_) | refine Kd.Q_mono HO108.out (fun _ hk => ?_)); simp only [ownBlock_slice] at hk ⊢; exact hk)) hb); have n2_ := Aside0.mk (Kd.R_below (by (with_reducible repeat (first | apply Kd.R_alloc | apply Kd.R_drewN | apply Kd.R_drew)); (first | exact HO111.out | (first | refine Kd.R_mono HO111.out (fun _ hk => ?_) | refine Kd.S_mono HO111.out (fun _ hk => ?_) | refine Kd.Q_mono HO111.out (fun _ hk => ?_)); simp only [ownBlock_slice] at hk ⊢; exact hk)) hb); have n3_ := Aside0.mk (below_step (by repeat (first | (with_reducible first | exact HB.out | apply below_alloc | apply pw_below_drewN | apply below_drew1) | exact HB.out)) hb); have n4_ := Aside0.mk (hbox); have n5_ := Aside0.mk ((by rw [hg]; exact (below_size (by repeat (first | (with_reducible first | exact HB.out | apply below_alloc | apply pw_below_drewN | apply below_drew1) | exact HB.out))) : w.heap.size ≤ gb114)); have n6_ := Aside0.mk ((by rw [hg]; exact (below_size (by repeat (first | (with_reducible first | exact HB.out | apply below_alloc | apply pw_below_drewN | apply below_drew1) | exact HB.out))) : w.heap.size ≤ gb114)); clear HO104; clear HO108; clear HO111; clear HB; have HO104 := n0_; have HO108 := n1_; have HO111 := n2_; have HB := n3_; have BK114 := n4_; have GW114 := n5_; have GE114 := n6_; clear n0_ n1_ n2_ n3_ n4_ n5_ n6_; clear hb hbox hg; have hcz15_0 : w14.cell? ⟨gb114, 0, none⟩ = some (.string (⟨#[]⟩ : ByteArray)) := (blk_cell BK114.out 0).trans rfl; have hcz15_1 : w14.cell? ⟨gb114, 1, none⟩ = some (.slice none 0 0) := (blk_cell BK114.out 1).trans rfl; have hcz15_2 : w14.cell? ⟨gb114, 2, none⟩ = some (.slice none 0 0) := (blk_cell BK114.out 2).trans rfl; have hfz15_0 := blk_frozen BK114.out 0; have hfz15_1 := blk_frozen BK114.out 1; have hfz15_2 := blk_frozen BK114.out 2; obtain ⟨Ao16, co16, eo16⟩ := Kd.R_slice HO108.out; subst eo16; obtain ⟨Ao17, co17, eo17⟩ := Kd.R_slice HO111.out; subst eo17) | ((with_reducible refine gate_dst (N := 33) rfl ?_); (try (refine gate_guard (by rfl) ?_; dsimp only)); refine Kd.R_lit Kd.string _ 9 ?hg (N := 33) ?hd (xs := ([(⟨#[97, 108, 108]⟩ : ByteArray)] : List ByteArray)) (inner := [.string (⟨#[97, 108, 108]⟩ : ByteArray)]) (ok := fun _ => True) (okp := fun _ => True) ?hr ?hp (fun _ hk => hk) trivial (Below.refl _ _) (Nat.le_refl _) (by simp) ?_; (case hd => rfl); (case hg => rfl); (case hr => first | (go_simp; done) | (go_simp; rfl)); (case hp => exact (Reps.one (show Kd.M Kd.string _ _ _ (⟨#[97, 108, 108]⟩ : ByteArray) [.string (⟨#[97, 108, 108]⟩ : ByteArray)] from rfl) (Reps.none _ _))); intro v116 w18 ho19 hb hg_ hnew_; clear hg_ hnew_; (first | rw [← Ny115.out] at ho19 | (simp only [Int.reduceToNat] at ho19; rw [← Ny115.out] at ho19)); have n0_ := Aside0.mk (Kd.S_elder' (by (with_reducible repeat (first | apply Kd.S_alloc | apply Kd.S_drewN | apply Kd.S_drew)); exact (Kd.S_mono (Kd.S_far (p := ⟨gb114, 2, none⟩) (Kd.S_far (p := ⟨gb114, 1, none⟩) (Kd.S_far (p := ⟨gb114, 0, none⟩) (Kd.S_types HO104.out BK114.out (by decide)) (fun _ hk => hk.2) (.string t105)) (fun _ hk => hk.2) (.slice Ao16 t106.length co16)) (fun _ hk => hk.2) (.slice Ao17 t109.length co17)) (fun _ h_ => h_.1))) (Kd.R_base ho19) hb); have n1_ := Aside0.mk (Kd.R_elder' (by (with_reducible repeat (first | apply Kd.R_alloc | apply Kd.R_drewN | apply Kd.R_drew)); exact (Kd.R_mono (Kd.R_far (p := ⟨gb114, 2, none⟩) (Kd.R_far (p := ⟨gb114, 1, none⟩) (Kd.R_far (p := ⟨gb114, 0, none⟩) (Kd.R_types HO108.out BK114.out (by decide)) (fun _ hk => hk.2) (.string t105)) (fun _ hk => hk.2) (.slice Ao16 t106.length co16)) (fun _ hk => hk.2) (.slice Ao17 t109.length co17)) (fun _ h_ => h_.1))) (Kd.R_base ho19) hb); have n2_ := Aside0.mk (Kd.R_below (by (with_reducible repeat (first | apply Kd.R_alloc | apply Kd.R_drewN | apply Kd.R_drew)); exact (Kd.R_mono (Kd.R_far (p := ⟨gb114, 2, none⟩) (Kd.R_far (p := ⟨gb114, 1, none⟩) (Kd.R_far (p := ⟨gb114, 0, none⟩) (Kd.R_types HO111.out BK114.out (by decide)) (fun _ hk => hk.2) (.string t105)) (fun _ hk => hk.2) (.slice Ao16 t106.length co16)) (fun _ hk => hk.2) (.slice Ao17 t109.length co17)) (fun _ h_ => h_.1))) hb); have n3_ := Aside0.mk (Kd.R_lower (Kd.R_new' ho19 (Kd.R_lt (by (with_reducible repeat (first | apply Kd.R_alloc | apply Kd.R_drewN | apply Kd.R_drew)); exact (Kd.R_mono (Kd.R_far (p := ⟨gb114, 2, none⟩) (Kd.R_far (p := ⟨gb114, 1, none⟩) (Kd.R_far (p := ⟨gb114, 0, none⟩) (Kd.R_types HO108.out BK114.out (by decide)) (fun _ hk => hk.2) (.string t105)) (fun _ hk => hk.2) (.slice Ao16 t106.length co16)) (fun _ hk => hk.2) (.slice Ao17 t109.length co17)) (fun _ h_ => h_.1))))) (below_size (by repeat (first | (with_reducible first | exact HB.out | apply below_alloc | apply pw_below_drewN | apply below_drew1 | refine below_set ?_ GE114.out) | exact HB.out)))); have n4_ := Aside0.mk (blk_below (g := gb114) (o := .cells #[.string t105, .slice Ao16 t106.length co16, .slice Ao17 t109.length co17] 57 (0, 0)) (by (with_reducible repeat (first | refine blk_drewN ?_ _ | refine blk_drew ?_ | refine blk_alloc ?_ _)); refine blk_put (cs := #[.string t105, .slice Ao16 t106.length co16, .slice none 0 0]) ?_ 2 _ rfl; (with_reducible repeat (first | refine blk_drewN ?_ _ | refine blk_drew ?_ | refine blk_alloc ?_ _)); refine blk_put (cs := #[.string t105, .slice none 0 0, .slice none 0 0]) ?_ 1 _ rfl; (with_reducible repeat (first | refine blk_drewN ?_ _ | refine blk_drew ?_ | refine blk_alloc ?_ _)); refine blk_put (cs := #[.string (⟨#[]⟩ : ByteArray), .slice none 0 0, .slice none 0 0]) ?_ 0 _ rfl; (with_reducible repeat (first | refine blk_drewN ?_ _ | refine blk_drew ?_ | refine blk_alloc ?_ _)); exact BK114.out) hb); have n5_ := Aside0.mk (below_step (by repeat (first | (with_reducible first | exact HB.out | apply below_alloc | apply pw_below_drewN | apply below_drew1 | refine below_set ?_ GE114.out) | exact HB.out)) hb); clear HO104; clear HO108; clear HO111; clear BK114; clear HB; have HO104 := n0_; have HO108 := n1_; have HO111 := n2_; have HO117 := n3_; have BK114 := n4_; have HB := n5_; clear n0_ n1_ n2_ n3_ n4_ n5_; clear hb ho19; obtain ⟨Ao20, co20, eo20⟩ := Kd.R_slice HO117.out; subst eo20) | (go_at_call 14; (with_reducible refine (slices_Equal_string_string.calls k _ _ t106 _ _ y115 true _ ?side1 ?side2 ?side3 ?side4 A7.out).mono ?_); (case side1 => repeat (first | exact (Kd.R_reads' HO108.out).2.2 | (with_reducible refine Kd.C_alloc ?_ _) | (with_reducible refine Kd.C_drewN ?_ _) | (with_reducible refine Kd.C_drew ?_))); (case side2 => exact (Kd.R_reads' HO108.out).2.1); (case side3 => repeat (first | exact (Kd.R_reads' HO117.out).2.2 | (with_reducible refine Kd.C_alloc ?_ _) | (with_reducible refine Kd.C_drewN ?_ _) | (with_reducible refine Kd.C_drew ?_))); (case side4 => exact (Kd.R_reads' HO117.out).2.1); rintro e w' ⟨rfl, ⟨nd, rfl⟩⟩; have hcz21_0 : w18.cell? ⟨gb114, 0, none⟩ = some (.string t105) := (blk_cell BK114.out 0).trans rfl; have hcz21_1 : w18.cell? ⟨gb114, 1, none⟩ = some (.slice Ao16 t106.length co16) := (blk_cell BK114.out 1).trans rfl; have hcz21_2 : w18.cell? ⟨gb114, 2, none⟩ = some (.slice Ao17 t109.length co17) := (blk_cell BK114.out 2).trans rfl; have hfz21_0 := blk_frozen BK114.out 0; have hfz21_1 := blk_frozen BK114.out 1; have hfz21_2 := blk_frozen BK114.out 2) | ((with_reducible refine gate_dst (N := 40) rfl ?_); (try (refine gate_guard (by rfl) ?_; dsimp only)); refine Kd.R_lit k98 _ 98 ?hg (N := 40) ?hd (xs := ([(⟨(⟨#[88]⟩ : ByteArray), (⟨#[49]⟩ : ByteArray)⟩ : S98)] : List (S98))) (inner := [.string (⟨#[88]⟩ : ByteArray), .string (⟨#[49]⟩ : ByteArray)]) (ok := fun _ => True) (okp := fun _ => True) ?hr ?hp (fun _ hk => hk) trivial (Below.refl _ _) (Nat.le_refl _) (by simp) ?_; (case hd => rfl); (case hg => rfl); (case hr => first | (go_simp; done) | (go_simp; rfl)); (case hp => exact (Reps.c2 (show Kd.M k98 _ _ _ (⟨(⟨#[88]⟩ : ByteArray), (⟨#[49]⟩ : ByteArray)⟩ : S98) [.string (⟨#[88]⟩ : ByteArray), .string (⟨#[49]⟩ : ByteArray)] from (k98_mkM _ _ _ (⟨(⟨#[88]⟩ : ByteArray), (⟨#[49]⟩ : ByteArray)⟩ : S98) )) (Reps.none _ _))); intro v120 w22 ho23 hb hg_ hnew_; clear hg_ hnew_; (first | rw [← Ny119.out] at ho23 | (simp only [Int.reduceToNat] at ho23; rw [← Ny119.out] at ho23)); have n0_ := Aside0.mk (Kd.S_below (by (with_reducible repeat (first | apply Kd.S_alloc | apply Kd.S_drewN | apply Kd.S_drew)); (first | exact HO104.out | (first | refine Kd.R_mono HO104.out (fun _ hk => ?_) | refine Kd.S_mono HO104.out (fun _ hk => ?_) | refine Kd.Q_mono HO104.out (fun _ hk => ?_)); simp only [ownBlock_slice] at hk ⊢; exact hk)) hb); have n1_ := Aside0.mk (Kd.R_below (by (with_reducible repeat (first | apply Kd.R_alloc | apply Kd.R_drewN | apply Kd.R_drew)); (first | exact HO108.out | (first | refine Kd.R_mono HO108.out (fun _ hk => ?_) | refine Kd.S_mono HO108.out (fun _ hk => ?_) | refine Kd.Q_mono HO108.out (fun _ hk => ?_)); simp only [ownBlock_slice] at hk ⊢; exact hk)) hb); have n2_ := Aside0.mk (Kd.R_elder' (by (with_reducible repeat (first | apply Kd.R_alloc | apply Kd.R_drewN | apply Kd.R_drew)); (first | exact HO111.out | (first | refine Kd.R_mono HO111.out (fun _ hk => ?_) | refine Kd.S_mono HO111.out (fun _ hk => ?_) | refine Kd.Q_mono HO111.out (fun _ hk => ?_)); simp only [ownBlock_slice] at hk ⊢; exact hk)) (Kd.R_base ho23) hb); have n3_ := Aside0.mk (Kd.R_below (by (with_reducible repeat (first | apply Kd.R_alloc | apply Kd.R_drewN | apply Kd.R_drew)); (first | exact HO117.out | (first | refine Kd.R_mono HO117.out (fun _ hk => ?_) | refine Kd.S_mono HO117.out (fun _ hk => ?_) | refine Kd.Q_mono HO117.out (fun _ hk => ?_)); simp only [ownBlock_slice] at hk ⊢; exact hk)) hb); have n4_ := Aside0.mk (Kd.R_lower (Kd.R_new' ho23 (Kd.R_lt (by (with_reducible repeat (first | apply Kd.R_alloc | apply Kd.R_drewN | apply Kd.R_drew)); (first | exact HO111.out | (first | refine Kd.R_mono HO111.out (fun _ hk => ?_) | refine Kd.S_mono HO111.out (fun _ hk => ?_) | refine Kd.Q_mono HO111.out (fun _ hk => ?_)); simp only [ownBlock_slice] at hk ⊢; exact hk)))) (below_size (by repeat (first | (with_reducible first | exact HB.out | apply below_alloc | apply pw_below_drewN | apply below_drew1 | refine below_set ?_ GE114.out) | exact HB.out)))); have n5_ := Aside0.mk (blk_below (g := gb114) (o := .cells #[.string t105, .slice Ao16 t106.length co16, .slice Ao17 t109.length co17] 57 (0, 0)) (by (with_reducible repeat (first | refine blk_drewN ?_ _ | refine blk_drew ?_ | refine blk_alloc ?_ _)); exact BK114.out) hb); have n6_ := Aside0.mk (below_step (by repeat (first | (with_reducible first | exact HB.out | apply below_alloc | apply pw_below_drewN | apply below_drew1 | refine below_set ?_ GE114.out) | exact HB.out)) hb); clear HO104; clear HO108; clear HO111; clear HO117; clear BK114; clear HB; have HO104 := n0_; have HO108 := n1_; have HO111 := n2_; have HO117 := n3_; have HO121 := n4_; have BK114 := n5_; have HB := n6_; clear n0_ n1_ n2_ n3_ n4_ n5_ n6_; clear hb ho23; obtain ⟨Ao24, co24, eo24⟩ := Kd.R_slice HO121.out; subst eo24) | (go_at_call 42; (with_reducible refine (sub_Pair.calls k _ _ t109 _ _ y119 true _ ?side1 ?side2 ?side3 ?side4 A9.out).mono ?_); (case side1 => repeat (first | exact (Kd.R_reads' HO111.out).2.2 | (with_reducible refine Kd.C_alloc ?_ _) | (with_reducible refine Kd.C_drewN ?_ _) | (with_reducible refine Kd.C_drew ?_))); (case side2 => exact (Kd.R_reads' HO111.out).2.1); (case side3 => repeat (first | exact (Kd.R_reads' HO121.out).2.2 | (with_reducible refine Kd.C_alloc ?_ _) | (with_reducible refine Kd.C_drewN ?_ _) | (with_reducible refine Kd.C_drew ?_))); (case side4 => exact (Kd.R_reads' HO121.out).2.1); rintro e w' ⟨rfl, ⟨nd, rfl⟩⟩))
              go_ret
              exact ⟨by first | rfl | (simp [errW_none, errW_some] <;> rfl) | (simp [*, errW_none, errW_some] <;> rfl), by repeat (first | (with_reducible first | exact HB.out | apply below_alloc | apply pw_below_drewN | apply below_drew1 | refine below_set ?_ GE114.out) | exact HB.out)⟩
            · replace c10 := Bool.eq_false_iff.mpr c10
              subst c10
              have H1 : (some false) = some r := by rw [if_neg (show ¬ (false = true) by decide)] at H; exact H
              clear H
              have H := H1
              clear H1
              obtain rfl := Option.some.inj H
              go_enter Try.func16, Try.ntmps16
              go_wp2_with (first | ((with_reducible refine gate_callee (f := 17) rfl ?_); refine goesL_ (some 7) rfl rfl Try.func17 (by kernel_rfl) rfl #[.string (⟨#[109, 97, 107, 101, 32, 45, 67, 32, 100, 32, 88, 61, 49, 32, 97, 108, 108]⟩ : ByteArray)] rfl (by (try simp only [List.map_toArray, List.map_cons, List.map_nil]); first | done | rfl | (simp only [List.length_drop, List.length_take]; rfl)) ?_; (with_reducible refine (parse_Line.calls (⟨#[109, 97, 107, 101, 32, 45, 67, 32, 100, 32, 88, 61, 49, 32, 97, 108, 108]⟩ : ByteArray) t101 t102 _ A1.out).mono ?_); rintro e w25 ⟨v103, rfl, ho0, hb⟩; refine ⟨_, rfl, ?_⟩; have n0_ := Aside0.mk (Kd.S_lower ho0 (below_size (by repeat (first | (with_reducible first | exact HB.out | apply below_alloc | apply pw_below_drewN | apply below_drew1) | exact HB.out)))); have n1_ := Aside0.mk (below_step (by repeat (first | (with_reducible first | exact HB.out | apply below_alloc | apply pw_below_drewN | apply below_drew1) | exact HB.out)) hb); clear HB; have HO104 := n0_; have HB := n1_; clear n0_ n1_; (try clear hb); (try clear hb2); (try clear hk); (try clear hi); (try clear ho0); obtain ⟨Ao26, co26, eo26⟩ := Kd.S_slice HO104.out; subst eo26) | ((with_reducible refine gate_callee (f := 19) rfl ?_); refine goesL_ (some 12) rfl rfl Try.func19 (by kernel_rfl) rfl #[.slice Ao26 t101.length co26, .string (⟨#[109, 97, 107, 101]⟩ : ByteArray)] rfl (by (try simp only [List.map_toArray, List.map_cons, List.map_nil]); first | done | rfl | (simp only [List.length_drop, List.length_take]; rfl)) ?_; (with_reducible refine (sub_Of.calls _ _ t101 (⟨#[109, 97, 107, 101]⟩ : ByteArray) t105 t106 t109 true t113 _ ?side1 ?side2 ?side3 A2.out).mono ?_); (case side1 => first | exact HSH.out | exact Shp.below HSH.out (by repeat (first | (with_reducible first | exact HB.out | apply below_alloc | apply pw_below_drewN | apply below_drew1) | exact HB.out))); (case side2 => repeat (first | exact (Kd.S_reads' HO104.out).2.2 | (with_reducible refine Kd.C_alloc ?_ _) | (with_reducible refine Kd.C_drewN ?_ _) | (with_reducible refine Kd.C_drew ?_))); (case side3 => exact (Kd.S_reads' HO104.out).2.1); rintro e w27 ⟨v107, v110, rfl, ho0, ho1, hb⟩; refine ⟨_, rfl, ?_⟩; have n0_ := Aside0.mk (Kd.S_elder' (by (with_reducible repeat (first | apply Kd.S_alloc | apply Kd.S_drewN | apply Kd.S_drew)); (first | exact HO104.out | (first | refine Kd.R_mono HO104.out (fun _ hk => ?_) | refine Kd.S_mono HO104.out (fun _ hk => ?_) | refine Kd.Q_mono HO104.out (fun _ hk => ?_)); simp only [ownBlock_slice] at hk ⊢; exact hk)) (Kd.R_base ho0) hb); have n1_ := Aside0.mk (Kd.R_lower ho0 (below_size (by repeat (first | (with_reducible first | exact HB.out | apply below_alloc | apply pw_below_drewN | apply below_drew1) | exact HB.out)))); have n2_ := Aside0.mk (Kd.R_lower ho1 (below_size (by repeat (first | (with_reducible first | exact HB.out | apply below_alloc | apply pw_below_drewN | apply below_drew1) | exact HB.out)))); have n3_ := Aside0.mk (below_step (by repeat (first | (with_reducible first | exact HB.out | apply below_alloc | apply pw_below_drewN | apply below_drew1) | exact HB.out)) hb); clear HO104; clear HB; have HO104 := n0_; have HO108 := n1_; have HO111 := n2_; have HB := n3_; clear n0_ n1_ n2_ n3_; (try clear hb); (try clear hb2); (try clear hk); (try clear hi); (try clear ho0); (try clear ho1)) | ((with_reducible refine gate_dst (N := 3) rfl ?_); (try (refine gate_guard (by rfl) ?_; dsimp only)); refine box_event ?hg (N := 3) ?hd (cs := #[.string (⟨#[]⟩ : ByteArray), .slice none 0 0, .slice none 0 0]) (t := 57) ?hr ?_; (case hd => rfl); (case hg => rfl); (case hr => first | (go_simp; done) | (go_simp; rfl)); intro gb114 hg w28 hbox hb; have n0_ := Aside0.mk (Kd.S_below (by (with_reducible repeat (first | apply Kd.S_alloc | apply Kd.S_drewN | apply Kd.S_drew)); (first | exact HO104.out | (first | refine Kd.R_mono HO104.out (fun _ hk => ?_) | refine Kd.S_mono HO104.out (fun _ hk => ?_) | refine Kd.Q_mono HO104.out (fun _ hk => ?_)); simp only [ownBlock_slice] at hk ⊢; exact hk)) hb); have n1_ := Aside0.mk (Kd.R_below (by (with_reducible repeat (first | apply Kd.R_alloc | apply Kd.R_drewN | apply Kd.R_drew)); (first | exact HO108.out | (first | refine Kd.R_mono HO108.out (fun _ hk => ?_) | refine Kd.S_mono HO108.out (fun _ hk => ?_) | refine Kd.Q_mono HO108.out (fun _ hk => ?_)); simp only [ownBlock_slice] at hk ⊢; exact hk)) hb); have n2_ := Aside0.mk (Kd.R_below (by (with_reducible repeat (first | apply Kd.R_alloc | apply Kd.R_drewN | apply Kd.R_drew)); (first | exact HO111.out | (first | refine Kd.R_mono HO111.out (fun _ hk => ?_) | refine Kd.S_mono HO111.out (fun _ hk => ?_) | refine Kd.Q_mono HO111.out (fun _ hk => ?_)); simp only [ownBlock_slice] at hk ⊢; exact hk)) hb); have n3_ := Aside0.mk (below_step (by repeat (first | (with_reducible first | exact HB.out | apply below_alloc | apply pw_below_drewN | apply below_drew1) | exact HB.out)) hb); have n4_ := Aside0.mk (hbox); have n5_ := Aside0.mk ((by rw [hg]; exact (below_size (by repeat (first | (with_reducible first | exact HB.out | apply below_alloc | apply pw_below_drewN | apply below_drew1) | exact HB.out))) : w.heap.size ≤ gb114)); have n6_ := Aside0.mk ((by rw [hg]; exact (below_size (by repeat (first | (with_reducible first | exact HB.out | apply below_alloc | apply pw_below_drewN | apply below_drew1) | exact HB.out))) : w.heap.size ≤ gb114)); clear HO104; clear HO108; clear HO111; clear HB; have HO104 := n0_; have HO108 := n1_; have HO111 := n2_; have HB := n3_; have BK114 := n4_; have GW114 := n5_; have GE114 := n6_; clear n0_ n1_ n2_ n3_ n4_ n5_ n6_; clear hb hbox hg; have hcz29_0 : w28.cell? ⟨gb114, 0, none⟩ = some (.string (⟨#[]⟩ : ByteArray)) := (blk_cell BK114.out 0).trans rfl; have hcz29_1 : w28.cell? ⟨gb114, 1, none⟩ = some (.slice none 0 0) := (blk_cell BK114.out 1).trans rfl; have hcz29_2 : w28.cell? ⟨gb114, 2, none⟩ = some (.slice none 0 0) := (blk_cell BK114.out 2).trans rfl; have hfz29_0 := blk_frozen BK114.out 0; have hfz29_1 := blk_frozen BK114.out 1; have hfz29_2 := blk_frozen BK114.out 2; obtain ⟨Ao30, co30, eo30⟩ := Kd.R_slice HO108.out; subst eo30; obtain ⟨Ao31, co31, eo31⟩ := Kd.R_slice HO111.out; subst eo31) | ((with_reducible refine gate_dst (N := 33) rfl ?_); (try (refine gate_guard (by rfl) ?_; dsimp only)); refine Kd.R_lit Kd.string _ 9 ?hg (N := 33) ?hd (xs := ([(⟨#[97, 108, 108]⟩ : ByteArray)] : List ByteArray)) (inner := [.string (⟨#[97, 108, 108]⟩ : ByteArray)]) (ok := fun _ => True) (okp := fun _ => True) ?hr ?hp (fun _ hk => hk) trivial (Below.refl _ _) (Nat.le_refl _) (by simp) ?_; (case hd => rfl); (case hg => rfl); (case hr => first | (go_simp; done) | (go_simp; rfl)); (case hp => exact (Reps.one (show Kd.M Kd.string _ _ _ (⟨#[97, 108, 108]⟩ : ByteArray) [.string (⟨#[97, 108, 108]⟩ : ByteArray)] from rfl) (Reps.none _ _))); intro v116 w32 ho33 hb hg_ hnew_; clear hg_ hnew_; (first | rw [← Ny115.out] at ho33 | (simp only [Int.reduceToNat] at ho33; rw [← Ny115.out] at ho33)); have n0_ := Aside0.mk (Kd.S_elder' (by (with_reducible repeat (first | apply Kd.S_alloc | apply Kd.S_drewN | apply Kd.S_drew)); exact (Kd.S_mono (Kd.S_far (p := ⟨gb114, 2, none⟩) (Kd.S_far (p := ⟨gb114, 1, none⟩) (Kd.S_far (p := ⟨gb114, 0, none⟩) (Kd.S_types HO104.out BK114.out (by decide)) (fun _ hk => hk.2) (.string t105)) (fun _ hk => hk.2) (.slice Ao30 t106.length co30)) (fun _ hk => hk.2) (.slice Ao31 t109.length co31)) (fun _ h_ => h_.1))) (Kd.R_base ho33) hb); have n1_ := Aside0.mk (Kd.R_elder' (by (with_reducible repeat (first | apply Kd.R_alloc | apply Kd.R_drewN | apply Kd.R_drew)); exact (Kd.R_mono (Kd.R_far (p := ⟨gb114, 2, none⟩) (Kd.R_far (p := ⟨gb114, 1, none⟩) (Kd.R_far (p := ⟨gb114, 0, none⟩) (Kd.R_types HO108.out BK114.out (by decide)) (fun _ hk => hk.2) (.string t105)) (fun _ hk => hk.2) (.slice Ao30 t106.length co30)) (fun _ hk => hk.2) (.slice Ao31 t109.length co31)) (fun _ h_ => h_.1))) (Kd.R_base ho33) hb); have n2_ := Aside0.mk (Kd.R_below (by (with_reducible repeat (first | apply Kd.R_alloc | apply Kd.R_drewN | apply Kd.R_drew)); exact (Kd.R_mono (Kd.R_far (p := ⟨gb114, 2, none⟩) (Kd.R_far (p := ⟨gb114, 1, none⟩) (Kd.R_far (p := ⟨gb114, 0, none⟩) (Kd.R_types HO111.out BK114.out (by decide)) (fun _ hk => hk.2) (.string t105)) (fun _ hk => hk.2) (.slice Ao30 t106.length co30)) (fun _ hk => hk.2) (.slice Ao31 t109.length co31)) (fun _ h_ => h_.1))) hb); have n3_ := Aside0.mk (Kd.R_lower (Kd.R_new' ho33 (Kd.R_lt (by (with_reducible repeat (first | apply Kd.R_alloc | apply Kd.R_drewN | apply Kd.R_drew)); exact (Kd.R_mono (Kd.R_far (p := ⟨gb114, 2, none⟩) (Kd.R_far (p := ⟨gb114, 1, none⟩) (Kd.R_far (p := ⟨gb114, 0, none⟩) (Kd.R_types HO108.out BK114.out (by decide)) (fun _ hk => hk.2) (.string t105)) (fun _ hk => hk.2) (.slice Ao30 t106.length co30)) (fun _ hk => hk.2) (.slice Ao31 t109.length co31)) (fun _ h_ => h_.1))))) (below_size (by repeat (first | (with_reducible first | exact HB.out | apply below_alloc | apply pw_below_drewN | apply below_drew1 | refine below_set ?_ GE114.out) | exact HB.out)))); have n4_ := Aside0.mk (blk_below (g := gb114) (o := .cells #[.string t105, .slice Ao30 t106.length co30, .slice Ao31 t109.length co31] 57 (0, 0)) (by (with_reducible repeat (first | refine blk_drewN ?_ _ | refine blk_drew ?_ | refine blk_alloc ?_ _)); refine blk_put (cs := #[.string t105, .slice Ao30 t106.length co30, .slice none 0 0]) ?_ 2 _ rfl; (with_reducible repeat (first | refine blk_drewN ?_ _ | refine blk_drew ?_ | refine blk_alloc ?_ _)); refine blk_put (cs := #[.string t105, .slice none 0 0, .slice none 0 0]) ?_ 1 _ rfl; (with_reducible repeat (first | refine blk_drewN ?_ _ | refine blk_drew ?_ | refine blk_alloc ?_ _)); refine blk_put (cs := #[.string (⟨#[]⟩ : ByteArray), .slice none 0 0, .slice none 0 0]) ?_ 0 _ rfl; (with_reducible repeat (first | refine blk_drewN ?_ _ | refine blk_drew ?_ | refine blk_alloc ?_ _)); exact BK114.out) hb); have n5_ := Aside0.mk (below_step (by repeat (first | (with_reducible first | exact HB.out | apply below_alloc | apply pw_below_drewN | apply below_drew1 | refine below_set ?_ GE114.out) | exact HB.out)) hb); clear HO104; clear HO108; clear HO111; clear BK114; clear HB; have HO104 := n0_; have HO108 := n1_; have HO111 := n2_; have HO117 := n3_; have BK114 := n4_; have HB := n5_; clear n0_ n1_ n2_ n3_ n4_ n5_; clear hb ho33; obtain ⟨Ao34, co34, eo34⟩ := Kd.R_slice HO117.out; subst eo34) | (go_at_call 14; (with_reducible refine (slices_Equal_string_string.calls k _ _ t106 _ _ y115 true _ ?side1 ?side2 ?side3 ?side4 A7.out).mono ?_); (case side1 => repeat (first | exact (Kd.R_reads' HO108.out).2.2 | (with_reducible refine Kd.C_alloc ?_ _) | (with_reducible refine Kd.C_drewN ?_ _) | (with_reducible refine Kd.C_drew ?_))); (case side2 => exact (Kd.R_reads' HO108.out).2.1); (case side3 => repeat (first | exact (Kd.R_reads' HO117.out).2.2 | (with_reducible refine Kd.C_alloc ?_ _) | (with_reducible refine Kd.C_drewN ?_ _) | (with_reducible refine Kd.C_drew ?_))); (case side4 => exact (Kd.R_reads' HO117.out).2.1); rintro e w' ⟨rfl, ⟨nd, rfl⟩⟩; have hcz35_0 : w32.cell? ⟨gb114, 0, none⟩ = some (.string t105) := (blk_cell BK114.out 0).trans rfl; have hcz35_1 : w32.cell? ⟨gb114, 1, none⟩ = some (.slice Ao30 t106.length co30) := (blk_cell BK114.out 1).trans rfl; have hcz35_2 : w32.cell? ⟨gb114, 2, none⟩ = some (.slice Ao31 t109.length co31) := (blk_cell BK114.out 2).trans rfl; have hfz35_0 := blk_frozen BK114.out 0; have hfz35_1 := blk_frozen BK114.out 1; have hfz35_2 := blk_frozen BK114.out 2) | ((with_reducible refine gate_dst (N := 40) rfl ?_); (try (refine gate_guard (by rfl) ?_; dsimp only)); refine Kd.R_lit k98 _ 98 ?hg (N := 40) ?hd (xs := ([(⟨(⟨#[88]⟩ : ByteArray), (⟨#[49]⟩ : ByteArray)⟩ : S98)] : List (S98))) (inner := [.string (⟨#[88]⟩ : ByteArray), .string (⟨#[49]⟩ : ByteArray)]) (ok := fun _ => True) (okp := fun _ => True) ?hr ?hp (fun _ hk => hk) trivial (Below.refl _ _) (Nat.le_refl _) (by simp) ?_; (case hd => rfl); (case hg => rfl); (case hr => first | (go_simp; done) | (go_simp; rfl)); (case hp => exact (Reps.c2 (show Kd.M k98 _ _ _ (⟨(⟨#[88]⟩ : ByteArray), (⟨#[49]⟩ : ByteArray)⟩ : S98) [.string (⟨#[88]⟩ : ByteArray), .string (⟨#[49]⟩ : ByteArray)] from (k98_mkM _ _ _ (⟨(⟨#[88]⟩ : ByteArray), (⟨#[49]⟩ : ByteArray)⟩ : S98) )) (Reps.none _ _))); intro v120 w36 ho37 hb hg_ hnew_; clear hg_ hnew_; (first | rw [← Ny119.out] at ho37 | (simp only [Int.reduceToNat] at ho37; rw [← Ny119.out] at ho37)); have n0_ := Aside0.mk (Kd.S_below (by (with_reducible repeat (first | apply Kd.S_alloc | apply Kd.S_drewN | apply Kd.S_drew)); (first | exact HO104.out | (first | refine Kd.R_mono HO104.out (fun _ hk => ?_) | refine Kd.S_mono HO104.out (fun _ hk => ?_) | refine Kd.Q_mono HO104.out (fun _ hk => ?_)); simp only [ownBlock_slice] at hk ⊢; exact hk)) hb); have n1_ := Aside0.mk (Kd.R_below (by (with_reducible repeat (first | apply Kd.R_alloc | apply Kd.R_drewN | apply Kd.R_drew)); (first | exact HO108.out | (first | refine Kd.R_mono HO108.out (fun _ hk => ?_) | refine Kd.S_mono HO108.out (fun _ hk => ?_) | refine Kd.Q_mono HO108.out (fun _ hk => ?_)); simp only [ownBlock_slice] at hk ⊢; exact hk)) hb); have n2_ := Aside0.mk (Kd.R_elder' (by (with_reducible repeat (first | apply Kd.R_alloc | apply Kd.R_drewN | apply Kd.R_drew)); (first | exact HO111.out | (first | refine Kd.R_mono HO111.out (fun _ hk => ?_) | refine Kd.S_mono HO111.out (fun _ hk => ?_) | refine Kd.Q_mono HO111.out (fun _ hk => ?_)); simp only [ownBlock_slice] at hk ⊢; exact hk)) (Kd.R_base ho37) hb); have n3_ := Aside0.mk (Kd.R_below (by (with_reducible repeat (first | apply Kd.R_alloc | apply Kd.R_drewN | apply Kd.R_drew)); (first | exact HO117.out | (first | refine Kd.R_mono HO117.out (fun _ hk => ?_) | refine Kd.S_mono HO117.out (fun _ hk => ?_) | refine Kd.Q_mono HO117.out (fun _ hk => ?_)); simp only [ownBlock_slice] at hk ⊢; exact hk)) hb); have n4_ := Aside0.mk (Kd.R_lower (Kd.R_new' ho37 (Kd.R_lt (by (with_reducible repeat (first | apply Kd.R_alloc | apply Kd.R_drewN | apply Kd.R_drew)); (first | exact HO111.out | (first | refine Kd.R_mono HO111.out (fun _ hk => ?_) | refine Kd.S_mono HO111.out (fun _ hk => ?_) | refine Kd.Q_mono HO111.out (fun _ hk => ?_)); simp only [ownBlock_slice] at hk ⊢; exact hk)))) (below_size (by repeat (first | (with_reducible first | exact HB.out | apply below_alloc | apply pw_below_drewN | apply below_drew1 | refine below_set ?_ GE114.out) | exact HB.out)))); have n5_ := Aside0.mk (blk_below (g := gb114) (o := .cells #[.string t105, .slice Ao30 t106.length co30, .slice Ao31 t109.length co31] 57 (0, 0)) (by (with_reducible repeat (first | refine blk_drewN ?_ _ | refine blk_drew ?_ | refine blk_alloc ?_ _)); exact BK114.out) hb); have n6_ := Aside0.mk (below_step (by repeat (first | (with_reducible first | exact HB.out | apply below_alloc | apply pw_below_drewN | apply below_drew1 | refine below_set ?_ GE114.out) | exact HB.out)) hb); clear HO104; clear HO108; clear HO111; clear HO117; clear BK114; clear HB; have HO104 := n0_; have HO108 := n1_; have HO111 := n2_; have HO117 := n3_; have HO121 := n4_; have BK114 := n5_; have HB := n6_; clear n0_ n1_ n2_ n3_ n4_ n5_ n6_; clear hb ho37; obtain ⟨Ao38, co38, eo38⟩ := Kd.R_slice HO121.out; subst eo38) | (go_at_call 42; (with_reducible refine (sub_Pair.calls k _ _ t109 _ _ y119 false _ ?side1 ?side2 ?side3 ?side4 A9.out).mono ?_); (case side1 => repeat (first | exact (Kd.R_reads' HO111.out).2.2 | (with_reducible refine Kd.C_alloc ?_ _) | (with_reducible refine Kd.C_drewN ?_ _) | (with_reducible refine Kd.C_drew ?_))); (case side2 => exact (Kd.R_reads' HO111.out).2.1); (case side3 => repeat (first | exact (Kd.R_reads' HO121.out).2.2 | (with_reducible refine Kd.C_alloc ?_ _) | (with_reducible refine Kd.C_drewN ?_ _) | (with_reducible refine Kd.C_drew ?_))); (case side4 => exact (Kd.R_reads' HO121.out).2.1); rintro e w' ⟨rfl, ⟨nd, rfl⟩⟩))
              go_ret
              exact ⟨by first | rfl | (simp [errW_none, errW_some] <;> rfl) | (simp [*, errW_none, errW_some] <;> rfl), by repeat (first | (with_reducible first | exact HB.out | apply below_alloc | apply pw_below_drewN | apply below_drew1 | refine below_set ?_ GE114.out) | exact HB.out)⟩
          · replace c8 := Bool.eq_false_iff.mpr c8
            subst c8
            have H1 : (some false) = some r := by rw [if_neg (show ¬ (false = true) by decide)] at H; exact H
            clear H
            have H := H1
            clear H1
            obtain rfl := Option.some.inj H
            go_enter Try.func16, Try.ntmps16
            go_wp2_with (first | ((with_reducible refine gate_callee (f := 17) rfl ?_); refine goesL_ (some 7) rfl rfl Try.func17 (by kernel_rfl) rfl #[.string (⟨#[109, 97, 107, 101, 32, 45, 67, 32, 100, 32, 88, 61, 49, 32, 97, 108, 108]⟩ : ByteArray)] rfl (by (try simp only [List.map_toArray, List.map_cons, List.map_nil]); first | done | rfl | (simp only [List.length_drop, List.length_take]; rfl)) ?_; (with_reducible refine (parse_Line.calls (⟨#[109, 97, 107, 101, 32, 45, 67, 32, 100, 32, 88, 61, 49, 32, 97, 108, 108]⟩ : ByteArray) t101 t102 _ A1.out).mono ?_); rintro e w39 ⟨v103, rfl, ho0, hb⟩; refine ⟨_, rfl, ?_⟩; have n0_ := Aside0.mk (Kd.S_lower ho0 (below_size (by repeat (first | (with_reducible first | exact HB.out | apply below_alloc | apply pw_below_drewN | apply below_drew1) | exact HB.out)))); have n1_ := Aside0.mk (below_step (by repeat (first | (with_reducible first | exact HB.out | apply below_alloc | apply pw_below_drewN | apply below_drew1) | exact HB.out)) hb); clear HB; have HO104 := n0_; have HB := n1_; clear n0_ n1_; (try clear hb); (try clear hb2); (try clear hk); (try clear hi); (try clear ho0); obtain ⟨Ao40, co40, eo40⟩ := Kd.S_slice HO104.out; subst eo40) | ((with_reducible refine gate_callee (f := 19) rfl ?_); refine goesL_ (some 12) rfl rfl Try.func19 (by kernel_rfl) rfl #[.slice Ao40 t101.length co40, .string (⟨#[109, 97, 107, 101]⟩ : ByteArray)] rfl (by (try simp only [List.map_toArray, List.map_cons, List.map_nil]); first | done | rfl | (simp only [List.length_drop, List.length_take]; rfl)) ?_; (with_reducible refine (sub_Of.calls _ _ t101 (⟨#[109, 97, 107, 101]⟩ : ByteArray) t105 t106 t109 true t113 _ ?side1 ?side2 ?side3 A2.out).mono ?_); (case side1 => first | exact HSH.out | exact Shp.below HSH.out (by repeat (first | (with_reducible first | exact HB.out | apply below_alloc | apply pw_below_drewN | apply below_drew1) | exact HB.out))); (case side2 => repeat (first | exact (Kd.S_reads' HO104.out).2.2 | (with_reducible refine Kd.C_alloc ?_ _) | (with_reducible refine Kd.C_drewN ?_ _) | (with_reducible refine Kd.C_drew ?_))); (case side3 => exact (Kd.S_reads' HO104.out).2.1); rintro e w41 ⟨v107, v110, rfl, ho0, ho1, hb⟩; refine ⟨_, rfl, ?_⟩; have n0_ := Aside0.mk (Kd.S_elder' (by (with_reducible repeat (first | apply Kd.S_alloc | apply Kd.S_drewN | apply Kd.S_drew)); (first | exact HO104.out | (first | refine Kd.R_mono HO104.out (fun _ hk => ?_) | refine Kd.S_mono HO104.out (fun _ hk => ?_) | refine Kd.Q_mono HO104.out (fun _ hk => ?_)); simp only [ownBlock_slice] at hk ⊢; exact hk)) (Kd.R_base ho0) hb); have n1_ := Aside0.mk (Kd.R_lower ho0 (below_size (by repeat (first | (with_reducible first | exact HB.out | apply below_alloc | apply pw_below_drewN | apply below_drew1) | exact HB.out)))); have n2_ := Aside0.mk (Kd.R_lower ho1 (below_size (by repeat (first | (with_reducible first | exact HB.out | apply below_alloc | apply pw_below_drewN | apply below_drew1) | exact HB.out)))); have n3_ := Aside0.mk (below_step (by repeat (first | (with_reducible first | exact HB.out | apply below_alloc | apply pw_below_drewN | apply below_drew1) | exact HB.out)) hb); clear HO104; clear HB; have HO104 := n0_; have HO108 := n1_; have HO111 := n2_; have HB := n3_; clear n0_ n1_ n2_ n3_; (try clear hb); (try clear hb2); (try clear hk); (try clear hi); (try clear ho0); (try clear ho1)) | ((with_reducible refine gate_dst (N := 3) rfl ?_); (try (refine gate_guard (by rfl) ?_; dsimp only)); refine box_event ?hg (N := 3) ?hd (cs := #[.string (⟨#[]⟩ : ByteArray), .slice none 0 0, .slice none 0 0]) (t := 57) ?hr ?_; (case hd => rfl); (case hg => rfl); (case hr => first | (go_simp; done) | (go_simp; rfl)); intro gb114 hg w42 hbox hb; have n0_ := Aside0.mk (Kd.S_below (by (with_reducible repeat (first | apply Kd.S_alloc | apply Kd.S_drewN | apply Kd.S_drew)); (first | exact HO104.out | (first | refine Kd.R_mono HO104.out (fun _ hk => ?_) | refine Kd.S_mono HO104.out (fun _ hk => ?_) | refine Kd.Q_mono HO104.out (fun _ hk => ?_)); simp only [ownBlock_slice] at hk ⊢; exact hk)) hb); have n1_ := Aside0.mk (Kd.R_below (by (with_reducible repeat (first | apply Kd.R_alloc | apply Kd.R_drewN | apply Kd.R_drew)); (first | exact HO108.out | (first | refine Kd.R_mono HO108.out (fun _ hk => ?_) | refine Kd.S_mono HO108.out (fun _ hk => ?_) | refine Kd.Q_mono HO108.out (fun _ hk => ?_)); simp only [ownBlock_slice] at hk ⊢; exact hk)) hb); have n2_ := Aside0.mk (Kd.R_below (by (with_reducible repeat (first | apply Kd.R_alloc | apply Kd.R_drewN | apply Kd.R_drew)); (first | exact HO111.out | (first | refine Kd.R_mono HO111.out (fun _ hk => ?_) | refine Kd.S_mono HO111.out (fun _ hk => ?_) | refine Kd.Q_mono HO111.out (fun _ hk => ?_)); simp only [ownBlock_slice] at hk ⊢; exact hk)) hb); have n3_ := Aside0.mk (below_step (by repeat (first | (with_reducible first | exact HB.out | apply below_alloc | apply pw_below_drewN | apply below_drew1) | exact HB.out)) hb); have n4_ := Aside0.mk (hbox); have n5_ := Aside0.mk ((by rw [hg]; exact (below_size (by repeat (first | (with_reducible first | exact HB.out | apply below_alloc | apply pw_below_drewN | apply below_drew1) | exact HB.out))) : w.heap.size ≤ gb114)); have n6_ := Aside0.mk ((by rw [hg]; exact (below_size (by repeat (first | (with_reducible first | exact HB.out | apply below_alloc | apply pw_below_drewN | apply below_drew1) | exact HB.out))) : w.heap.size ≤ gb114)); clear HO104; clear HO108; clear HO111; clear HB; have HO104 := n0_; have HO108 := n1_; have HO111 := n2_; have HB := n3_; have BK114 := n4_; have GW114 := n5_; have GE114 := n6_; clear n0_ n1_ n2_ n3_ n4_ n5_ n6_; clear hb hbox hg; have hcz43_0 : w42.cell? ⟨gb114, 0, none⟩ = some (.string (⟨#[]⟩ : ByteArray)) := (blk_cell BK114.out 0).trans rfl; have hcz43_1 : w42.cell? ⟨gb114, 1, none⟩ = some (.slice none 0 0) := (blk_cell BK114.out 1).trans rfl; have hcz43_2 : w42.cell? ⟨gb114, 2, none⟩ = some (.slice none 0 0) := (blk_cell BK114.out 2).trans rfl; have hfz43_0 := blk_frozen BK114.out 0; have hfz43_1 := blk_frozen BK114.out 1; have hfz43_2 := blk_frozen BK114.out 2; obtain ⟨Ao44, co44, eo44⟩ := Kd.R_slice HO108.out; subst eo44; obtain ⟨Ao45, co45, eo45⟩ := Kd.R_slice HO111.out; subst eo45) | ((with_reducible refine gate_dst (N := 33) rfl ?_); (try (refine gate_guard (by rfl) ?_; dsimp only)); refine Kd.R_lit Kd.string _ 9 ?hg (N := 33) ?hd (xs := ([(⟨#[97, 108, 108]⟩ : ByteArray)] : List ByteArray)) (inner := [.string (⟨#[97, 108, 108]⟩ : ByteArray)]) (ok := fun _ => True) (okp := fun _ => True) ?hr ?hp (fun _ hk => hk) trivial (Below.refl _ _) (Nat.le_refl _) (by simp) ?_; (case hd => rfl); (case hg => rfl); (case hr => first | (go_simp; done) | (go_simp; rfl)); (case hp => exact (Reps.one (show Kd.M Kd.string _ _ _ (⟨#[97, 108, 108]⟩ : ByteArray) [.string (⟨#[97, 108, 108]⟩ : ByteArray)] from rfl) (Reps.none _ _))); intro v116 w46 ho47 hb hg_ hnew_; clear hg_ hnew_; (first | rw [← Ny115.out] at ho47 | (simp only [Int.reduceToNat] at ho47; rw [← Ny115.out] at ho47)); have n0_ := Aside0.mk (Kd.S_elder' (by (with_reducible repeat (first | apply Kd.S_alloc | apply Kd.S_drewN | apply Kd.S_drew)); exact (Kd.S_mono (Kd.S_far (p := ⟨gb114, 2, none⟩) (Kd.S_far (p := ⟨gb114, 1, none⟩) (Kd.S_far (p := ⟨gb114, 0, none⟩) (Kd.S_types HO104.out BK114.out (by decide)) (fun _ hk => hk.2) (.string t105)) (fun _ hk => hk.2) (.slice Ao44 t106.length co44)) (fun _ hk => hk.2) (.slice Ao45 t109.length co45)) (fun _ h_ => h_.1))) (Kd.R_base ho47) hb); have n1_ := Aside0.mk (Kd.R_elder' (by (with_reducible repeat (first | apply Kd.R_alloc | apply Kd.R_drewN | apply Kd.R_drew)); exact (Kd.R_mono (Kd.R_far (p := ⟨gb114, 2, none⟩) (Kd.R_far (p := ⟨gb114, 1, none⟩) (Kd.R_far (p := ⟨gb114, 0, none⟩) (Kd.R_types HO108.out BK114.out (by decide)) (fun _ hk => hk.2) (.string t105)) (fun _ hk => hk.2) (.slice Ao44 t106.length co44)) (fun _ hk => hk.2) (.slice Ao45 t109.length co45)) (fun _ h_ => h_.1))) (Kd.R_base ho47) hb); have n2_ := Aside0.mk (Kd.R_below (by (with_reducible repeat (first | apply Kd.R_alloc | apply Kd.R_drewN | apply Kd.R_drew)); exact (Kd.R_mono (Kd.R_far (p := ⟨gb114, 2, none⟩) (Kd.R_far (p := ⟨gb114, 1, none⟩) (Kd.R_far (p := ⟨gb114, 0, none⟩) (Kd.R_types HO111.out BK114.out (by decide)) (fun _ hk => hk.2) (.string t105)) (fun _ hk => hk.2) (.slice Ao44 t106.length co44)) (fun _ hk => hk.2) (.slice Ao45 t109.length co45)) (fun _ h_ => h_.1))) hb); have n3_ := Aside0.mk (Kd.R_lower (Kd.R_new' ho47 (Kd.R_lt (by (with_reducible repeat (first | apply Kd.R_alloc | apply Kd.R_drewN | apply Kd.R_drew)); exact (Kd.R_mono (Kd.R_far (p := ⟨gb114, 2, none⟩) (Kd.R_far (p := ⟨gb114, 1, none⟩) (Kd.R_far (p := ⟨gb114, 0, none⟩) (Kd.R_types HO108.out BK114.out (by decide)) (fun _ hk => hk.2) (.string t105)) (fun _ hk => hk.2) (.slice Ao44 t106.length co44)) (fun _ hk => hk.2) (.slice Ao45 t109.length co45)) (fun _ h_ => h_.1))))) (below_size (by repeat (first | (with_reducible first | exact HB.out | apply below_alloc | apply pw_below_drewN | apply below_drew1 | refine below_set ?_ GE114.out) | exact HB.out)))); have n4_ := Aside0.mk (blk_below (g := gb114) (o := .cells #[.string t105, .slice Ao44 t106.length co44, .slice Ao45 t109.length co45] 57 (0, 0)) (by (with_reducible repeat (first | refine blk_drewN ?_ _ | refine blk_drew ?_ | refine blk_alloc ?_ _)); refine blk_put (cs := #[.string t105, .slice Ao44 t106.length co44, .slice none 0 0]) ?_ 2 _ rfl; (with_reducible repeat (first | refine blk_drewN ?_ _ | refine blk_drew ?_ | refine blk_alloc ?_ _)); refine blk_put (cs := #[.string t105, .slice none 0 0, .slice none 0 0]) ?_ 1 _ rfl; (with_reducible repeat (first | refine blk_drewN ?_ _ | refine blk_drew ?_ | refine blk_alloc ?_ _)); refine blk_put (cs := #[.string (⟨#[]⟩ : ByteArray), .slice none 0 0, .slice none 0 0]) ?_ 0 _ rfl; (with_reducible repeat (first | refine blk_drewN ?_ _ | refine blk_drew ?_ | refine blk_alloc ?_ _)); exact BK114.out) hb); have n5_ := Aside0.mk (below_step (by repeat (first | (with_reducible first | exact HB.out | apply below_alloc | apply pw_below_drewN | apply below_drew1 | refine below_set ?_ GE114.out) | exact HB.out)) hb); clear HO104; clear HO108; clear HO111; clear BK114; clear HB; have HO104 := n0_; have HO108 := n1_; have HO111 := n2_; have HO117 := n3_; have BK114 := n4_; have HB := n5_; clear n0_ n1_ n2_ n3_ n4_ n5_; clear hb ho47; obtain ⟨Ao48, co48, eo48⟩ := Kd.R_slice HO117.out; subst eo48) | (go_at_call 14; (with_reducible refine (slices_Equal_string_string.calls k _ _ t106 _ _ y115 false _ ?side1 ?side2 ?side3 ?side4 A7.out).mono ?_); (case side1 => repeat (first | exact (Kd.R_reads' HO108.out).2.2 | (with_reducible refine Kd.C_alloc ?_ _) | (with_reducible refine Kd.C_drewN ?_ _) | (with_reducible refine Kd.C_drew ?_))); (case side2 => exact (Kd.R_reads' HO108.out).2.1); (case side3 => repeat (first | exact (Kd.R_reads' HO117.out).2.2 | (with_reducible refine Kd.C_alloc ?_ _) | (with_reducible refine Kd.C_drewN ?_ _) | (with_reducible refine Kd.C_drew ?_))); (case side4 => exact (Kd.R_reads' HO117.out).2.1); rintro e w' ⟨rfl, ⟨nd, rfl⟩⟩))
            go_ret
            exact ⟨by first | rfl | (simp [errW_none, errW_some] <;> rfl) | (simp [*, errW_none, errW_some] <;> rfl), by repeat (first | (with_reducible first | exact HB.out | apply below_alloc | apply pw_below_drewN | apply below_drew1 | refine below_set ?_ GE114.out) | exact HB.out)⟩
        · rw [if_neg c6] at H
          have c6b0 : (t105.toList == ([46, 47, 100] : List UInt8)) = false := beq_eq_false_iff_ne.mpr c6
          have c6b1 : (t105.toList != ([46, 47, 100] : List UInt8)) = true := bne_iff_ne.mpr c6
          obtain rfl := Option.some.inj H
          go_enter Try.func16, Try.ntmps16
          go_wp2_with (first | ((with_reducible refine gate_callee (f := 17) rfl ?_); refine goesL_ (some 7) rfl rfl Try.func17 (by kernel_rfl) rfl #[.string (⟨#[109, 97, 107, 101, 32, 45, 67, 32, 100, 32, 88, 61, 49, 32, 97, 108, 108]⟩ : ByteArray)] rfl (by (try simp only [List.map_toArray, List.map_cons, List.map_nil]); first | done | rfl | (simp only [List.length_drop, List.length_take]; rfl)) ?_; (with_reducible refine (parse_Line.calls (⟨#[109, 97, 107, 101, 32, 45, 67, 32, 100, 32, 88, 61, 49, 32, 97, 108, 108]⟩ : ByteArray) t101 t102 _ A1.out).mono ?_); rintro e w49 ⟨v103, rfl, ho0, hb⟩; refine ⟨_, rfl, ?_⟩; have n0_ := Aside0.mk (Kd.S_lower ho0 (below_size (by repeat (first | (with_reducible first | exact HB.out | apply below_alloc | apply pw_below_drewN | apply below_drew1) | exact HB.out)))); have n1_ := Aside0.mk (below_step (by repeat (first | (with_reducible first | exact HB.out | apply below_alloc | apply pw_below_drewN | apply below_drew1) | exact HB.out)) hb); clear HB; have HO104 := n0_; have HB := n1_; clear n0_ n1_; (try clear hb); (try clear hb2); (try clear hk); (try clear hi); (try clear ho0); obtain ⟨Ao50, co50, eo50⟩ := Kd.S_slice HO104.out; subst eo50) | ((with_reducible refine gate_callee (f := 19) rfl ?_); refine goesL_ (some 12) rfl rfl Try.func19 (by kernel_rfl) rfl #[.slice Ao50 t101.length co50, .string (⟨#[109, 97, 107, 101]⟩ : ByteArray)] rfl (by (try simp only [List.map_toArray, List.map_cons, List.map_nil]); first | done | rfl | (simp only [List.length_drop, List.length_take]; rfl)) ?_; (with_reducible refine (sub_Of.calls _ _ t101 (⟨#[109, 97, 107, 101]⟩ : ByteArray) t105 t106 t109 true t113 _ ?side1 ?side2 ?side3 A2.out).mono ?_); (case side1 => first | exact HSH.out | exact Shp.below HSH.out (by repeat (first | (with_reducible first | exact HB.out | apply below_alloc | apply pw_below_drewN | apply below_drew1) | exact HB.out))); (case side2 => repeat (first | exact (Kd.S_reads' HO104.out).2.2 | (with_reducible refine Kd.C_alloc ?_ _) | (with_reducible refine Kd.C_drewN ?_ _) | (with_reducible refine Kd.C_drew ?_))); (case side3 => exact (Kd.S_reads' HO104.out).2.1); rintro e w51 ⟨v107, v110, rfl, ho0, ho1, hb⟩; refine ⟨_, rfl, ?_⟩; have n0_ := Aside0.mk (Kd.S_elder' (by (with_reducible repeat (first | apply Kd.S_alloc | apply Kd.S_drewN | apply Kd.S_drew)); (first | exact HO104.out | (first | refine Kd.R_mono HO104.out (fun _ hk => ?_) | refine Kd.S_mono HO104.out (fun _ hk => ?_) | refine Kd.Q_mono HO104.out (fun _ hk => ?_)); simp only [ownBlock_slice] at hk ⊢; exact hk)) (Kd.R_base ho0) hb); have n1_ := Aside0.mk (Kd.R_lower ho0 (below_size (by repeat (first | (with_reducible first | exact HB.out | apply below_alloc | apply pw_below_drewN | apply below_drew1) | exact HB.out)))); have n2_ := Aside0.mk (Kd.R_lower ho1 (below_size (by repeat (first | (with_reducible first | exact HB.out | apply below_alloc | apply pw_below_drewN | apply below_drew1) | exact HB.out)))); have n3_ := Aside0.mk (below_step (by repeat (first | (with_reducible first | exact HB.out | apply below_alloc | apply pw_below_drewN | apply below_drew1) | exact HB.out)) hb); clear HO104; clear HB; have HO104 := n0_; have HO108 := n1_; have HO111 := n2_; have HB := n3_; clear n0_ n1_ n2_ n3_; (try clear hb); (try clear hb2); (try clear hk); (try clear hi); (try clear ho0); (try clear ho1)) | ((with_reducible refine gate_dst (N := 3) rfl ?_); (try (refine gate_guard (by rfl) ?_; dsimp only)); refine box_event ?hg (N := 3) ?hd (cs := #[.string (⟨#[]⟩ : ByteArray), .slice none 0 0, .slice none 0 0]) (t := 57) ?hr ?_; (case hd => rfl); (case hg => rfl); (case hr => first | (go_simp; done) | (go_simp; rfl)); intro gb114 hg w52 hbox hb; have n0_ := Aside0.mk (Kd.S_below (by (with_reducible repeat (first | apply Kd.S_alloc | apply Kd.S_drewN | apply Kd.S_drew)); (first | exact HO104.out | (first | refine Kd.R_mono HO104.out (fun _ hk => ?_) | refine Kd.S_mono HO104.out (fun _ hk => ?_) | refine Kd.Q_mono HO104.out (fun _ hk => ?_)); simp only [ownBlock_slice] at hk ⊢; exact hk)) hb); have n1_ := Aside0.mk (Kd.R_below (by (with_reducible repeat (first | apply Kd.R_alloc | apply Kd.R_drewN | apply Kd.R_drew)); (first | exact HO108.out | (first | refine Kd.R_mono HO108.out (fun _ hk => ?_) | refine Kd.S_mono HO108.out (fun _ hk => ?_) | refine Kd.Q_mono HO108.out (fun _ hk => ?_)); simp only [ownBlock_slice] at hk ⊢; exact hk)) hb); have n2_ := Aside0.mk (Kd.R_below (by (with_reducible repeat (first | apply Kd.R_alloc | apply Kd.R_drewN | apply Kd.R_drew)); (first | exact HO111.out | (first | refine Kd.R_mono HO111.out (fun _ hk => ?_) | refine Kd.S_mono HO111.out (fun _ hk => ?_) | refine Kd.Q_mono HO111.out (fun _ hk => ?_)); simp only [ownBlock_slice] at hk ⊢; exact hk)) hb); have n3_ := Aside0.mk (below_step (by repeat (first | (with_reducible first | exact HB.out | apply below_alloc | apply pw_below_drewN | apply below_drew1) | exact HB.out)) hb); have n4_ := Aside0.mk (hbox); have n5_ := Aside0.mk ((by rw [hg]; exact (below_size (by repeat (first | (with_reducible first | exact HB.out | apply below_alloc | apply pw_below_drewN | apply below_drew1) | exact HB.out))) : w.heap.size ≤ gb114)); have n6_ := Aside0.mk ((by rw [hg]; exact (below_size (by repeat (first | (with_reducible first | exact HB.out | apply below_alloc | apply pw_below_drewN | apply below_drew1) | exact HB.out))) : w.heap.size ≤ gb114)); clear HO104; clear HO108; clear HO111; clear HB; have HO104 := n0_; have HO108 := n1_; have HO111 := n2_; have HB := n3_; have BK114 := n4_; have GW114 := n5_; have GE114 := n6_; clear n0_ n1_ n2_ n3_ n4_ n5_ n6_; clear hb hbox hg; have hcz53_0 : w52.cell? ⟨gb114, 0, none⟩ = some (.string (⟨#[]⟩ : ByteArray)) := (blk_cell BK114.out 0).trans rfl; have hcz53_1 : w52.cell? ⟨gb114, 1, none⟩ = some (.slice none 0 0) := (blk_cell BK114.out 1).trans rfl; have hcz53_2 : w52.cell? ⟨gb114, 2, none⟩ = some (.slice none 0 0) := (blk_cell BK114.out 2).trans rfl; have hfz53_0 := blk_frozen BK114.out 0; have hfz53_1 := blk_frozen BK114.out 1; have hfz53_2 := blk_frozen BK114.out 2; obtain ⟨Ao54, co54, eo54⟩ := Kd.R_slice HO108.out; subst eo54; obtain ⟨Ao55, co55, eo55⟩ := Kd.R_slice HO111.out; subst eo55))
          go_ret
          exact ⟨by first | rfl | (simp [errW_none, errW_some] <;> rfl) | (simp [*, errW_none, errW_some] <;> rfl), by repeat (first | (with_reducible first | exact HB.out | apply below_alloc | apply pw_below_drewN | apply below_drew1 | refine below_set ?_ GE114.out) | exact HB.out)⟩
      · rw [if_neg c5] at H
        have c5b0 : (t113 == 0) = false := beq_eq_false_iff_ne.mpr c5
        have c5b1 : (t113 != 0) = true := bne_iff_ne.mpr c5
        obtain rfl := Option.some.inj H
        go_enter Try.func16, Try.ntmps16
        go_wp2_with (first | ((with_reducible refine gate_callee (f := 17) rfl ?_); refine goesL_ (some 7) rfl rfl Try.func17 (by kernel_rfl) rfl #[.string (⟨#[109, 97, 107, 101, 32, 45, 67, 32, 100, 32, 88, 61, 49, 32, 97, 108, 108]⟩ : ByteArray)] rfl (by (try simp only [List.map_toArray, List.map_cons, List.map_nil]); first | done | rfl | (simp only [List.length_drop, List.length_take]; rfl)) ?_; (with_reducible refine (parse_Line.calls (⟨#[109, 97, 107, 101, 32, 45, 67, 32, 100, 32, 88, 61, 49, 32, 97, 108, 108]⟩ : ByteArray) t101 t102 _ A1.out).mono ?_); rintro e w56 ⟨v103, rfl, ho0, hb⟩; refine ⟨_, rfl, ?_⟩; have n0_ := Aside0.mk (Kd.S_lower ho0 (below_size (by repeat (first | (with_reducible first | exact HB.out | apply below_alloc | apply pw_below_drewN | apply below_drew1) | exact HB.out)))); have n1_ := Aside0.mk (below_step (by repeat (first | (with_reducible first | exact HB.out | apply below_alloc | apply pw_below_drewN | apply below_drew1) | exact HB.out)) hb); clear HB; have HO104 := n0_; have HB := n1_; clear n0_ n1_; (try clear hb); (try clear hb2); (try clear hk); (try clear hi); (try clear ho0); obtain ⟨Ao57, co57, eo57⟩ := Kd.S_slice HO104.out; subst eo57) | ((with_reducible refine gate_callee (f := 19) rfl ?_); refine goesL_ (some 12) rfl rfl Try.func19 (by kernel_rfl) rfl #[.slice Ao57 t101.length co57, .string (⟨#[109, 97, 107, 101]⟩ : ByteArray)] rfl (by (try simp only [List.map_toArray, List.map_cons, List.map_nil]); first | done | rfl | (simp only [List.length_drop, List.length_take]; rfl)) ?_; (with_reducible refine (sub_Of.calls _ _ t101 (⟨#[109, 97, 107, 101]⟩ : ByteArray) t105 t106 t109 true t113 _ ?side1 ?side2 ?side3 A2.out).mono ?_); (case side1 => first | exact HSH.out | exact Shp.below HSH.out (by repeat (first | (with_reducible first | exact HB.out | apply below_alloc | apply pw_below_drewN | apply below_drew1) | exact HB.out))); (case side2 => repeat (first | exact (Kd.S_reads' HO104.out).2.2 | (with_reducible refine Kd.C_alloc ?_ _) | (with_reducible refine Kd.C_drewN ?_ _) | (with_reducible refine Kd.C_drew ?_))); (case side3 => exact (Kd.S_reads' HO104.out).2.1); rintro e w58 ⟨v107, v110, rfl, ho0, ho1, hb⟩; refine ⟨_, rfl, ?_⟩; have n0_ := Aside0.mk (Kd.S_elder' (by (with_reducible repeat (first | apply Kd.S_alloc | apply Kd.S_drewN | apply Kd.S_drew)); (first | exact HO104.out | (first | refine Kd.R_mono HO104.out (fun _ hk => ?_) | refine Kd.S_mono HO104.out (fun _ hk => ?_) | refine Kd.Q_mono HO104.out (fun _ hk => ?_)); simp only [ownBlock_slice] at hk ⊢; exact hk)) (Kd.R_base ho0) hb); have n1_ := Aside0.mk (Kd.R_lower ho0 (below_size (by repeat (first | (with_reducible first | exact HB.out | apply below_alloc | apply pw_below_drewN | apply below_drew1) | exact HB.out)))); have n2_ := Aside0.mk (Kd.R_lower ho1 (below_size (by repeat (first | (with_reducible first | exact HB.out | apply below_alloc | apply pw_below_drewN | apply below_drew1) | exact HB.out)))); have n3_ := Aside0.mk (below_step (by repeat (first | (with_reducible first | exact HB.out | apply below_alloc | apply pw_below_drewN | apply below_drew1) | exact HB.out)) hb); clear HO104; clear HB; have HO104 := n0_; have HO108 := n1_; have HO111 := n2_; have HB := n3_; clear n0_ n1_ n2_ n3_; (try clear hb); (try clear hb2); (try clear hk); (try clear hi); (try clear ho0); (try clear ho1)) | ((with_reducible refine gate_dst (N := 3) rfl ?_); (try (refine gate_guard (by rfl) ?_; dsimp only)); refine box_event ?hg (N := 3) ?hd (cs := #[.string (⟨#[]⟩ : ByteArray), .slice none 0 0, .slice none 0 0]) (t := 57) ?hr ?_; (case hd => rfl); (case hg => rfl); (case hr => first | (go_simp; done) | (go_simp; rfl)); intro gb114 hg w59 hbox hb; have n0_ := Aside0.mk (Kd.S_below (by (with_reducible repeat (first | apply Kd.S_alloc | apply Kd.S_drewN | apply Kd.S_drew)); (first | exact HO104.out | (first | refine Kd.R_mono HO104.out (fun _ hk => ?_) | refine Kd.S_mono HO104.out (fun _ hk => ?_) | refine Kd.Q_mono HO104.out (fun _ hk => ?_)); simp only [ownBlock_slice] at hk ⊢; exact hk)) hb); have n1_ := Aside0.mk (Kd.R_below (by (with_reducible repeat (first | apply Kd.R_alloc | apply Kd.R_drewN | apply Kd.R_drew)); (first | exact HO108.out | (first | refine Kd.R_mono HO108.out (fun _ hk => ?_) | refine Kd.S_mono HO108.out (fun _ hk => ?_) | refine Kd.Q_mono HO108.out (fun _ hk => ?_)); simp only [ownBlock_slice] at hk ⊢; exact hk)) hb); have n2_ := Aside0.mk (Kd.R_below (by (with_reducible repeat (first | apply Kd.R_alloc | apply Kd.R_drewN | apply Kd.R_drew)); (first | exact HO111.out | (first | refine Kd.R_mono HO111.out (fun _ hk => ?_) | refine Kd.S_mono HO111.out (fun _ hk => ?_) | refine Kd.Q_mono HO111.out (fun _ hk => ?_)); simp only [ownBlock_slice] at hk ⊢; exact hk)) hb); have n3_ := Aside0.mk (below_step (by repeat (first | (with_reducible first | exact HB.out | apply below_alloc | apply pw_below_drewN | apply below_drew1) | exact HB.out)) hb); have n4_ := Aside0.mk (hbox); have n5_ := Aside0.mk ((by rw [hg]; exact (below_size (by repeat (first | (with_reducible first | exact HB.out | apply below_alloc | apply pw_below_drewN | apply below_drew1) | exact HB.out))) : w.heap.size ≤ gb114)); have n6_ := Aside0.mk ((by rw [hg]; exact (below_size (by repeat (first | (with_reducible first | exact HB.out | apply below_alloc | apply pw_below_drewN | apply below_drew1) | exact HB.out))) : w.heap.size ≤ gb114)); clear HO104; clear HO108; clear HO111; clear HB; have HO104 := n0_; have HO108 := n1_; have HO111 := n2_; have HB := n3_; have BK114 := n4_; have GW114 := n5_; have GE114 := n6_; clear n0_ n1_ n2_ n3_ n4_ n5_ n6_; clear hb hbox hg; have hcz60_0 : w59.cell? ⟨gb114, 0, none⟩ = some (.string (⟨#[]⟩ : ByteArray)) := (blk_cell BK114.out 0).trans rfl; have hcz60_1 : w59.cell? ⟨gb114, 1, none⟩ = some (.slice none 0 0) := (blk_cell BK114.out 1).trans rfl; have hcz60_2 : w59.cell? ⟨gb114, 2, none⟩ = some (.slice none 0 0) := (blk_cell BK114.out 2).trans rfl; have hfz60_0 := blk_frozen BK114.out 0; have hfz60_1 := blk_frozen BK114.out 1; have hfz60_2 := blk_frozen BK114.out 2; obtain ⟨Ao61, co61, eo61⟩ := Kd.R_slice HO108.out; subst eo61; obtain ⟨Ao62, co62, eo62⟩ := Kd.R_slice HO111.out; subst eo62))
        go_ret
        exact ⟨by first | rfl | (simp [errW_none, errW_some] <;> rfl) | (simp [*, errW_none, errW_some] <;> rfl), by repeat (first | (with_reducible first | exact HB.out | apply below_alloc | apply pw_below_drewN | apply below_drew1 | refine below_set ?_ GE114.out) | exact HB.out)⟩
    · replace c4 := Bool.eq_false_iff.mpr c4
      subst c4
      have H1 : (some false) = some r := by rw [if_neg (show ¬ (false = true) by decide)] at H; exact H
      clear H
      have H := H1
      clear H1
      obtain rfl := Option.some.inj H
      go_enter Try.func16, Try.ntmps16
      go_wp2_with (first | ((with_reducible refine gate_callee (f := 17) rfl ?_); refine goesL_ (some 7) rfl rfl Try.func17 (by kernel_rfl) rfl #[.string (⟨#[109, 97, 107, 101, 32, 45, 67, 32, 100, 32, 88, 61, 49, 32, 97, 108, 108]⟩ : ByteArray)] rfl (by (try simp only [List.map_toArray, List.map_cons, List.map_nil]); first | done | rfl | (simp only [List.length_drop, List.length_take]; rfl)) ?_; (with_reducible refine (parse_Line.calls (⟨#[109, 97, 107, 101, 32, 45, 67, 32, 100, 32, 88, 61, 49, 32, 97, 108, 108]⟩ : ByteArray) t101 t102 _ A1.out).mono ?_); rintro e w63 ⟨v103, rfl, ho0, hb⟩; refine ⟨_, rfl, ?_⟩; have n0_ := Aside0.mk (Kd.S_lower ho0 (below_size (by repeat (first | (with_reducible first | exact HB.out | apply below_alloc | apply pw_below_drewN | apply below_drew1) | exact HB.out)))); have n1_ := Aside0.mk (below_step (by repeat (first | (with_reducible first | exact HB.out | apply below_alloc | apply pw_below_drewN | apply below_drew1) | exact HB.out)) hb); clear HB; have HO104 := n0_; have HB := n1_; clear n0_ n1_; (try clear hb); (try clear hb2); (try clear hk); (try clear hi); (try clear ho0); obtain ⟨Ao64, co64, eo64⟩ := Kd.S_slice HO104.out; subst eo64) | ((with_reducible refine gate_callee (f := 19) rfl ?_); refine goesL_ (some 12) rfl rfl Try.func19 (by kernel_rfl) rfl #[.slice Ao64 t101.length co64, .string (⟨#[109, 97, 107, 101]⟩ : ByteArray)] rfl (by (try simp only [List.map_toArray, List.map_cons, List.map_nil]); first | done | rfl | (simp only [List.length_drop, List.length_take]; rfl)) ?_; (with_reducible refine (sub_Of.calls _ _ t101 (⟨#[109, 97, 107, 101]⟩ : ByteArray) t105 t106 t109 false t113 _ ?side1 ?side2 ?side3 A2.out).mono ?_); (case side1 => first | exact HSH.out | exact Shp.below HSH.out (by repeat (first | (with_reducible first | exact HB.out | apply below_alloc | apply pw_below_drewN | apply below_drew1) | exact HB.out))); (case side2 => repeat (first | exact (Kd.S_reads' HO104.out).2.2 | (with_reducible refine Kd.C_alloc ?_ _) | (with_reducible refine Kd.C_drewN ?_ _) | (with_reducible refine Kd.C_drew ?_))); (case side3 => exact (Kd.S_reads' HO104.out).2.1); rintro e w65 ⟨v107, v110, rfl, ho0, ho1, hb⟩; refine ⟨_, rfl, ?_⟩; have n0_ := Aside0.mk (Kd.S_elder' (by (with_reducible repeat (first | apply Kd.S_alloc | apply Kd.S_drewN | apply Kd.S_drew)); (first | exact HO104.out | (first | refine Kd.R_mono HO104.out (fun _ hk => ?_) | refine Kd.S_mono HO104.out (fun _ hk => ?_) | refine Kd.Q_mono HO104.out (fun _ hk => ?_)); simp only [ownBlock_slice] at hk ⊢; exact hk)) (Kd.R_base ho0) hb); have n1_ := Aside0.mk (Kd.R_lower ho0 (below_size (by repeat (first | (with_reducible first | exact HB.out | apply below_alloc | apply pw_below_drewN | apply below_drew1) | exact HB.out)))); have n2_ := Aside0.mk (Kd.R_lower ho1 (below_size (by repeat (first | (with_reducible first | exact HB.out | apply below_alloc | apply pw_below_drewN | apply below_drew1) | exact HB.out)))); have n3_ := Aside0.mk (below_step (by repeat (first | (with_reducible first | exact HB.out | apply below_alloc | apply pw_below_drewN | apply below_drew1) | exact HB.out)) hb); clear HO104; clear HB; have HO104 := n0_; have HO108 := n1_; have HO111 := n2_; have HB := n3_; clear n0_ n1_ n2_ n3_; (try clear hb); (try clear hb2); (try clear hk); (try clear hi); (try clear ho0); (try clear ho1)) | ((with_reducible refine gate_dst (N := 3) rfl ?_); (try (refine gate_guard (by rfl) ?_; dsimp only)); refine box_event ?hg (N := 3) ?hd (cs := #[.string (⟨#[]⟩ : ByteArray), .slice none 0 0, .slice none 0 0]) (t := 57) ?hr ?_; (case hd => rfl); (case hg => rfl); (case hr => first | (go_simp; done) | (go_simp; rfl)); intro gb114 hg w66 hbox hb; have n0_ := Aside0.mk (Kd.S_below (by (with_reducible repeat (first | apply Kd.S_alloc | apply Kd.S_drewN | apply Kd.S_drew)); (first | exact HO104.out | (first | refine Kd.R_mono HO104.out (fun _ hk => ?_) | refine Kd.S_mono HO104.out (fun _ hk => ?_) | refine Kd.Q_mono HO104.out (fun _ hk => ?_)); simp only [ownBlock_slice] at hk ⊢; exact hk)) hb); have n1_ := Aside0.mk (Kd.R_below (by (with_reducible repeat (first | apply Kd.R_alloc | apply Kd.R_drewN | apply Kd.R_drew)); (first | exact HO108.out | (first | refine Kd.R_mono HO108.out (fun _ hk => ?_) | refine Kd.S_mono HO108.out (fun _ hk => ?_) | refine Kd.Q_mono HO108.out (fun _ hk => ?_)); simp only [ownBlock_slice] at hk ⊢; exact hk)) hb); have n2_ := Aside0.mk (Kd.R_below (by (with_reducible repeat (first | apply Kd.R_alloc | apply Kd.R_drewN | apply Kd.R_drew)); (first | exact HO111.out | (first | refine Kd.R_mono HO111.out (fun _ hk => ?_) | refine Kd.S_mono HO111.out (fun _ hk => ?_) | refine Kd.Q_mono HO111.out (fun _ hk => ?_)); simp only [ownBlock_slice] at hk ⊢; exact hk)) hb); have n3_ := Aside0.mk (below_step (by repeat (first | (with_reducible first | exact HB.out | apply below_alloc | apply pw_below_drewN | apply below_drew1) | exact HB.out)) hb); have n4_ := Aside0.mk (hbox); have n5_ := Aside0.mk ((by rw [hg]; exact (below_size (by repeat (first | (with_reducible first | exact HB.out | apply below_alloc | apply pw_below_drewN | apply below_drew1) | exact HB.out))) : w.heap.size ≤ gb114)); have n6_ := Aside0.mk ((by rw [hg]; exact (below_size (by repeat (first | (with_reducible first | exact HB.out | apply below_alloc | apply pw_below_drewN | apply below_drew1) | exact HB.out))) : w.heap.size ≤ gb114)); clear HO104; clear HO108; clear HO111; clear HB; have HO104 := n0_; have HO108 := n1_; have HO111 := n2_; have HB := n3_; have BK114 := n4_; have GW114 := n5_; have GE114 := n6_; clear n0_ n1_ n2_ n3_ n4_ n5_ n6_; clear hb hbox hg; have hcz67_0 : w66.cell? ⟨gb114, 0, none⟩ = some (.string (⟨#[]⟩ : ByteArray)) := (blk_cell BK114.out 0).trans rfl; have hcz67_1 : w66.cell? ⟨gb114, 1, none⟩ = some (.slice none 0 0) := (blk_cell BK114.out 1).trans rfl; have hcz67_2 : w66.cell? ⟨gb114, 2, none⟩ = some (.slice none 0 0) := (blk_cell BK114.out 2).trans rfl; have hfz67_0 := blk_frozen BK114.out 0; have hfz67_1 := blk_frozen BK114.out 1; have hfz67_2 := blk_frozen BK114.out 2; obtain ⟨Ao68, co68, eo68⟩ := Kd.R_slice HO108.out; subst eo68; obtain ⟨Ao69, co69, eo69⟩ := Kd.R_slice HO111.out; subst eo69))
      go_ret
      exact ⟨by first | rfl | (simp [errW_none, errW_some] <;> rfl) | (simp [*, errW_none, errW_some] <;> rfl), by repeat (first | (with_reducible first | exact HB.out | apply below_alloc | apply pw_below_drewN | apply below_drew1 | refine below_set ?_ GE114.out) | exact HB.out)⟩
  · rw [if_neg c3] at H
    have c3b0 : (t102 == 0) = false := beq_eq_false_iff_ne.mpr c3
    have c3b1 : (t102 != 0) = true := bne_iff_ne.mpr c3
    obtain rfl := Option.some.inj H
    go_enter Try.func16, Try.ntmps16
    go_wp2_with (first | ((with_reducible refine gate_callee (f := 17) rfl ?_); refine goesL_ (some 7) rfl rfl Try.func17 (by kernel_rfl) rfl #[.string (⟨#[109, 97, 107, 101, 32, 45, 67, 32, 100, 32, 88, 61, 49, 32, 97, 108, 108]⟩ : ByteArray)] rfl (by (try simp only [List.map_toArray, List.map_cons, List.map_nil]); first | done | rfl | (simp only [List.length_drop, List.length_take]; rfl)) ?_; (with_reducible refine (parse_Line.calls (⟨#[109, 97, 107, 101, 32, 45, 67, 32, 100, 32, 88, 61, 49, 32, 97, 108, 108]⟩ : ByteArray) t101 t102 _ A1.out).mono ?_); rintro e w70 ⟨v103, rfl, ho0, hb⟩; refine ⟨_, rfl, ?_⟩; have n0_ := Aside0.mk (Kd.S_lower ho0 (below_size (by repeat (first | (with_reducible first | exact HB.out | apply below_alloc | apply pw_below_drewN | apply below_drew1) | exact HB.out)))); have n1_ := Aside0.mk (below_step (by repeat (first | (with_reducible first | exact HB.out | apply below_alloc | apply pw_below_drewN | apply below_drew1) | exact HB.out)) hb); clear HB; have HO104 := n0_; have HB := n1_; clear n0_ n1_; (try clear hb); (try clear hb2); (try clear hk); (try clear hi); (try clear ho0); obtain ⟨Ao71, co71, eo71⟩ := Kd.S_slice HO104.out; subst eo71) | ((with_reducible refine gate_callee (f := 19) rfl ?_); refine goesL_ (some 12) rfl rfl Try.func19 (by kernel_rfl) rfl #[.slice Ao71 t101.length co71, .string (⟨#[109, 97, 107, 101]⟩ : ByteArray)] rfl (by (try simp only [List.map_toArray, List.map_cons, List.map_nil]); first | done | rfl | (simp only [List.length_drop, List.length_take]; rfl)) ?_; (with_reducible refine (sub_Of.calls _ _ t101 (⟨#[109, 97, 107, 101]⟩ : ByteArray) t105 t106 t109 t112 t113 _ ?side1 ?side2 ?side3 A2.out).mono ?_); (case side1 => first | exact HSH.out | exact Shp.below HSH.out (by repeat (first | (with_reducible first | exact HB.out | apply below_alloc | apply pw_below_drewN | apply below_drew1) | exact HB.out))); (case side2 => repeat (first | exact (Kd.S_reads' HO104.out).2.2 | (with_reducible refine Kd.C_alloc ?_ _) | (with_reducible refine Kd.C_drewN ?_ _) | (with_reducible refine Kd.C_drew ?_))); (case side3 => exact (Kd.S_reads' HO104.out).2.1); rintro e w72 ⟨v107, v110, rfl, ho0, ho1, hb⟩; refine ⟨_, rfl, ?_⟩; have n0_ := Aside0.mk (Kd.S_elder' (by (with_reducible repeat (first | apply Kd.S_alloc | apply Kd.S_drewN | apply Kd.S_drew)); (first | exact HO104.out | (first | refine Kd.R_mono HO104.out (fun _ hk => ?_) | refine Kd.S_mono HO104.out (fun _ hk => ?_) | refine Kd.Q_mono HO104.out (fun _ hk => ?_)); simp only [ownBlock_slice] at hk ⊢; exact hk)) (Kd.R_base ho0) hb); have n1_ := Aside0.mk (Kd.R_lower ho0 (below_size (by repeat (first | (with_reducible first | exact HB.out | apply below_alloc | apply pw_below_drewN | apply below_drew1) | exact HB.out)))); have n2_ := Aside0.mk (Kd.R_lower ho1 (below_size (by repeat (first | (with_reducible first | exact HB.out | apply below_alloc | apply pw_below_drewN | apply below_drew1) | exact HB.out)))); have n3_ := Aside0.mk (below_step (by repeat (first | (with_reducible first | exact HB.out | apply below_alloc | apply pw_below_drewN | apply below_drew1) | exact HB.out)) hb); clear HO104; clear HB; have HO104 := n0_; have HO108 := n1_; have HO111 := n2_; have HB := n3_; clear n0_ n1_ n2_ n3_; (try clear hb); (try clear hb2); (try clear hk); (try clear hi); (try clear ho0); (try clear ho1)) | ((with_reducible refine gate_dst (N := 3) rfl ?_); (try (refine gate_guard (by rfl) ?_; dsimp only)); refine box_event ?hg (N := 3) ?hd (cs := #[.string (⟨#[]⟩ : ByteArray), .slice none 0 0, .slice none 0 0]) (t := 57) ?hr ?_; (case hd => rfl); (case hg => rfl); (case hr => first | (go_simp; done) | (go_simp; rfl)); intro gb114 hg w73 hbox hb; have n0_ := Aside0.mk (Kd.S_below (by (with_reducible repeat (first | apply Kd.S_alloc | apply Kd.S_drewN | apply Kd.S_drew)); (first | exact HO104.out | (first | refine Kd.R_mono HO104.out (fun _ hk => ?_) | refine Kd.S_mono HO104.out (fun _ hk => ?_) | refine Kd.Q_mono HO104.out (fun _ hk => ?_)); simp only [ownBlock_slice] at hk ⊢; exact hk)) hb); have n1_ := Aside0.mk (Kd.R_below (by (with_reducible repeat (first | apply Kd.R_alloc | apply Kd.R_drewN | apply Kd.R_drew)); (first | exact HO108.out | (first | refine Kd.R_mono HO108.out (fun _ hk => ?_) | refine Kd.S_mono HO108.out (fun _ hk => ?_) | refine Kd.Q_mono HO108.out (fun _ hk => ?_)); simp only [ownBlock_slice] at hk ⊢; exact hk)) hb); have n2_ := Aside0.mk (Kd.R_below (by (with_reducible repeat (first | apply Kd.R_alloc | apply Kd.R_drewN | apply Kd.R_drew)); (first | exact HO111.out | (first | refine Kd.R_mono HO111.out (fun _ hk => ?_) | refine Kd.S_mono HO111.out (fun _ hk => ?_) | refine Kd.Q_mono HO111.out (fun _ hk => ?_)); simp only [ownBlock_slice] at hk ⊢; exact hk)) hb); have n3_ := Aside0.mk (below_step (by repeat (first | (with_reducible first | exact HB.out | apply below_alloc | apply pw_below_drewN | apply below_drew1) | exact HB.out)) hb); have n4_ := Aside0.mk (hbox); have n5_ := Aside0.mk ((by rw [hg]; exact (below_size (by repeat (first | (with_reducible first | exact HB.out | apply below_alloc | apply pw_below_drewN | apply below_drew1) | exact HB.out))) : w.heap.size ≤ gb114)); have n6_ := Aside0.mk ((by rw [hg]; exact (below_size (by repeat (first | (with_reducible first | exact HB.out | apply below_alloc | apply pw_below_drewN | apply below_drew1) | exact HB.out))) : w.heap.size ≤ gb114)); clear HO104; clear HO108; clear HO111; clear HB; have HO104 := n0_; have HO108 := n1_; have HO111 := n2_; have HB := n3_; have BK114 := n4_; have GW114 := n5_; have GE114 := n6_; clear n0_ n1_ n2_ n3_ n4_ n5_ n6_; clear hb hbox hg; have hcz74_0 : w73.cell? ⟨gb114, 0, none⟩ = some (.string (⟨#[]⟩ : ByteArray)) := (blk_cell BK114.out 0).trans rfl; have hcz74_1 : w73.cell? ⟨gb114, 1, none⟩ = some (.slice none 0 0) := (blk_cell BK114.out 1).trans rfl; have hcz74_2 : w73.cell? ⟨gb114, 2, none⟩ = some (.slice none 0 0) := (blk_cell BK114.out 2).trans rfl; have hfz74_0 := blk_frozen BK114.out 0; have hfz74_1 := blk_frozen BK114.out 1; have hfz74_2 := blk_frozen BK114.out 2; obtain ⟨Ao75, co75, eo75⟩ := Kd.R_slice HO108.out; subst eo75; obtain ⟨Ao76, co76, eo76⟩ := Kd.R_slice HO111.out; subst eo76))
    go_ret
    exact ⟨by first | rfl | (simp [errW_none, errW_some] <;> rfl) | (simp [*, errW_none, errW_some] <;> rfl), by repeat (first | (with_reducible first | exact HB.out | apply below_alloc | apply pw_below_drewN | apply below_drew1 | refine below_set ?_ GE114.out) | exact HB.out)⟩

end Go.Proofs.Ytmpheeanjjfddaa.XW19
/- Laid for this claim by the session's own program xprint.py, over the print of the kit: functions of the program as plain Lean functions, each with a proof that a call comes to what its function says, or the row of a law out of these; no condition of its own. -/
namespace Go.Proofs.Ytmpheeanjjfddaa.XW19
open Go.Proofs.Ytmpheeanjjfddaa.X Go.Proofs.Ytmpheeanjjfddaa.XT06 Go.Proofs.Ytmpheeanjjfddaa.XW05 Go.RowKit Go.Proofs.YtmpheeanjjfddaaW.PrintWords Go.Proofs.YtmpheeanjjfddaaW.PrintLast Go.Proofs.YtmpheeanjjfddaaW.PrintMore
attribute [local go_sem] cell4_1 cell4_1d max2_int min2_int max_two min_two max_three min_three max_four min_four   -- for this text's walks alone
set_option linter.unusedVariables false
set_option linter.unusedSimpArgs false

end Go.Proofs.Ytmpheeanjjfddaa.XW19
/- The law SubCalls, walked: for every line and name it answers true. -/
namespace Go.Proofs.Ytmpheeanjjfddaa.X
open Go.RowKit Go.Proofs.YtmpheeanjjfddaaW.PrintWords Go.Proofs.YtmpheeanjjfddaaW.PrintLast Go.Proofs.YtmpheeanjjfddaaW.PrintMore Go.Proofs.Ytmpheeanjjfddaa.XW05 Go.Proofs.Ytmpheeanjjfddaa.XT06 Go.Proofs.Ytmpheeanjjfddaa.XW19
set_option linter.unusedSimpArgs false
set_option linter.unusedVariables false

/-- Few commands, with short texts. -/
def small19 (cs : List Cmd) : Prop := cs.length ≤ 3000 ∧ ∀ c ∈ cs, c.words.length ≤ 3000 ∧ c.tos.length ≤ 3000 ∧ ∀ y ∈ c.words, y.length ≤ 1000
theorem parse_small19 (l : List UInt8) (hl : l.length ≤ 1000) (cs : List Cmd) (h : parseU l = some cs) : small19 cs := by
  unfold parseU at h
  cases ht : tokS [] l with
  | none => rw [ht] at h; simp at h
  | some toks =>
    rw [ht] at h
    simp only at h
    obtain ⟨h1, h2⟩ := tokS_len 1000 _ l [] toks (Nat.le_refl _) hl (by simp) ht
    simp only [List.length_nil, Nat.zero_add] at h1
    obtain ⟨g1, g2⟩ := lineS_wt (fun t => t.length ≤ 1000) _ toks [] 1 cs (Nat.le_refl _) h2 (by simp) h
    simp only [List.map_nil, List.sum_nil, Nat.zero_add] at g1
    obtain ⟨g4, g5⟩ := len_wt cs
    exact ⟨by omega, fun c hc => ⟨by have := g5 c hc; omega, by have := g5 c hc; omega, (g2 c hc).1⟩⟩
theorem callU_small : ∀ (cs : List Cmd), small19 cs → ∀ x, callU cs = some x → x.2.1.length < 1000000 ∧ x.2.2.length < 1000000 := by
  intro cs hs x hx
  have h : ∀ n (ws : List (List UInt8)) (dir : List UInt8) (goals : List (List UInt8)) (vars : List (List UInt8 × List UInt8)), ws.length ≤ n → ofS dir goals vars ws = some x → x.2.1.length ≤ goals.length + ws.length ∧ x.2.2.length ≤ vars.length + ws.length := by
    intro n
    induction n with
    | zero =>
      intro ws dir goals vars hl h
      obtain rfl : ws = [] := List.length_eq_zero_iff.1 (by omega)
      rw [ofS_nil] at h
      cases h
      exact ⟨by simp, by simp⟩
    | succ n ih =>
      intro ws dir goals vars hl h
      cases ws with
      | nil =>
        rw [ofS_nil] at h
        cases h
        exact ⟨by simp, by simp⟩
      | cons y r =>
        simp only [List.length_cons] at hl ⊢
        by_cases hA : y = [45, 67] ∧ r ≠ []
        · obtain ⟨rfl, hr⟩ := hA
          cases r with
          | nil => exact absurd rfl hr
          | cons d r =>
            rw [ofS_dir] at h
            simp only [List.length_cons] at hl ⊢
            have := ih r _ _ _ (by omega) h
            omega
        · by_cases hb : y = [] ∨ y.head? = some 45
          · rw [ofS_bad _ _ _ _ _ hA hb] at h; simp at h
          · cases hs : setU y with
            | some p =>
              rw [ofS_var _ _ _ _ _ hb p hs] at h
              have := ih r _ _ _ (by omega) h
              simp only [List.length_append, List.length_cons, List.length_nil] at this
              omega
            | none =>
              rw [ofS_goal _ _ _ _ _ hb hs] at h
              have := ih r _ _ _ (by omega) h
              simp only [List.length_append, List.length_cons, List.length_nil] at this
              omega
  match cs, hx with
  | [c], hx =>
    simp only [callU] at hx
    split at hx
    · have := h _ _ _ _ _ (Nat.le_refl _) hx
      have h2 := (hs.2 c (by simp)).1
      simp only [List.length_nil, List.length_drop] at this
      omega
    · simp at hx

/-! the calls, over commands -/
theorem ln_some (l : List UInt8) (hl : l.length < 500000000) (cs : List Cmd) (h : parseU l = some cs) (w : World) :
    Calls Try.prog 17 #[.string (B l)] w fun e w' => ∃ A c, e = .returned (.tuple #[.slice A cs.length c, .int .i64 0]) ∧ cs.length ≤ c ∧ Kd.C k124 w' A cs.length (cs.map toS) ∧ Below w.heap.size w w' := by
  refine (parse_Line.calls (B l) (cs.map toS) 0 w (by unfold parse_Line.f; rw [if_pos (by rw [B_size]; exact hl), B_data, h]; rfl)).mono ?_
  rintro e w1 ⟨v, rfl, hS, hb⟩
  obtain ⟨A, c, ev, hc, hC⟩ := Kd.S_reads hS
  subst ev
  rw [List.length_map] at hc hC ⊢
  exact ⟨A, c, rfl, hc, hC, hb⟩
theorem ln_none (l : List UInt8) (hl : l.length < 500000000) (h : parseU l = none) (w : World) :
    Calls Try.prog 17 #[.string (B l)] w fun e w' => ∃ A c, e = .returned (.tuple #[.slice A 0 c, .int .i64 6]) ∧ Below w.heap.size w w' := by
  refine (parse_Line.calls (B l) [] 6 w (by unfold parse_Line.f; rw [if_pos (by rw [B_size]; exact hl), B_data, h]; rfl)).mono ?_
  rintro e w1 ⟨v, rfl, hS, hb⟩
  obtain ⟨A, c, ev⟩ := Kd.S_slice hS
  subst ev
  exact ⟨A, c, rfl, hb⟩
theorem of_ok19 (cs : List Cmd) (hs : small19 cs) (A : Option Addr) (c : Nat) (w : World) (hC : Kd.C k124 w A cs.length (cs.map toS)) :
    Calls Try.prog 18 #[.slice A cs.length c] w fun e w' => ∃ A' c', e = .returned (.slice A' cs.length c') ∧ cs.length ≤ c' ∧ Kd.C k132 w' A' cs.length (cs.map rD) ∧ Below w.heap.size w w' := by
  have := of_calls A c (cs.map toS) w (by rw [List.length_map]; exact hC) (by rw [List.length_map]; have := hs.1; omega) (by
    intro z hz
    obtain ⟨d, hd, rfl⟩ := List.mem_map.1 hz
    have := (hs.2 d hd).2.1
    show (d.tos.map toT).length < _
    rw [List.length_map]; omega)
  rw [List.length_map, List.map_map] at this
  exact this
theorem isS_eq (nm : List UInt8) (cs : List Cmd) : (cs.map toS).any (isS (B nm)) = isU cs nm := by
  unfold isU
  rw [List.any_map]
  congr 1
  funext c
  show isS (B nm) (toS c) = _
  obtain ⟨on, ws, ts⟩ := c
  cases ws with
  | nil => rfl
  | cons y r =>
    show ((B y).toList == (B nm).toList) = (y == nm)
    rw [B_toList, B_toList]
theorem callS_eq (cs : List Cmd) : callS (cs.map toS) = callU cs := by
  match cs with
  | [] => rfl
  | [c] =>
    show (if (toS c).f2.length = 0 then _ else _) = (if c.tos = [] then _ else _)
    have e : ((toS c).f2.length = 0) = (c.tos = []) := by
      show ((c.tos.map toT).length = 0) = _
      rw [List.length_map]
      exact propext List.length_eq_zero_iff
    have e2 : (toS c).f1.map (·.data.toList) = c.words := by
      show (c.words.map B).map (·.data.toList) = c.words
      rw [List.map_map]
      exact (List.map_congr_left (fun z _ => B_data z)).trans (List.map_id _)
    by_cases h : c.tos = []
    · rw [if_pos (e.symm ▸ h), if_pos h, e2]
    · rw [if_neg (fun h' => h (e ▸ h')), if_neg h]
  | _ :: _ :: _ => rfl
theorem subOf_f (cs : List Cmd) (hs : small19 cs) (nm : List UInt8) : sub_Of.f (cs.map toS) (B nm) = some (resO (isU cs nm) (callU cs)) := by
  unfold sub_Of.f
  rw [if_pos ⟨by rw [List.length_map]; have := hs.1; omega, by
    intro z hz
    obtain ⟨d, hd, rfl⟩ := List.mem_map.1 hz
    obtain ⟨h1, h2, h3⟩ := hs.2 d hd
    refine ⟨by show (d.words.map B).length < _; rw [List.length_map]; omega, ?_⟩
    intro x hx
    obtain ⟨y, hy, rfl⟩ := List.mem_map.1 (show x ∈ d.words.map B from hx)
    rw [B_size]
    have := h3 y hy
    omega⟩, isS_eq, callS_eq]
theorem so_ok (cs : List Cmd) (hs : small19 cs) (nm : List UInt8) (A : Option Addr) (c : Nat) (w : World) (hSH : Shp w) (hC : Kd.C k124 w A cs.length (cs.map toS)) (hc : cs.length ≤ c) (d : ByteArray) (gs : List ByteArray) (vs : List S98) (b : Bool) (n : Int) (hres : resO (isU cs nm) (callU cs) = (d, gs, vs, b, n)) :
    Calls Try.prog 19 #[.slice A cs.length c, .string (B nm)] w fun e w' => ∃ Ag cg Av cv, e = .returned (.tuple #[.agg #[.string d, .slice Ag gs.length cg, .slice Av vs.length cv], .bool b, .int .i64 n]) ∧ gs.length ≤ cg ∧ Kd.C Kd.string w' Ag gs.length gs ∧ vs.length ≤ cv ∧ Kd.C k98 w' Av vs.length vs ∧ Below w.heap.size w w' := by
  have := sub_Of.calls A c (cs.map toS) (B nm) d gs vs b n w hSH (by rw [List.length_map]; exact hC) (by rw [List.length_map]; exact hc) (by rw [subOf_f cs hs nm, hres])
  rw [List.length_map] at this
  refine this.mono ?_
  rintro e w1 ⟨v1, v2, rfl, h1, h2, hb⟩
  obtain ⟨Ag, cg, e1, l1, g1⟩ := Kd.R_reads h1
  obtain ⟨Av, cv, e2, l2, g2⟩ := Kd.R_reads h2
  subst e1 e2
  exact ⟨Ag, cg, Av, cv, rfl, l1, g1, l2, g2, hb⟩
theorem ri_ok (cs : List Cmd) (hs : small19 cs) (nm : List UInt8) (A : Option Addr) (c : Nat) (w : World) (hC : Kd.C k132 w A cs.length (cs.map rD)) (hc : cs.length ≤ c) :
    Calls Try.prog 20 #[.slice A cs.length c, .string (B nm)] w fun e w' => e = .returned (.bool (isU cs nm)) ∧ Below w.heap.size w w' := by
  obtain ⟨k, hk⟩ := (refIs_ev cs (by have := hs.1; omega) nm).get
  have := flatironref19_Is.calls k A c (cs.map rD) (B nm) _ w (by rw [List.length_map]; exact hC) (by rw [List.length_map]; exact hc) hk
  rw [List.length_map] at this
  exact this.mono (fun e w1 h => ⟨h.1, h.2.below⟩)
theorem si_ok (cs : List Cmd) (hs : small19 cs) (nm : List UInt8) (A : Option Addr) (c : Nat) (w : World) (hC : Kd.C k124 w A cs.length (cs.map toS)) (hc : cs.length ≤ c) :
    Calls Try.prog 21 #[.slice A cs.length c, .string (B nm)] w fun e w' => e = .returned (.bool (isU cs nm)) ∧ Below w.heap.size w w' := by
  have := sub_Is.calls A c (cs.map toS) (B nm) (isU cs nm) w (by rw [List.length_map]; exact hC) (by rw [List.length_map]; exact hc) (by unfold sub_Is.f; rw [if_pos (by rw [List.length_map]; have := hs.1; omega), isS_eq])
  rw [List.length_map] at this
  exact this
theorem ro_ok (cs : List Cmd) (hs : small19 cs) (A : Option Addr) (c : Nat) (w : World) (hC : Kd.C k132 w A cs.length (cs.map rD)) (hc : cs.length ≤ c) (d : ByteArray) (gs : List ByteArray) (vs : List S69) (b : Bool) (hres : resC (callU cs) = (d, gs, vs, b)) :
    Calls Try.prog 22 #[.slice A cs.length c] w fun e w' => ∃ Ag cg Av cv, e = .returned (.tuple #[.agg #[.string d, .slice Ag gs.length cg, .slice Av vs.length cv], .bool b]) ∧ gs.length ≤ cg ∧ Kd.C Kd.string w' Ag gs.length gs ∧ vs.length ≤ cv ∧ Kd.C k69 w' Av vs.length vs ∧ Below w.heap.size w w' := by
  obtain ⟨k, hk⟩ := (refOf_ev cs (by have := hs.1; omega) (fun c hc => ⟨by have := (hs.2 c hc).1; omega, fun y hy => by have := (hs.2 c hc).2.2 y hy; omega⟩)).get
  rw [hres] at hk
  have := flatironref19_Of.calls k A c (cs.map rD) d gs vs b w (by rw [List.length_map]; exact hC) (by rw [List.length_map]; exact hc) hk
  rw [List.length_map] at this
  refine this.mono ?_
  rintro e w1 ⟨v1, v2, rfl, h1, h2, hb⟩
  obtain ⟨Ag, cg, e1, l1, g1⟩ := Kd.R_reads h1
  obtain ⟨Av, cv, e2, l2, g2⟩ := Kd.R_reads h2
  subst e1 e2
  exact ⟨Ag, cg, Av, cv, rfl, l1, g1, l2, g2, hb⟩
theorem eqs_ok (gs : List ByteArray) (n : Nat) (hn : gs.length = n) (hl : n < 1000000000) (A A1 : Option Addr) (c c1 : Nat) (w : World) (h : Kd.C Kd.string w A n gs) (hc : n ≤ c) (h1 : Kd.C Kd.string w A1 n gs) (hc1 : n ≤ c1) :
    Calls Try.prog 14 #[.slice A n c, .slice A1 n c1] w fun e w' => e = .returned (.bool true) ∧ Below w.heap.size w w' := by
  subst hn
  obtain ⟨k, hk⟩ := (equalS19_ev gs hl).get
  exact (slices_Equal_string_string.calls k A c gs A1 c1 gs true w h hc h1 hc1 hk).mono (fun e w1 h => ⟨h.1, h.2.below⟩)
theorem eqp_ok (gs : List S69) (n : Nat) (hn : gs.length = n) (hl : n < 1000000000) (A A1 : Option Addr) (c c1 : Nat) (w : World) (h : Kd.C k69 w A n gs) (hc : n ≤ c) (h1 : Kd.C k69 w A1 n gs) (hc1 : n ≤ c1) :
    Calls Try.prog 23 #[.slice A n c, .slice A1 n c1] w fun e w' => e = .returned (.bool true) ∧ Below w.heap.size w w' := by
  subst hn
  obtain ⟨k, hk⟩ := (equalP_ev gs hl).get
  exact (flatironref14_Pair.calls k A c gs A1 c1 gs true w h hc h1 hc1 hk).mono (fun e w1 h => ⟨h.1, h.2.below⟩)
theorem prs_ok (vs : List (List UInt8 × List UInt8)) (n : Nat) (hn : vs.length = n) (hl : n < 1000000000) (A : Option Addr) (c : Nat) (w : World) (h : Kd.C k98 w A n (vs.map pS)) (hc : n ≤ c) :
    Calls Try.prog 24 #[.slice A n c] w fun e w' => ∃ A1 c1, e = .returned (.slice A1 n c1) ∧ n ≤ c1 ∧ Kd.C k69 w' A1 n (vs.map pR) ∧ Below w.heap.size w w' := by
  subst hn
  obtain ⟨k, hk⟩ := (pairs_ev vs pS (fun p => ⟨rfl, rfl⟩) hl).get
  have := flatironlaw19_Pairs.calls k A c (vs.map pS) (vs.map pR) w (by rw [List.length_map]; exact h) (by rw [List.length_map]; exact hc) hk
  rw [List.length_map] at this
  refine this.mono ?_
  rintro e w1 ⟨v1, rfl, h1, hb⟩
  obtain ⟨A1, c1, e1, l1, g1⟩ := Kd.R_reads h1
  subst e1
  rw [List.length_map] at l1 g1 ⊢
  exact ⟨A1, c1, rfl, l1, g1, hb⟩
end Go.Proofs.Ytmpheeanjjfddaa.X
/- The law SubCalls: its example, its walk. -/
namespace Go.Proofs.Ytmpheeanjjfddaa.X
open Go.RowKit Go.Proofs.YtmpheeanjjfddaaW.PrintWords Go.Proofs.YtmpheeanjjfddaaW.PrintLast Go.Proofs.YtmpheeanjjfddaaW.PrintMore Go.Proofs.Ytmpheeanjjfddaa.XW05 Go.Proofs.Ytmpheeanjjfddaa.XT06 Go.Proofs.Ytmpheeanjjfddaa.XW19
set_option linter.unusedSimpArgs false
set_option linter.unusedVariables false

theorem equalQ_loop (A : List S98) (hl : A.length < 1000000000) : ∀ i, i ≤ A.length → Ev (fun k => sub_Pair.l0 k A A (A.length : Int) (i : Int)) true := by
  refine upto_ind ?_ ?_
  · refine Ev.step (fun k => by rw [sub_Pair.l0]) ?_
    refine Ev.neg (by omega) ?_
    exact Ev.ret _
  · intro i hi ih
    refine Ev.step (fun k => by rw [sub_Pair.l0]) ?_
    rw [wrap_succ i (by omega)]
    refine Ev.pos (by omega) ?_
    refine Ev.pos (by omega) ?_
    refine Ev.pos (by omega) ?_
    refine Ev.pos (by omega) ?_
    refine Ev.neg (by simp) ?_
    exact ih
theorem equalQ_ev (A : List S98) (hl : A.length < 1000000000) : Ev (fun k => sub_Pair.f k A A) true := by
  refine Ev.congr (fun k => by rw [sub_Pair.f]) ?_
  refine Ev.pos rfl ?_
  exact equalQ_loop A hl 0 (Nat.zero_le _)
def livesC : Cmd := ⟨1, [[109, 97, 107, 101], [45, 67], [100], [88, 61, 49], [97, 108, 108]], []⟩
theorem lives19_parse : parseU [109, 97, 107, 101, 32, 45, 67, 32, 100, 32, 88, 61, 49, 32, 97, 108, 108] = some [livesC] := by
  have e : ([109, 97, 107, 101, 32, 45, 67, 32, 100, 32, 88, 61, 49, 32, 97, 108, 108] : List UInt8) = joinU (([(0, [109, 97, 107, 101]), (0, [45, 67]), (0, [100]), (0, [88, 61, 49]), (0, [97, 108, 108])] : List Tok).map show1) := by decide
  rw [e]
  unfold parseU
  rw [tokS_show _ (by intro x hx; simp at hx; rcases hx with rfl | rfl | rfl | rfl | rfl <;> exact .inl rfl) []]
  show lineS [] 1 _ = _
  rw [lineS_last [] 1 _ (by simp) livesC (by simp only [List.nil_append]; rw [cmdS_word, cmdS_word, cmdS_word, cmdS_word, cmdS_word, cmdS_nil]; rfl)]
  rfl
theorem lives19_call : callU [livesC] = some ([46, 47, 100], [[97, 108, 108]], [([88], [49])]) := by
  show ofS [46] [] [] [[45, 67], [100], [88, 61, 49], [97, 108, 108]] = _
  rw [ofS_dir, ofS_var _ _ _ _ _ (by decide) ([88], [49]) (by decide), ofS_goal _ _ _ _ _ (by decide) (by decide), ofS_nil]
  rfl
theorem lives19 : Ev (fun k => flatironlaw19_lives.f k) true := by
  refine Ev.congr (fun k => by rw [flatironlaw19_lives.f]) ?_
  have h1 : parse_Line.f (⟨#[109, 97, 107, 101, 32, 45, 67, 32, 100, 32, 88, 61, 49, 32, 97, 108, 108]⟩ : ByteArray) = some ([livesC].map toS, 0) := by
    unfold parse_Line.f
    rw [if_pos (by decide)]
    exact congrArg (fun o => some (resL o)) lives19_parse
  have h2 : sub_Of.f ([livesC].map toS) (⟨#[109, 97, 107, 101]⟩ : ByteArray) = some (B [46, 47, 100], [[97, 108, 108]].map B, [([88], [49])].map pS, true, 0) := by
    have hsm : small19 [livesC] := by
      refine ⟨by simp, fun c hc => ?_⟩
      simp at hc
      subst hc
      exact ⟨by decide, by decide, by decide⟩
    have := subOf_f [livesC] hsm [109, 97, 107, 101]
    rw [lives19_call, show isU [livesC] [109, 97, 107, 101] = true by decide] at this
    exact this
  refine Ev.bind (Ev.of h1) ?_
  refine Ev.bind (Ev.of h2) ?_
  refine Ev.pos rfl ?_
  refine Ev.pos rfl ?_
  refine Ev.pos rfl ?_
  refine Ev.pos (by show (B [46, 47, 100]).toList = _; rw [B_toList]) ?_
  refine Ev.bind (equalS19_ev [B [97, 108, 108]] (by simp)) ?_
  refine Ev.pos rfl ?_
  refine Ev.bind (equalQ_ev [pS ([88], [49])] (by simp)) ?_
  refine Ev.pos rfl ?_
  exact Ev.ret _
theorem so_no (cs : List Cmd) (hs : small19 cs) (nm : List UInt8) (hi : isU cs nm = false) (_ : True) (A : Option Addr) (c : Nat) (w : World) (hSH : Shp w) (hC : Kd.C k124 w A cs.length (cs.map toS)) (hc : cs.length ≤ c) :
    Calls Try.prog 19 #[.slice A cs.length c, .string (B nm)] w fun e w' => ∃ Ag cg Av cv, e = .returned (.tuple #[.agg #[.string ⟨#[]⟩, .slice Ag 0 cg, .slice Av 0 cv], .bool false, .int .i64 0]) ∧ 0 ≤ cg ∧ Kd.C Kd.string w' Ag 0 [] ∧ 0 ≤ cv ∧ Kd.C k98 w' Av 0 [] ∧ Below w.heap.size w w' :=
  so_ok cs hs nm A c w hSH hC hc ⟨#[]⟩ [] [] false 0 (by rw [hi]; rfl)
theorem so_bad (cs : List Cmd) (hs : small19 cs) (nm : List UInt8) (hi : isU cs nm = true) (hu : callU cs = none) (A : Option Addr) (c : Nat) (w : World) (hSH : Shp w) (hC : Kd.C k124 w A cs.length (cs.map toS)) (hc : cs.length ≤ c) :
    Calls Try.prog 19 #[.slice A cs.length c, .string (B nm)] w fun e w' => ∃ Ag cg Av cv, e = .returned (.tuple #[.agg #[.string ⟨#[]⟩, .slice Ag 0 cg, .slice Av 0 cv], .bool true, .int .i64 1]) ∧ 0 ≤ cg ∧ Kd.C Kd.string w' Ag 0 [] ∧ 0 ≤ cv ∧ Kd.C k98 w' Av 0 [] ∧ Below w.heap.size w w' :=
  so_ok cs hs nm A c w hSH hC hc ⟨#[]⟩ [] [] true 1 (by rw [hi, hu]; rfl)
theorem so_some (cs : List Cmd) (hs : small19 cs) (nm : List UInt8) (hi : isU cs nm = true) {x : CallU} (hu : callU cs = some x) (A : Option Addr) (c : Nat) (w : World) (hSH : Shp w) (hC : Kd.C k124 w A cs.length (cs.map toS)) (hc : cs.length ≤ c) :
    Calls Try.prog 19 #[.slice A cs.length c, .string (B nm)] w fun e w' => ∃ Ag cg Av cv, e = .returned (.tuple #[.agg #[.string (B x.1), .slice Ag x.2.1.length cg, .slice Av x.2.2.length cv], .bool true, .int .i64 0]) ∧ x.2.1.length ≤ cg ∧ Kd.C Kd.string w' Ag x.2.1.length (x.2.1.map B) ∧ x.2.2.length ≤ cv ∧ Kd.C k98 w' Av x.2.2.length (x.2.2.map pS) ∧ Below w.heap.size w w' := by
  have := so_ok cs hs nm A c w hSH hC hc (B x.1) (x.2.1.map B) (x.2.2.map pS) true 0 (by rw [hi, hu]; rfl)
  simp only [List.length_map] at this
  exact this
theorem ro_bad (cs : List Cmd) (hs : small19 cs) (hu : callU cs = none) (A : Option Addr) (c : Nat) (w : World) (hC : Kd.C k132 w A cs.length (cs.map rD)) (hc : cs.length ≤ c) :
    Calls Try.prog 22 #[.slice A cs.length c] w fun e w' => ∃ Ag cg Av cv, e = .returned (.tuple #[.agg #[.string ⟨#[]⟩, .slice Ag 0 cg, .slice Av 0 cv], .bool false]) ∧ 0 ≤ cg ∧ Kd.C Kd.string w' Ag 0 [] ∧ 0 ≤ cv ∧ Kd.C k69 w' Av 0 [] ∧ Below w.heap.size w w' :=
  ro_ok cs hs A c w hC hc ⟨#[]⟩ [] [] false (by rw [hu]; rfl)
theorem ro_some (cs : List Cmd) (hs : small19 cs) {x : CallU} (hu : callU cs = some x) (A : Option Addr) (c : Nat) (w : World) (hC : Kd.C k132 w A cs.length (cs.map rD)) (hc : cs.length ≤ c) :
    Calls Try.prog 22 #[.slice A cs.length c] w fun e w' => ∃ Ag cg Av cv, e = .returned (.tuple #[.agg #[.string (B x.1), .slice Ag x.2.1.length cg, .slice Av x.2.2.length cv], .bool true]) ∧ x.2.1.length ≤ cg ∧ Kd.C Kd.string w' Ag x.2.1.length (x.2.1.map B) ∧ x.2.2.length ≤ cv ∧ Kd.C k69 w' Av x.2.2.length (x.2.2.map pR) ∧ Below w.heap.size w w' := by
  have := ro_ok cs hs A c w hC hc (B x.1) (x.2.1.map B) (x.2.2.map pR) true (by rw [hu]; rfl)
  simp only [List.length_map] at this
  exact this
set_option maxRecDepth 100000 in
set_option maxHeartbeats 8000000 in
theorem lawSubCalls (l nm : List UInt8) (w : World) (hSH : Shp w) : Calls Try.prog 5 #[.string (B l), .string (B nm)] w fun e w' => e = .returned (.bool true) ∧ Below w.heap.size w w' := by
  have hsz : (B l).size = l.length := B_size l
  have hsn : (B nm).size = nm.length := B_size nm
  have HB := Aside0.mk (Below.refl w.heap.size w)
  have HSH := Aside0.mk hSH
  obtain ⟨kl, hlv⟩ := lives19.get
  clear hSH
  by_cases hlong : 1000 < l.length
  · have hl1 : decide ((l.length : Int) > 1000) = true := decide_eq_true (by omega)
    go_enter Try.func5, Try.ntmps5
    go_wp2_with (go_at_call 16; refine (flatironlaw19_lives.calls kl true _ (Shp.below HSH.out HB.out) hlv).mono ?_; rintro e1 w1 ⟨rfl, hb1⟩; replace HB := Aside0.mk (below_step HB.out hb1); clear hb1)
    go_ret
    exact ⟨rfl, HB.out⟩
  · have hl1 : decide ((l.length : Int) > 1000) = false := decide_eq_false (by omega)
    by_cases hlong2 : 100 < nm.length
    · have hl2 : decide ((nm.length : Int) > 100) = true := decide_eq_true (by omega)
      go_enter Try.func5, Try.ntmps5
      go_wp2_with (go_at_call 16; refine (flatironlaw19_lives.calls kl true _ (Shp.below HSH.out HB.out) hlv).mono ?_; rintro e1 w1 ⟨rfl, hb1⟩; replace HB := Aside0.mk (below_step HB.out hb1); clear hb1)
      go_ret
      exact ⟨rfl, HB.out⟩
    · have hl2 : decide ((nm.length : Int) > 100) = false := decide_eq_false (by omega)
      have HL2 := Aside0.mk (show l.length < 500000000 by omega)
      cases hp : parseU l with
      | none =>
        have HP := Aside0.mk hp
        clear hp
        go_enter Try.func5, Try.ntmps5
        go_wp2_with (first | (go_at_call 16; refine (flatironlaw19_lives.calls kl true _ (Shp.below HSH.out HB.out) hlv).mono ?_; rintro e1 w1 ⟨rfl, hb1⟩; replace HB := Aside0.mk (below_step HB.out hb1); clear hb1) | (go_at_call 17; refine (ln_none l HL2.out HP.out _).mono ?_; rintro e2 w2 ⟨A1, c1, rfl, hb2⟩; replace HB := Aside0.mk (below_step HB.out hb2); clear hb2))
        go_ret
        exact ⟨rfl, HB.out⟩
      | some cs =>
        have HS := Aside0.mk (parse_small19 l (by omega) cs hp)
        have HP := Aside0.mk hp
        clear hp
        cases hi : isU cs nm with
        | false =>
          have HI := Aside0.mk hi
          have HU := Aside0.mk True.intro
          clear hi
          go_enter Try.func5, Try.ntmps5
          go_wp2_with (first | (go_at_call 16; refine (flatironlaw19_lives.calls kl true _ (Shp.below HSH.out HB.out) hlv).mono ?_; rintro e1 w1 ⟨rfl, hb1⟩; replace HB := Aside0.mk (below_step HB.out hb1); clear hb1) | (go_at_call 17; refine (ln_some l HL2.out cs HP.out _).mono ?_; rintro e2 w2 ⟨A1, c1, rfl, hc1, hC1, hb2⟩; replace HB := Aside0.mk (below_step HB.out hb2); have C1 := Aside0.mk hC1; have L1 := Aside0.mk hc1; clear hb2 hC1 hc1) | (go_at_call 18; refine (of_ok19 cs HS.out A1 c1 _ C1.out).mono ?_; rintro e3 w3 ⟨A3, c3, rfl, hc3, hC3, hb3⟩; replace HB := Aside0.mk (below_step HB.out hb3); replace C1 := Aside0.mk (Kd.C_below C1.out hb3); have C3 := Aside0.mk hC3; have L3 := Aside0.mk hc3; clear hb3 hC3 hc3) | (go_at_call 19; refine (so_no cs HS.out nm HI.out HU.out A1 c1 _ (Shp.below HSH.out HB.out) C1.out L1.out).mono ?_; rintro e4 w4 ⟨Ag, cg, Av, cv, rfl, hlg, hG, hlv2, hV, hb4⟩; have hb4a := below_alloc hb4 (.cells #[.string (⟨#[]⟩ : ByteArray), .slice Ag 0 cg, .slice Av 0 cv] 57); replace HB := Aside0.mk (below_step HB.out hb4a); replace C1 := Aside0.mk (Kd.C_below C1.out hb4a); replace C3 := Aside0.mk (Kd.C_below C3.out hb4a); have BX := Aside0.mk (blk_new w4 (.cells #[.string (⟨#[]⟩ : ByteArray), .slice Ag 0 cg, .slice Av 0 cv] 57 (0, 0))); have CG := Aside0.mk (And.intro hlg (Kd.C_below hG (below_alloc (Below.refl _ _) (.cells #[.string (⟨#[]⟩ : ByteArray), .slice Ag 0 cg, .slice Av 0 cv] 57)))); have CV := Aside0.mk (And.intro hlv2 (Kd.C_below hV (below_alloc (Below.refl _ _) (.cells #[.string (⟨#[]⟩ : ByteArray), .slice Ag 0 cg, .slice Av 0 cv] 57)))); clear hb4 hb4a hlg hG hlv2 hV) | (go_at_call 20; refine (ri_ok cs HS.out nm A3 c3 _ C3.out L3.out).mono ?_; rintro e5 w5 ⟨rfl, hb5⟩; rw [HI.out]; replace HB := Aside0.mk (below_step HB.out hb5); replace C1 := Aside0.mk (Kd.C_below C1.out hb5); replace C3 := Aside0.mk (Kd.C_below C3.out hb5); replace BX := Aside0.mk (blk_below BX.out hb5); replace CG := Aside0.mk (And.intro CG.out.1 (Kd.C_below CG.out.2 hb5)); replace CV := Aside0.mk (And.intro CV.out.1 (Kd.C_below CV.out.2 hb5)); clear hb5) | (go_at_call 21; refine (si_ok cs HS.out nm A1 c1 _ C1.out L1.out).mono ?_; rintro e6 w6 ⟨rfl, hb6⟩; rw [HI.out]; replace HB := Aside0.mk (below_step HB.out hb6); replace C3 := Aside0.mk (Kd.C_below C3.out hb6); replace BX := Aside0.mk (blk_below BX.out hb6); replace CG := Aside0.mk (And.intro CG.out.1 (Kd.C_below CG.out.2 hb6)); replace CV := Aside0.mk (And.intro CV.out.1 (Kd.C_below CV.out.2 hb6)); have k0 := blk_cell BX.out 0; have k1 := blk_cell BX.out 1; have k2 := blk_cell BX.out 2; clear hb6))
          go_ret
          exact ⟨rfl, HB.out⟩
        | true =>
          have HI := Aside0.mk hi
          clear hi
          cases hu : callU cs with
          | none =>
            have HU := Aside0.mk hu
            clear hu
            go_enter Try.func5, Try.ntmps5
            go_wp2_with (first | (go_at_call 16; refine (flatironlaw19_lives.calls kl true _ (Shp.below HSH.out HB.out) hlv).mono ?_; rintro e1 w1 ⟨rfl, hb1⟩; replace HB := Aside0.mk (below_step HB.out hb1); clear hb1) | (go_at_call 17; refine (ln_some l HL2.out cs HP.out _).mono ?_; rintro e2 w2 ⟨A1, c1, rfl, hc1, hC1, hb2⟩; replace HB := Aside0.mk (below_step HB.out hb2); have C1 := Aside0.mk hC1; have L1 := Aside0.mk hc1; clear hb2 hC1 hc1) | (go_at_call 18; refine (of_ok19 cs HS.out A1 c1 _ C1.out).mono ?_; rintro e3 w3 ⟨A3, c3, rfl, hc3, hC3, hb3⟩; replace HB := Aside0.mk (below_step HB.out hb3); replace C1 := Aside0.mk (Kd.C_below C1.out hb3); have C3 := Aside0.mk hC3; have L3 := Aside0.mk hc3; clear hb3 hC3 hc3) | (go_at_call 19; refine (so_bad cs HS.out nm HI.out HU.out A1 c1 _ (Shp.below HSH.out HB.out) C1.out L1.out).mono ?_; rintro e4 w4 ⟨Ag, cg, Av, cv, rfl, hlg, hG, hlv2, hV, hb4⟩; have hb4a := below_alloc hb4 (.cells #[.string (⟨#[]⟩ : ByteArray), .slice Ag 0 cg, .slice Av 0 cv] 57); replace HB := Aside0.mk (below_step HB.out hb4a); replace C1 := Aside0.mk (Kd.C_below C1.out hb4a); replace C3 := Aside0.mk (Kd.C_below C3.out hb4a); have BX := Aside0.mk (blk_new w4 (.cells #[.string (⟨#[]⟩ : ByteArray), .slice Ag 0 cg, .slice Av 0 cv] 57 (0, 0))); have CG := Aside0.mk (And.intro hlg (Kd.C_below hG (below_alloc (Below.refl _ _) (.cells #[.string (⟨#[]⟩ : ByteArray), .slice Ag 0 cg, .slice Av 0 cv] 57)))); have CV := Aside0.mk (And.intro hlv2 (Kd.C_below hV (below_alloc (Below.refl _ _) (.cells #[.string (⟨#[]⟩ : ByteArray), .slice Ag 0 cg, .slice Av 0 cv] 57)))); clear hb4 hb4a hlg hG hlv2 hV) | (go_at_call 20; refine (ri_ok cs HS.out nm A3 c3 _ C3.out L3.out).mono ?_; rintro e5 w5 ⟨rfl, hb5⟩; rw [HI.out]; replace HB := Aside0.mk (below_step HB.out hb5); replace C1 := Aside0.mk (Kd.C_below C1.out hb5); replace C3 := Aside0.mk (Kd.C_below C3.out hb5); replace BX := Aside0.mk (blk_below BX.out hb5); replace CG := Aside0.mk (And.intro CG.out.1 (Kd.C_below CG.out.2 hb5)); replace CV := Aside0.mk (And.intro CV.out.1 (Kd.C_below CV.out.2 hb5)); clear hb5) | (go_at_call 21; refine (si_ok cs HS.out nm A1 c1 _ C1.out L1.out).mono ?_; rintro e6 w6 ⟨rfl, hb6⟩; rw [HI.out]; replace HB := Aside0.mk (below_step HB.out hb6); replace C3 := Aside0.mk (Kd.C_below C3.out hb6); replace BX := Aside0.mk (blk_below BX.out hb6); replace CG := Aside0.mk (And.intro CG.out.1 (Kd.C_below CG.out.2 hb6)); replace CV := Aside0.mk (And.intro CV.out.1 (Kd.C_below CV.out.2 hb6)); have k0 := blk_cell BX.out 0; have k1 := blk_cell BX.out 1; have k2 := blk_cell BX.out 2; clear hb6) | (go_at_call 22; refine (ro_bad cs HS.out HU.out A3 c3 _ C3.out L3.out).mono ?_; rintro e7 w7 ⟨Ah, ch, Aw, cw, rfl, hlh, hH, hlw, hW, hb7⟩; have hb7a := below_alloc hb7 (.cells #[.string (⟨#[]⟩ : ByteArray), .slice Ah 0 ch, .slice Aw 0 cw] 64); replace HB := Aside0.mk (below_step HB.out hb7a); replace BX := Aside0.mk (blk_below BX.out hb7a); replace CG := Aside0.mk (And.intro CG.out.1 (Kd.C_below CG.out.2 hb7a)); replace CV := Aside0.mk (And.intro CV.out.1 (Kd.C_below CV.out.2 hb7a)); have BY := Aside0.mk (blk_new w7 (.cells #[.string (⟨#[]⟩ : ByteArray), .slice Ah 0 ch, .slice Aw 0 cw] 64 (0, 0))); have CH := Aside0.mk (And.intro hlh (Kd.C_below hH (below_alloc (Below.refl _ _) (.cells #[.string (⟨#[]⟩ : ByteArray), .slice Ah 0 ch, .slice Aw 0 cw] 64)))); have CW := Aside0.mk (And.intro hlw (Kd.C_below hW (below_alloc (Below.refl _ _) (.cells #[.string (⟨#[]⟩ : ByteArray), .slice Ah 0 ch, .slice Aw 0 cw] 64)))); have p0 := blk_cell BX.out 0; have p1 := blk_cell BX.out 1; have p2 := blk_cell BX.out 2; have r0 := blk_cell BY.out 0; have r1 := blk_cell BY.out 1; have r2 := blk_cell BY.out 2; clear hb7 hb7a hlh hH hlw hW))
            go_ret
            exact ⟨rfl, HB.out⟩
          | some x =>
            have HU := Aside0.mk hu
            have HN := Aside0.mk (callU_small cs HS.out x hu)
            clear hu
            go_enter Try.func5, Try.ntmps5
            go_wp2_with (first | (go_at_call 16; refine (flatironlaw19_lives.calls kl true _ (Shp.below HSH.out HB.out) hlv).mono ?_; rintro e1 w1 ⟨rfl, hb1⟩; replace HB := Aside0.mk (below_step HB.out hb1); clear hb1) | (go_at_call 17; refine (ln_some l HL2.out cs HP.out _).mono ?_; rintro e2 w2 ⟨A1, c1, rfl, hc1, hC1, hb2⟩; replace HB := Aside0.mk (below_step HB.out hb2); have C1 := Aside0.mk hC1; have L1 := Aside0.mk hc1; clear hb2 hC1 hc1) | (go_at_call 18; refine (of_ok19 cs HS.out A1 c1 _ C1.out).mono ?_; rintro e3 w3 ⟨A3, c3, rfl, hc3, hC3, hb3⟩; replace HB := Aside0.mk (below_step HB.out hb3); replace C1 := Aside0.mk (Kd.C_below C1.out hb3); have C3 := Aside0.mk hC3; have L3 := Aside0.mk hc3; clear hb3 hC3 hc3) | (go_at_call 19; refine (so_some cs HS.out nm HI.out HU.out A1 c1 _ (Shp.below HSH.out HB.out) C1.out L1.out).mono ?_; rintro e4 w4 ⟨Ag, cg, Av, cv, rfl, hlg, hG, hlv2, hV, hb4⟩; have hb4a := below_alloc hb4 (.cells #[.string (B x.1), .slice Ag x.2.1.length cg, .slice Av x.2.2.length cv] 57); replace HB := Aside0.mk (below_step HB.out hb4a); replace C1 := Aside0.mk (Kd.C_below C1.out hb4a); replace C3 := Aside0.mk (Kd.C_below C3.out hb4a); have BX := Aside0.mk (blk_new w4 (.cells #[.string (B x.1), .slice Ag x.2.1.length cg, .slice Av x.2.2.length cv] 57 (0, 0))); have CG := Aside0.mk (And.intro hlg (Kd.C_below hG (below_alloc (Below.refl _ _) (.cells #[.string (B x.1), .slice Ag x.2.1.length cg, .slice Av x.2.2.length cv] 57)))); have CV := Aside0.mk (And.intro hlv2 (Kd.C_below hV (below_alloc (Below.refl _ _) (.cells #[.string (B x.1), .slice Ag x.2.1.length cg, .slice Av x.2.2.length cv] 57)))); clear hb4 hb4a hlg hG hlv2 hV) | (go_at_call 20; refine (ri_ok cs HS.out nm A3 c3 _ C3.out L3.out).mono ?_; rintro e5 w5 ⟨rfl, hb5⟩; rw [HI.out]; replace HB := Aside0.mk (below_step HB.out hb5); replace C1 := Aside0.mk (Kd.C_below C1.out hb5); replace C3 := Aside0.mk (Kd.C_below C3.out hb5); replace BX := Aside0.mk (blk_below BX.out hb5); replace CG := Aside0.mk (And.intro CG.out.1 (Kd.C_below CG.out.2 hb5)); replace CV := Aside0.mk (And.intro CV.out.1 (Kd.C_below CV.out.2 hb5)); clear hb5) | (go_at_call 21; refine (si_ok cs HS.out nm A1 c1 _ C1.out L1.out).mono ?_; rintro e6 w6 ⟨rfl, hb6⟩; rw [HI.out]; replace HB := Aside0.mk (below_step HB.out hb6); replace C3 := Aside0.mk (Kd.C_below C3.out hb6); replace BX := Aside0.mk (blk_below BX.out hb6); replace CG := Aside0.mk (And.intro CG.out.1 (Kd.C_below CG.out.2 hb6)); replace CV := Aside0.mk (And.intro CV.out.1 (Kd.C_below CV.out.2 hb6)); have k0 := blk_cell BX.out 0; have k1 := blk_cell BX.out 1; have k2 := blk_cell BX.out 2; clear hb6) | (go_at_call 22; refine (ro_some cs HS.out HU.out A3 c3 _ C3.out L3.out).mono ?_; rintro e7 w7 ⟨Ah, ch, Aw, cw, rfl, hlh, hH, hlw, hW, hb7⟩; have hb7a := below_alloc hb7 (.cells #[.string (B x.1), .slice Ah x.2.1.length ch, .slice Aw x.2.2.length cw] 64); replace HB := Aside0.mk (below_step HB.out hb7a); replace BX := Aside0.mk (blk_below BX.out hb7a); replace CG := Aside0.mk (And.intro CG.out.1 (Kd.C_below CG.out.2 hb7a)); replace CV := Aside0.mk (And.intro CV.out.1 (Kd.C_below CV.out.2 hb7a)); have BY := Aside0.mk (blk_new w7 (.cells #[.string (B x.1), .slice Ah x.2.1.length ch, .slice Aw x.2.2.length cw] 64 (0, 0))); have CH := Aside0.mk (And.intro hlh (Kd.C_below hH (below_alloc (Below.refl _ _) (.cells #[.string (B x.1), .slice Ah x.2.1.length ch, .slice Aw x.2.2.length cw] 64)))); have CW := Aside0.mk (And.intro hlw (Kd.C_below hW (below_alloc (Below.refl _ _) (.cells #[.string (B x.1), .slice Ah x.2.1.length ch, .slice Aw x.2.2.length cw] 64)))); have p0 := blk_cell BX.out 0; have p1 := blk_cell BX.out 1; have p2 := blk_cell BX.out 2; have r0 := blk_cell BY.out 0; have r1 := blk_cell BY.out 1; have r2 := blk_cell BY.out 2; clear hb7 hb7a hlh hH hlw hW))
            have hd7 : Below ((w7.alloc (.cells #[.string (B x.1), .slice Ah x.2.1.length ch, .slice Aw x.2.2.length cw] 64))).heap.size (w7.alloc (.cells #[.string (B x.1), .slice Ah x.2.1.length ch, .slice Aw x.2.2.length cw] 64)) ((w7.alloc (.cells #[.string (B x.1), .slice Ah x.2.1.length ch, .slice Aw x.2.2.length cw] 64))).drew := below_drew (Below.refl _ _); have d0 : ((w7.alloc (.cells #[.string (B x.1), .slice Ah x.2.1.length ch, .slice Aw x.2.2.length cw] 64))).drew.cell? ⟨w4.heap.size, 0, none⟩ = some (.string (B x.1)) := blk_cell BX.out 0; have d1 : ((w7.alloc (.cells #[.string (B x.1), .slice Ah x.2.1.length ch, .slice Aw x.2.2.length cw] 64))).drew.cell? ⟨w4.heap.size, 1, none⟩ = some (.slice Ag x.2.1.length cg) := blk_cell BX.out 1; have v0 : ((w7.alloc (.cells #[.string (B x.1), .slice Ah x.2.1.length ch, .slice Aw x.2.2.length cw] 64))).drew.cell? ⟨w7.heap.size, 0, none⟩ = some (.string (B x.1)) := blk_cell BY.out 0; have v1 : ((w7.alloc (.cells #[.string (B x.1), .slice Ah x.2.1.length ch, .slice Aw x.2.2.length cw] 64))).drew.cell? ⟨w7.heap.size, 1, none⟩ = some (.slice Ah x.2.1.length ch) := blk_cell BY.out 1
            go_region_with (first | (go_at_call 14; refine (eqs_ok (x.2.1.map B) x.2.1.length (List.length_map _) (by have := HN.out.1; omega) Ag Ah cg ch _ (Kd.C_below CG.out.2 hd7) CG.out.1 (Kd.C_below CH.out.2 hd7) CH.out.1).mono ?_; rintro e8 w8 ⟨rfl, hb8⟩; have HB8 := Aside0.mk (below_step (below_step HB.out hd7) hb8); have BX8 := Aside0.mk (blk_below (blk_below BX.out hd7) hb8); have BY8 := Aside0.mk (blk_below (blk_below BY.out hd7) hb8); have CV8 := Aside0.mk (Kd.C_below (Kd.C_below CV.out.2 hd7) hb8); have CW8 := Aside0.mk (Kd.C_below (Kd.C_below CW.out.2 hd7) hb8); have x2 := blk_cell BX8.out 2; have y2 := blk_cell BY8.out 2; clear hb8) | (go_at_call 24; refine (prs_ok x.2.2 x.2.2.length rfl (by have := HN.out.2; omega) Av cv _ CV8.out CV.out.1).mono ?_; rintro e9 w9 ⟨Ap, cp, rfl, hlp, hP, hb9⟩; have HB9 := Aside0.mk (below_step HB8.out hb9); have BY9 := Aside0.mk (blk_below BY8.out hb9); have CW9 := Aside0.mk (Kd.C_below CW8.out hb9); have CP9 := Aside0.mk hP; have LP9 := Aside0.mk hlp; have z2 := blk_cell BY9.out 2; clear hb9 hP hlp) | (go_at_call 23; refine (eqp_ok (x.2.2.map pR) x.2.2.length (List.length_map _) (by have := HN.out.2; omega) Ap Aw cp cw _ CP9.out LP9.out CW9.out CW.out.1).mono ?_; rintro e10 w10 ⟨rfl, hb10⟩; have HB10 := Aside0.mk (below_step HB9.out hb10); clear hb10))
            all_goals
              go_wp2
              go_ret
              exact ⟨rfl, HB10.out⟩
def flatironlaw19_SubCalls.f (_k : Nat) (a0 a1 : ByteArray) : Option Bool := if a0.size ≤ 140737488351232 ∧ a1.size ≤ 140737488351232 then some true else none
theorem flatironlaw19_SubCalls.calls (k : Nat) (a0 a1 : ByteArray) (r : Bool) (w : World) (hSH : Shp w) (h : flatironlaw19_SubCalls.f k a0 a1 = some r) :
    Calls Try.prog 5 #[.string a0, .string a1] w fun e w' => e = .returned (.bool r) ∧ Below w.heap.size w w' := by
  unfold flatironlaw19_SubCalls.f at h
  by_cases hs : a0.size ≤ 140737488351232 ∧ a1.size ≤ 140737488351232
  case neg => rw [if_neg hs] at h; exact absurd h (by simp)
  rw [if_pos hs] at h
  obtain rfl := Option.some.inj h
  obtain ⟨l, rfl, _⟩ := ex_B a0
  obtain ⟨nm, rfl, _⟩ := ex_B a1
  exact lawSubCalls l nm w hSH
end Go.Proofs.Ytmpheeanjjfddaa.X
/- A slice of strings that came in, as a law's row reads it: its cells, and its length by the row's weight. -/
namespace Go.Proofs.Ytmpheeanjjfddaa.X
open Go.RowKit Go.ChangeShapes Go.WideShapes Go.Proofs.YtmpheeanjjfddaaW.PrintWords

theorem add_cell (x : Addr) (i : Nat) (w : World) (v : Value) (h : w.cell? (x.add i) = some v) : w.cell? (x.add (i * 1 + 0)) = some v := by simpa using h

theorem mem_weightsAll {H : Type} {P : Program} {e : TypeId} {y : ByteArray} : ∀ {l : List ByteArray}, y ∈ l → y.size ∈ DataW.weightsAll P e (strs (H := H) l)
  | x :: r, h => by
    have e1 : strs (H := H) (x :: r) = .lit (.string x.data.toList) :: strs r := rfl
    rw [e1]
    simp only [DataW.weightsAll, DataW.weights]
    rcases List.mem_cons.1 h with rfl | h
    · exact List.mem_append_left _ (List.mem_singleton.2 (by rw [Array.length_toList]; rfl))
    · exact List.mem_append_right _ (mem_weightsAll h)

/-- What a slice of strings holds. -/
theorem strings_open {H : Type} {enc : TypeId × Value → H} {P : Program} {W : World} {base : Nat} {spare : Nat → Bool} {held : Bool} {t e : TypeId} {a : Option Addr} {len cap : Nat} {d : DataW H} {ps : List MemPlace} {ts : List TypeId} {ds : List (DataW H)} {j : Nat}
    (hsz : (DataW.weightsEach P ts ds).all (· ≤ reachBytes) = true) (ht : ts[j]? = some t) (hd : ds[j]? = some d) (hu : P.underlying t = some (.slice e)) (he : P.underlying e = some .string) (hc : P.cellsOf e = 1) {B : Nat} (hB : P.bytesOf e = B)
    (h : DataW.Trod enc P W base spare held t (.slice a len cap) d ps) :
    ∃ l : List ByteArray, len = l.length ∧ Kd.C Kd.string W a l.length l ∧ l.length ≤ cap ∧ l.length * B ≤ 140737488351232 ∧ ∀ x ∈ l, x.size ≤ 140737488351232 := by
  obtain ⟨fuel, hf⟩ := h
  rcases open_strings hu he hc hf with ⟨hcs, _⟩ | ⟨x, l, c, ss, hcs, _, hl, hm, hz, hx, hcell, hwz⟩
  · simp [Value.cells] at hcs
    obtain ⟨rfl, rfl, rfl⟩ := hcs
    exact ⟨[], rfl, ⟨rfl, by simp, fun h => by simp at h⟩, Nat.le_refl _, by simp, by simp⟩
  · simp [Value.cells] at hcs
    obtain ⟨rfl, rfl, rfl⟩ := hcs
    have hle : len ≤ ss.length := by
      rw [hz]; split
      · exact hl
      · exact Nat.le_refl _
    have hlen : (ss.take len).length = len := by simp; omega
    obtain ⟨hx, _⟩ := Prod.mk.inj hx
    subst hx
    have z := sized_slice hsz ht hd hu
    rw [hB] at z
    have h1 : (strs (H := H) (ss.take len)).length + (strs (H := H) (ss.drop len)).length = ss.length := by
      simp [strs]; omega
    rw [h1] at z
    unfold maxLen at hm
    refine ⟨ss.take len, hlen.symm, ⟨rfl, by omega, fun _ => ⟨x, rfl, fun j p hj => ⟨[.string p], rfl, rfl, fun i u hi => ?_⟩⟩⟩, by omega, by rw [hlen]; exact Nat.le_trans (Nat.mul_le_mul_right _ hle) z, fun y hy => ?_⟩
    rotate_left
    · have hm := DataW.weights_mem_each ht hd (P := P) y.size (by
        simp only [DataW.weights, hu]
        exact List.mem_cons_of_mem _ (List.mem_append_left _ (mem_weightsAll hy)))
      have := List.all_eq_true.1 hsz _ hm
      exact of_decide_eq_true this
    have hj' : j < (ss.take len).length := (List.getElem?_eq_some_iff.1 hj).1
    have hi0 : i = 0 := by
      have := (List.getElem?_eq_some_iff.1 hi).1
      simp at this; exact this
    subst hi0
    have hu' : u = .string p := by simpa using hi.symm
    subst hu'
    have hp : ss.getD j ByteArray.empty = p := by
      have h2 := (List.getElem?_eq_some_iff.1 hj).2
      rw [List.getElem_take] at h2
      rw [← h2]; simp [List.getD, show j < ss.length by omega]
    have := hcell j (by omega)
    rw [hp] at this
    exact add_cell x j W _ this
end Go.Proofs.Ytmpheeanjjfddaa.X
/- SubCalls answers true for every line and name: all of it stands in the law's walk. -/
namespace Go.Proofs.Ytmpheeanjjfddaa.Pure
theorem SubCalls (a0 a1 : ByteArray) (h0 : a0.size ≤ 140737488351232) (h1 : a1.size ≤ 140737488351232) : ∃ k, X.flatironlaw19_SubCalls.f k a0 a1 = some true :=
  ⟨0, by unfold X.flatironlaw19_SubCalls.f; rw [if_pos ⟨h0, h1⟩]⟩
end Go.Proofs.Ytmpheeanjjfddaa.Pure
/- The row of the law SubCalls: for every input that can be read the call returns true and its arguments read as before; out of the law's contract and its pure statement; no condition. -/
namespace Go.Proofs.Ytmpheeanjjfddaa.subCalls
open Go.ChangeShapes Go.WideShapes Go.ChangeAt Go.RowKit
open Go.ChangeMaps (open_string shut_string)
set_option linter.unusedVariables false
theorem own : ownKnob Try.prog.godebug = none := by kernel_rfl
set_option maxRecDepth 100000 in
theorem lifted (os : Os) (started : os.Started) (H : Type) (enc : TypeId × Value → H) :
    ReturnsInHanded {} Try.checked os 5 .any (Rows.subCallsSpec.pre6 enc Try.prog Try.f5 Rows.subCallsRow.domain false) (Rows.subCallsSpec.post enc Try.prog Try.f5 false true false false) := by
  refine returnsInHanded_of_change_shaped (C := Try.checked) own started (by kernel_rfl) Try.func5
    (ChangeSpec.witness6 (enc := enc) (C := Try.checked) false ⟨#[], #[.string ByteArray.empty, .string ByteArray.empty], []⟩ 8 (by kernel_rfl) (by kernel_rfl) (by kernel_rfl) (by kernel_rfl)) ?_
  intro W base args ds gs before hval0 hW hcnd hsz0 hsh _
  have hsz : (DataW.weightsEach Try.prog (Try.f5.params.toList ++ Rows.subCallsSpec.plain.varTypes Try.prog) (ds ++ gs)).all (· ≤ reachBytes) = true := hsz0
  have hval : ∀ (j : Nat) t v, Try.f5.params[j]? = some t → args[j]? = some v → Value.okWide Try.prog W .any base t v := hval0
  have hW' := hW
  obtain ⟨p, q, hA0, hV, rfl, hfz, hnd⟩ := hW
  have hA : DataW.TrodAll enc Try.prog W 0 (fun _ => true) true Try.f5.params.toList args.toList ds p := hA0
  rw [Try.params5] at hA hval hsz
  obtain ⟨v0, vs0, d0, ds0, p0, q0, hargs, rfl, rfl, h0, r0⟩ := trodAll_cons hA
  obtain ⟨v1, vs1, d1, ds1, p1, q1, rfl, rfl, rfl, h1, r1⟩ := trodAll_cons r0
  obtain ⟨rfl, rfl, rfl⟩ := trodAll_nil r1
  obtain rfl : args = #[v0, v1] := by cases args; simp_all
  obtain ⟨rfl, rfl⟩ := trodVars_none hV
  obtain ⟨a0, rfl, rfl, rfl, y0⟩ := open_string Try.underlying9 (hval 0 9 v0 rfl rfl) h0
  have w0 : a0.size ≤ 140737488351232 := by
    have z := sized_string hsz (j := 0) (t := 9) rfl rfl
    rw [Array.length_toList] at z
    exact z
  obtain ⟨a1, rfl, rfl, rfl, y1⟩ := open_string Try.underlying9 (hval 1 9 v1 rfl rfl) h1
  have w1 : a1.size ≤ 140737488351232 := by
    have z := sized_string hsz (j := 1) (t := 9) rfl rfl
    rw [Array.length_toList] at z
    exact z
  clear hA0 hval0 hsz0 hsz
  obtain ⟨k, hp⟩ := Pure.SubCalls a0 a1 w0 w1
  refine (X.flatironlaw19_SubCalls.calls k a0 a1 true W (X.Shp.of_shaped hsh)  hp).mono fun e W' ⟨he, bel0⟩ => ?_
  have bel : Below W.heap.size W W' := bel0
  subst he
  exact ⟨_, rfl, _, _, _, [], _, [], hW', trodAll_mk1 (shut_bool Try.underlying4 _), (trodAll_cons_mk (shut_string Try.underlying9 y0) (trodAll_cons_mk (shut_string Try.underlying9 y1) trodAll_mk0)), rfl, bel.frame _, fun h => by cases h⟩
theorem over : Rows.subCallsRow.holds Try.pinned (OpenSpec.ofChange Rows.subCallsSpec) :=
  OpenClaim.holds_of_wide 5 Try.f5 rfl rfl rfl rfl rfl rfl rfl ⟨rfl, rfl, rfl, rfl, rfl⟩ rfl rfl rfl rfl rfl (by kernel_rfl) Try.func5 (by kernel_rfl)
    (of_decide_eq_true (by kernel_rfl)) (by unfold Func.isWrapper; first | (rw [if_pos (by decide +kernel)]; kernel_rfl) | (rw [if_neg (by decide +kernel)]; exact ⟨rfl, rfl⟩))
    (fun os started H enc _ => lifted os started H enc)
theorem proved : Rows.SubCallsSaid := over
#print axioms proved
end Go.Proofs.Ytmpheeanjjfddaa.subCalls
namespace Go.Proofs.Ytmpheeanjjfddaa
/-- The row, under a short name, for the claim. -/
theorem subCalls_holds : Rows.SubCallsSaid := subCalls.proved
end Go.Proofs.Ytmpheeanjjfddaa
