/- Texts of this claim, one behind the other (merged by the session's own program merge.py: a claim bears sixty files): PParseB, XW06x0, XW06x1, XW06x2, XW06x, PParseC, PParseD, HSame, HLawParse, HRow, PureParseLines, LawParseLines. -/
import Derived.Test.YtogbdjboblfokaaDoorProg
import Derived.Below
import Derived.Deep.Draws
import Derived.Deep.AppendLies
import Derived.Maps.AppendAt
import Derived.OwnWalk
import Derived.Laws.BytesArg
import Derived.Laws.MakeOwn
import Derived.Laws.OwnMore
import Derived.Deep.OwnRows
import Derived.Tactics
import Derived.Lib.ConvBytes
import Derived.Laws.Slices
import Derived.WalkKit
import Derived.KernelRfl
import Derived.RowKit3
import Derived.Deep.LoopGhost
import Derived.Deep.QuietTactic
import Derived.BigQuiet
import Derived.WideLaws
import Derived.Deep.DeepCutAuto
import Derived.Deep.CutBlock
import Derived.Deep.RegionHeld3
import Derived.Laws.Rows
import Derived.Lib.AppendStr
import Derived.ArgAppend
import Derived.Laws.IdiomCopy
import Derived.OrdersHeld
import Derived.Laws.BitsLemmas
import Derived.RowKit
import Derived.WalkLawsBesides
import Derived.Test.YtogbdjboblfokaaDoorWWords
import Derived.Test.YtogbdjboblfokaaDoorWLast
import Derived.Test.YtogbdjboblfokaaDoorWTab
import Derived.Test.YtogbdjboblfokaaDoorWFour
import Derived.Test.YtogbdjboblfokaaDoorWQPut
import Derived.Test.YtogbdjboblfokaaDoorWApart
import Derived.Test.YtogbdjboblfokaaDoorWArr
import Derived.Test.YtogbdjboblfokaaDoorWZeros
import Derived.Test.YtogbdjboblfokaaDoorWFoot
import Derived.Test.YtogbdjboblfokaaDoorWKept
import Derived.Test.YtogbdjboblfokaaDoorWShare
import Derived.Test.YtogbdjboblfokaaDoorWN
import Derived.Test.YtogbdjboblfokaaDoorWFootNe
import Derived.Test.YtogbdjboblfokaaDoorWAt
import Derived.Test.YtogbdjboblfokaaDoorWEqStruct
import Derived.Test.YtogbdjboblfokaaDoorWRepsOne
import Derived.Test.YtogbdjboblfokaaDoorWInv
import Derived.Test.YtogbdjboblfokaaDoorWInvWords
import Derived.Test.YtogbdjboblfokaaDoorWGuard
import Derived.Test.YtogbdjboblfokaaDoorWNEv
import Derived.Test.YtogbdjboblfokaaDoorWMore
import Derived.SizedLaws
import Derived.ChangeSlices
import Derived.SliceStrings
import Derived.ProofKit
import Derived.Test.YtogbdjboblfokaaDoorRows
import Derived.Test.YtogbdjboblfokaaDoorCards
import Derived.Test.YtogbdjboblfokaaDoorTie
import Derived.OpenShut
import Derived.ShutString
import Derived.ChangeOld
import Derived.HandedShaped
import Derived.Shelf.Vars
import Derived.Deep.DeepHandedRow
import Derived.Lib.LaidTab
import Derived.Test.YtogbdjboblfokaaDoorZPLC
/- The reference's Line and Right; parse.Right: what they say, over commands. Plain Lean. -/
namespace Go.Proofs.YtogbdjboblfokaaDoor.X
open Go.RowKit Go.Proofs.YtogbdjboblfokaaDoorW.PrintWords Go.Proofs.YtogbdjboblfokaaDoorW.PrintLast Go.Proofs.YtogbdjboblfokaaDoorW.PrintMore Go.Proofs.YtogbdjboblfokaaDoor.XW05 Go.Proofs.YtogbdjboblfokaaDoor.XT06
set_option linter.unusedSimpArgs false
set_option linter.unusedVariables false

def rC (c : Cmd) : S73 := cC (toS c)
def rT (t : Int × List UInt8) : S77 := ⟨t.1, B t.2⟩
theorem rC_eq (c : Cmd) : rC c = ⟨c.on, c.words.map B, c.tos.map rT⟩ := by
  unfold rC cC toS
  simp only [List.map_map]
  rfl
theorem rd75 (T : List Tok) (i : Nat) (h : i < T.length) : rd_T75 (T.map s78) (i : Int) = s78 T[i] := by
  unfold rd_T75
  rw [show ((i : Int)).toNat = i from rfl, List.getD_eq_getElem?_getD, List.getElem?_map, List.getElem?_eq_getElem h]
  rfl
theorem refLine_loop (T : List Tok) (hT : T.length < 1000000000) : ∀ d i (out : List Cmd) (c : Cmd), T.length - i ≤ d → i ≤ T.length → out.length ≤ i → c.words.length ≤ i → c.tos.length ≤ i →
    ∃ r1 : List S73, Ev (fun k => flatironref06_Line.l0 k (T.map s78) (out.map rC) (i : Int) c.on (c.words.map B) (c.tos.map rT)) (r1, (refS out c (T.drop i)).isSome) ∧ ∀ cs, refS out c (T.drop i) = some cs → r1 = cs.map rC := by
  intro d
  induction d with
  | zero =>
    intro i out c hd hi ho hw ht
    have hd0 : T.drop i = [] := List.drop_eq_nil_of_le (by omega)
    rw [hd0, refS_nil]
    by_cases hw0 : c.words = []
    · rw [if_neg (by simp [hw0])]
      by_cases hto : c.tos = []
      · by_cases hon : c.on = 1
        · refine ⟨out.map rC, ?_, fun cs h => ?_⟩
          · rw [if_pos ⟨hto, hon⟩]
            refine Ev.step (fun k => by rw [flatironref06_Line.l0]) ?_
            refine Ev.neg (by rw [List.length_map]; omega) ?_
            refine Ev.neg (by rw [hw0]; simp) ?_
            refine Ev.pos (by rw [hto]; rfl) ?_
            refine Ev.eq (Ev.ret _) ?_
            rw [hon]; rfl
          · rw [if_pos ⟨hto, hon⟩] at h
            rw [Option.some.inj h]
        · refine ⟨out.map rC, ?_, fun cs h => ?_⟩
          · rw [if_neg (fun h => hon h.2)]
            refine Ev.step (fun k => by rw [flatironref06_Line.l0]) ?_
            refine Ev.neg (by rw [List.length_map]; omega) ?_
            refine Ev.neg (by rw [hw0]; simp) ?_
            refine Ev.pos (by rw [hto]; rfl) ?_
            refine Ev.eq (Ev.ret _) ?_
            have : (c.on == 1) = false := by simpa using hon
            rw [this]; rfl
          · rw [if_neg (fun h => hon h.2)] at h
            exact absurd h (by simp)
      · refine ⟨out.map rC, ?_, fun cs h => ?_⟩
        · rw [if_neg (fun h => hto h.1)]
          refine Ev.step (fun k => by rw [flatironref06_Line.l0]) ?_
          refine Ev.neg (by rw [List.length_map]; omega) ?_
          refine Ev.neg (by rw [hw0]; simp) ?_
          refine Ev.neg (by rw [List.length_map]; have := List.length_pos_iff.2 hto; omega) ?_
          exact Ev.ret _
        · rw [if_neg (fun h => hto h.1)] at h
          exact absurd h (by simp)
    · refine ⟨(out ++ [c]).map rC, ?_, fun cs h => ?_⟩
      · rw [if_pos hw0]
        refine Ev.step (fun k => by rw [flatironref06_Line.l0]) ?_
        refine Ev.neg (by rw [List.length_map]; omega) ?_
        refine Ev.pos (by rw [List.length_map]; have := List.length_pos_iff.2 hw0; omega) ?_
        refine Ev.pos (by rw [List.length_map]; omega) ?_
        refine Ev.eq (Ev.ret _) ?_
        rw [List.map_append, List.map_singleton, rC_eq]; rfl
      · rw [if_pos hw0] at h
        rw [Option.some.inj h]
  | succ d ih =>
    intro i out c hd hi ho hw ht
    by_cases hlt : i < T.length
    · rw [drop_get T i hlt]
      have r := rd75 T i hlt
      obtain ⟨k, x, hx⟩ : ∃ k x, T[i] = (k, x) := ⟨_, _, rfl⟩
      rw [hx] at r ⊢
      have hw1 := wrap_succ i (by omega)
      by_cases h0 : k = 0
      · subst h0
        rw [refS_word]
        obtain ⟨r1, e1, e2⟩ := ih (i + 1) out ⟨c.on, c.words ++ [x], c.tos⟩ (by omega) (by omega) (by omega) (by simp; omega) (by show c.tos.length ≤ i + 1; omega)
        refine ⟨r1, ?_, e2⟩
        refine Ev.step (fun k => by rw [flatironref06_Line.l0]) ?_
        rw [r, hw1]
        refine Ev.pos (by rw [List.length_map]; omega) ?_
        refine Ev.pos (by omega) ?_
        refine Ev.pos rfl ?_
        refine Ev.pos (by rw [List.length_map]; omega) ?_
        rw [show c.words.map B ++ [(s78 (0, x)).f1] = (c.words ++ [x]).map B by simp [s78]]
        exact e1
      · have hk0 : ¬ (s78 (k, x)).f0 = 0 := by show ¬ (k : Int) = 0; omega
        by_cases h4 : 4 ≤ k
        · have hk4 : (s78 (k, x)).f0 ≥ 4 := by show (k : Int) ≥ 4; omega
          by_cases hy : ∃ (h : i + 1 < T.length) (y : List UInt8), T[i + 1] = (0, y)
          · obtain ⟨hi1, y, hy⟩ := hy
            have r' := rd75 T (i + 1) hi1
            rw [hy] at r'
            rw [drop_get T (i + 1) hi1, hy, refS_to _ _ k h4]
            obtain ⟨r1, e1, e2⟩ := ih (i + 1 + 1) out ⟨c.on, c.words, c.tos ++ [((k : Int), y)]⟩ (by omega) (by omega) (by omega) (by show c.words.length ≤ _; omega) (by simp; omega)
            refine ⟨r1, ?_, e2⟩
            refine Ev.step (fun k => by rw [flatironref06_Line.l0]) ?_
            rw [r, hw1, r', wrap_succ (i + 1) (by omega)]
            refine Ev.pos (by rw [List.length_map]; omega) ?_
            refine Ev.pos (by omega) ?_
            refine Ev.neg hk0 ?_
            refine Ev.pos hk4 ?_
            refine Ev.neg (by rw [List.length_map]; omega) ?_
            refine Ev.pos (by omega) ?_
            refine Ev.pos (by rw [List.length_map]; omega) ?_
            refine Ev.pos rfl ?_
            refine Ev.pos (by rw [List.length_map]; omega) ?_
            rw [show c.tos.map rT ++ [(⟨(s78 (k, x)).f0, (s78 (0, y)).f1⟩ : S77)] = (c.tos ++ [((k : Int), y)]).map rT by simp [s78, rT]]
            exact e1
          · have hno : ∀ y r', T.drop (i + 1) ≠ (0, y) :: r' := by
              intro y r' e
              have hi1 : i + 1 < T.length := by
                have := congrArg List.length e
                simp at this
                omega
              rw [drop_get T (i + 1) hi1] at e
              injection e with e _
              exact hy ⟨hi1, y, e⟩
            rw [refS_to0 _ _ k h4 x _ hno]
            refine ⟨[], ?_, fun cs h => absurd h (by simp)⟩
            refine Ev.step (fun k => by rw [flatironref06_Line.l0]) ?_
            rw [r, hw1]
            refine Ev.pos (by rw [List.length_map]; omega) ?_
            refine Ev.pos (by omega) ?_
            refine Ev.neg hk0 ?_
            refine Ev.pos hk4 ?_
            by_cases hi1 : i + 1 < T.length
            · have r' := rd75 T (i + 1) hi1
              obtain ⟨ky, y, hyy⟩ : ∃ ky y, T[i + 1] = (ky, y) := ⟨_, _, rfl⟩
              rw [hyy] at r'
              have hky : ¬ ky = 0 := by rintro rfl; exact hy ⟨hi1, y, hyy⟩
              rw [r']
              refine Ev.neg (by rw [List.length_map]; omega) ?_
              refine Ev.pos (by omega) ?_
              refine Ev.pos (by rw [List.length_map]; omega) ?_
              refine Ev.neg (by show ¬ (ky : Int) = 0; omega) ?_
              exact Ev.ret _
            · refine Ev.pos (by rw [List.length_map]; omega) ?_
              exact Ev.ret _
        · have hk4 : ¬ (s78 (k, x)).f0 ≥ 4 := by show ¬ (k : Int) ≥ 4; omega
          rw [refS_end _ _ k h0 h4]
          by_cases hw0 : c.words = []
          · rw [if_pos hw0]
            refine ⟨[], ?_, fun cs h => absurd h (by simp)⟩
            refine Ev.step (fun k => by rw [flatironref06_Line.l0]) ?_
            rw [r, hw1]
            refine Ev.pos (by rw [List.length_map]; omega) ?_
            refine Ev.pos (by omega) ?_
            refine Ev.neg hk0 ?_
            refine Ev.neg hk4 ?_
            refine Ev.pos (by rw [hw0]; rfl) ?_
            exact Ev.ret _
          · rw [if_neg hw0]
            obtain ⟨r1, e1, e2⟩ := ih (i + 1) (out ++ [c]) ⟨(k : Int), [], []⟩ (by omega) (by omega) (by simp; omega) (by simp) (by simp)
            refine ⟨r1, ?_, e2⟩
            refine Ev.step (fun k => by rw [flatironref06_Line.l0]) ?_
            rw [r, hw1]
            refine Ev.pos (by rw [List.length_map]; omega) ?_
            refine Ev.pos (by omega) ?_
            refine Ev.neg hk0 ?_
            refine Ev.neg hk4 ?_
            refine Ev.neg (by rw [List.length_map]; have := List.length_pos_iff.2 hw0; omega) ?_
            refine Ev.pos (by rw [List.length_map]; omega) ?_
            rw [show out.map rC ++ [(⟨c.on, c.words.map B, c.tos.map rT⟩ : S73)] = (out ++ [c]).map rC by rw [List.map_append, List.map_singleton, rC_eq]]
            exact e1
    · obtain ⟨r1, e1, e2⟩ := ih i out c (by omega) hi ho hw ht
      exact ⟨r1, e1, e2⟩
theorem refLine_ev (l : List UInt8) (hl : l.length < 1000000) : ∃ r1 : List S73, Ev (fun k => flatironref06_Line.f k (B l)) (r1, (parseU l).isSome) ∧ ∀ cs, parseU l = some cs → r1 = cs.map rC := by
  have ht := refTokens_ev l (by omega)
  unfold parseU
  cases htk : tokS [] l with
  | none =>
    rw [htk] at ht
    refine ⟨[], ?_, fun cs h => absurd h (by simp)⟩
    refine Ev.congr (fun k => by rw [flatironref06_Line.f]) ?_
    refine Ev.bind ht ?_
    refine Ev.neg (by simp [resF]) ?_
    exact Ev.ret _
  | some T =>
    rw [htk] at ht
    have hlen : T.length ≤ l.length := by
      obtain ⟨h1, _⟩ := tokS_len l.length _ l [] T (Nat.le_refl _) (Nat.le_refl _) (by simp) htk
      simpa using h1
    have hrl : refS [] ⟨1, [], []⟩ T = lineS [] 1 T := refS_line _ T [] 1 (Nat.le_refl _) (.inr rfl)
    obtain ⟨r1, e1, e2⟩ := refLine_loop T (by omega) _ 0 [] ⟨1, [], []⟩ (Nat.le_refl _) (Nat.zero_le _) (by simp) (by simp) (by simp)
    rw [List.drop_zero, hrl] at e1 e2
    refine ⟨r1, ?_, e2⟩
    refine Ev.congr (fun k => by rw [flatironref06_Line.f]) ?_
    refine Ev.bind ht ?_
    refine Ev.pos (by simp [resF]) ?_
    exact e1
end Go.Proofs.YtogbdjboblfokaaDoor.X
/- Laid for this claim by the session's own program xprint.py, over the print of the kit: functions of the program as plain Lean functions, each with a proof that a call comes to what its function says, or the row of a law out of these; no condition of its own. -/
namespace Go.Proofs.YtogbdjboblfokaaDoor.XW06
open Go.Proofs.YtogbdjboblfokaaDoor.X Go.Proofs.YtogbdjboblfokaaDoor.XT06 Go.Proofs.YtogbdjboblfokaaDoor.XW05 Go.RowKit Go.Proofs.YtogbdjboblfokaaDoorW.PrintWords Go.Proofs.YtogbdjboblfokaaDoorW.PrintLast Go.Proofs.YtogbdjboblfokaaDoorW.PrintMore
attribute [local go_sem] cell4_1 cell4_1d max2_int min2_int max_two min_two max_three min_three max_four min_four   -- for this text's walks alone
set_option linter.unusedVariables false
set_option linter.unusedSimpArgs false



def errW : Option Int → Value
  | none => .nilIface
  | some c => .iface 0 (.int .i64 c)
theorem errW_none : errW none = .nilIface := rfl
theorem errW_some (c : Int) : errW (some c) = .iface 0 (.int .i64 c) := rfl

theorem info66 : (Tryd.prog.info? 66).map (fun i => (i.zero, i.size, i.bytes)) = some (some (.agg #[(.int .i64 0), (.string ⟨#[]⟩)]), 2, 24) := by kernel_rfl
-- the values' own types
def rd_L2 (xs : List (List ByteArray)) (i : Int) : (List ByteArray) := xs.getD i.toNat ([] : List ByteArray)
theorem at_L2 {w : World} {A : Option Addr} {n : Nat} {xs : List (List ByteArray)} (h : Kd.C (Kd.slice 9 Kd.string) w A n xs) (i : Int) (h0 : 0 ≤ i) (h1 : i < n) : ∃ ad A0 c0, A = some ad ∧ w.cell? (ad.add i.toNat) = some (.slice A0 (rd_L2 xs i).length c0) ∧ (rd_L2 xs i).length ≤ c0 ∧ Kd.string.C w A0 (rd_L2 xs i).length (rd_L2 xs i) := by
  obtain ⟨ad, c, e, _, hK, hc0⟩ := Kd.C_get h ([] : List ByteArray) i h0 h1
  have hc : ∀ j u, c[j]? = some u → w.cell? (ad.add (i.toNat * 1 + j)) = some u := hc0
  obtain ⟨A0, c0, rfl, l0, g0⟩ := hK
  exact ⟨ad, A0, c0, e, by have hq := hc 0 _ rfl; rwa [Nat.mul_one, Nat.add_zero] at hq, l0, g0⟩

end Go.Proofs.YtogbdjboblfokaaDoor.XW06
/- Laid for this claim by the session's own program xprint.py, over the print of the kit: functions of the program as plain Lean functions, each with a proof that a call comes to what its function says, or the row of a law out of these; no condition of its own. -/
namespace Go.Proofs.YtogbdjboblfokaaDoor.XW06
open Go.Proofs.YtogbdjboblfokaaDoor.X Go.Proofs.YtogbdjboblfokaaDoor.XT06 Go.Proofs.YtogbdjboblfokaaDoor.XW05 Go.RowKit Go.Proofs.YtogbdjboblfokaaDoorW.PrintWords Go.Proofs.YtogbdjboblfokaaDoorW.PrintLast Go.Proofs.YtogbdjboblfokaaDoorW.PrintMore
attribute [local go_sem] cell4_1 cell4_1d max2_int min2_int max_two min_two max_three min_three max_four min_four   -- for this text's walks alone
set_option linter.unusedVariables false
set_option linter.unusedSimpArgs false

theorem eqA42 (d : Nat) (w : World) (x0 y0 : Int) (x1 y1 : ByteArray) :
    (Op.equalIn (d + 2) 42 (.agg #[.int .i64 x0, .string x1]) (.agg #[.int .i64 y0, .string y1])).run Tryd.prog w = .ok (x0 == y0 && (x1.toList == y1.toList)) w := by
  refine eqA_of Tryd.underlying42 (by kernel_rfl) ?_
  refine eqf_cons (by rfl) (by go_simp; rfl) (by go_simp; rfl) (by go_simp) ?_
  exact eqf_last (by rfl) (by go_simp; rfl) (by go_simp; rfl) (by go_simp)
end Go.Proofs.YtogbdjboblfokaaDoor.XW06
/- Laid for this claim by the session's own program xprint.py, over the print of the kit: functions of the program as plain Lean functions, each with a proof that a call comes to what its function says, or the row of a law out of these; no condition of its own. -/
namespace Go.Proofs.YtogbdjboblfokaaDoor.XW06
open Go.Proofs.YtogbdjboblfokaaDoor.X Go.Proofs.YtogbdjboblfokaaDoor.XT06 Go.Proofs.YtogbdjboblfokaaDoor.XW05 Go.RowKit Go.Proofs.YtogbdjboblfokaaDoorW.PrintWords Go.Proofs.YtogbdjboblfokaaDoorW.PrintLast Go.Proofs.YtogbdjboblfokaaDoorW.PrintMore
attribute [local go_sem] cell4_1 cell4_1d max2_int min2_int max_two min_two max_three min_three max_four min_four   -- for this text's walks alone
set_option linter.unusedVariables false
set_option linter.unusedSimpArgs false

attribute [local go_sem high] eqA42
/-! ### parse_Show: function 9 -/
mutual
def parse_Show.l0 : Nat → List (S66) → List (S40) → Int → Int → Option (ByteArray × Int)
  | 0, _, _, _, _ => none
  | k + 1, x4, x14, x15, x16 => if x16 < x15 then (if 0 ≤ x16 then (if x16 < (x14.length : Int) then (if x16 > 0 then (if x4.length < 5864062014805 then (parse_Show.j1 k (x4 ++ [(⟨(rd_T40 x14 x16).f0, (⟨#[]⟩ : ByteArray)⟩ : S66)]) x14 x15 x16 ((rd_T40 x14 x16).f0) ((rd_T40 x14 x16).f1) ((rd_T40 x14 x16).f2)) else (none)) else (parse_Show.j1 k x4 x14 x15 x16 ((rd_T40 x14 x16).f0) ((rd_T40 x14 x16).f1) ((rd_T40 x14 x16).f2))) else (none)) else (none)) else ((lex_Show.f k x4).bind fun t102 => (some (t102, 0)))
def parse_Show.j1 : Nat → List (S66) → List (S40) → Int → Int → Int → List ByteArray → List (S42) → Option (ByteArray × Int)
  | 0, _, _, _, _, _, _, _ => none
  | k + 1, x4, x14, x15, x16, x105000, x105001, x105002 => parse_Show.l1 k x4 x14 x15 x16 x105001 (x105001.length : Int) 0 x105000 x105001 x105002
def parse_Show.l1 : Nat → List (S66) → List (S40) → Int → Int → List ByteArray → Int → Int → Int → List ByteArray → List (S42) → Option (ByteArray × Int)
  | 0, _, _, _, _, _, _, _, _, _, _ => none
  | k + 1, x4, x14, x15, x16, x30, x31, x32, x105000, x105001, x105002 => if x32 < x31 then (if 0 ≤ x32 then (if x32 < (x30.length : Int) then (if x4.length < 5864062014805 then (parse_Show.l1 k (x4 ++ [(⟨0, rdOf ByteArray.empty x30 x32⟩ : S66)]) x14 x15 x16 x30 x31 (wrap64 (x32 + 1)) x105000 x105001 x105002) else (none)) else (none)) else (none)) else (parse_Show.l2 k x4 x14 x15 x16 x105002 (x105002.length : Int) 0)
def parse_Show.l2 : Nat → List (S66) → List (S40) → Int → Int → List (S42) → Int → Int → Option (ByteArray × Int)
  | 0, _, _, _, _, _, _, _ => none
  | k + 1, x4, x14, x15, x16, x43, x44, x45 => if x45 < x44 then (if 0 ≤ x45 then (if x45 < (x43.length : Int) then ((some (([(⟨(rd_T42 x43 x45).f0, (⟨#[]⟩ : ByteArray)⟩ : S66), (⟨0, (rd_T42 x43 x45).f1⟩ : S66)] : List (S66)) : List (S66))).bind fun y114 => (if x4.length + y114.length < 5864062014805 then (parse_Show.l2 k (x4 ++ y114) x14 x15 x16 x43 x44 (wrap64 (x45 + 1))) else (none))) else (none)) else (none)) else (parse_Show.l0 k x4 x14 x15 (wrap64 (x16 + 1)))
end
def parse_Show.f (k : Nat) (l0 : List (S40)) : Option (ByteArray × Int) := (parse_Right.f l0).bind fun t101 => (if t101 = true then (parse_Show.l0 k ([] : List (S66)) l0 (l0.length : Int) 0) else (some ((⟨#[]⟩ : ByteArray), 1)))
theorem parse_Show.mono_l : ∀ k, (∀ y0 y1 y2 y3, LeO (parse_Show.l0 k y0 y1 y2 y3) (parse_Show.l0 (k + 1) y0 y1 y2 y3)) ∧ (∀ y0 y1 y2 y3 y4 y5 y6, LeO (parse_Show.j1 k y0 y1 y2 y3 y4 y5 y6) (parse_Show.j1 (k + 1) y0 y1 y2 y3 y4 y5 y6)) ∧ (∀ y0 y1 y2 y3 y4 y5 y6 y7 y8 y9, LeO (parse_Show.l1 k y0 y1 y2 y3 y4 y5 y6 y7 y8 y9) (parse_Show.l1 (k + 1) y0 y1 y2 y3 y4 y5 y6 y7 y8 y9)) ∧ (∀ y0 y1 y2 y3 y4 y5 y6, LeO (parse_Show.l2 k y0 y1 y2 y3 y4 y5 y6) (parse_Show.l2 (k + 1) y0 y1 y2 y3 y4 y5 y6))
  | 0 => ⟨fun _ _ _ _ r h => by simp [parse_Show.l0] at h, fun _ _ _ _ _ _ _ r h => by simp [parse_Show.j1] at h, fun _ _ _ _ _ _ _ _ _ _ r h => by simp [parse_Show.l1] at h, fun _ _ _ _ _ _ _ r h => by simp [parse_Show.l2] at h⟩
  | k + 1 => by
    obtain ⟨ih0, ih1, ih2, ih3⟩ := parse_Show.mono_l k
    refine ⟨?_, ?_, ?_, ?_⟩
    · intro y0 y1 y2 y3
      unfold parse_Show.l0
      repeat' first
      | (with_reducible exact ih0 _ _ _ _)
      | (with_reducible exact ih1 _ _ _ _ _ _ _)
      | (with_reducible exact ih2 _ _ _ _ _ _ _ _ _ _)
      | (with_reducible exact ih3 _ _ _ _ _ _ _)
      | (with_reducible exact lex_Show.mono _ _)
      | (with_reducible exact LeO.refl _)
      | (with_reducible exact LeO.none _)
      | (with_reducible refine LeO.ite ?_ ?_)
      | (with_reducible refine LeO.bind ?_ (fun _ => ?_))
      | exact ih0 _ _ _ _
      | exact ih1 _ _ _ _ _ _ _
      | exact ih2 _ _ _ _ _ _ _ _ _ _
      | exact ih3 _ _ _ _ _ _ _
      | exact lex_Show.mono _ _
      | exact LeO.none _
      | refine LeO.ite ?_ ?_
      | refine LeO.bind ?_ (fun _ => ?_)
    · intro y0 y1 y2 y3 y4 y5 y6
      unfold parse_Show.j1
      repeat' first
      | (with_reducible exact ih0 _ _ _ _)
      | (with_reducible exact ih1 _ _ _ _ _ _ _)
      | (with_reducible exact ih2 _ _ _ _ _ _ _ _ _ _)
      | (with_reducible exact ih3 _ _ _ _ _ _ _)
      | (with_reducible exact lex_Show.mono _ _)
      | (with_reducible exact LeO.refl _)
      | (with_reducible exact LeO.none _)
      | (with_reducible refine LeO.ite ?_ ?_)
      | (with_reducible refine LeO.bind ?_ (fun _ => ?_))
      | exact ih0 _ _ _ _
      | exact ih1 _ _ _ _ _ _ _
      | exact ih2 _ _ _ _ _ _ _ _ _ _
      | exact ih3 _ _ _ _ _ _ _
      | exact lex_Show.mono _ _
      | exact LeO.none _
      | refine LeO.ite ?_ ?_
      | refine LeO.bind ?_ (fun _ => ?_)
    · intro y0 y1 y2 y3 y4 y5 y6 y7 y8 y9
      unfold parse_Show.l1
      repeat' first
      | (with_reducible exact ih0 _ _ _ _)
      | (with_reducible exact ih1 _ _ _ _ _ _ _)
      | (with_reducible exact ih2 _ _ _ _ _ _ _ _ _ _)
      | (with_reducible exact ih3 _ _ _ _ _ _ _)
      | (with_reducible exact lex_Show.mono _ _)
      | (with_reducible exact LeO.refl _)
      | (with_reducible exact LeO.none _)
      | (with_reducible refine LeO.ite ?_ ?_)
      | (with_reducible refine LeO.bind ?_ (fun _ => ?_))
      | exact ih0 _ _ _ _
      | exact ih1 _ _ _ _ _ _ _
      | exact ih2 _ _ _ _ _ _ _ _ _ _
      | exact ih3 _ _ _ _ _ _ _
      | exact lex_Show.mono _ _
      | exact LeO.none _
      | refine LeO.ite ?_ ?_
      | refine LeO.bind ?_ (fun _ => ?_)
    · intro y0 y1 y2 y3 y4 y5 y6
      unfold parse_Show.l2
      repeat' first
      | (with_reducible exact ih0 _ _ _ _)
      | (with_reducible exact ih1 _ _ _ _ _ _ _)
      | (with_reducible exact ih2 _ _ _ _ _ _ _ _ _ _)
      | (with_reducible exact ih3 _ _ _ _ _ _ _)
      | (with_reducible exact lex_Show.mono _ _)
      | (with_reducible exact LeO.refl _)
      | (with_reducible exact LeO.none _)
      | (with_reducible refine LeO.ite ?_ ?_)
      | (with_reducible refine LeO.bind ?_ (fun _ => ?_))
      | exact ih0 _ _ _ _
      | exact ih1 _ _ _ _ _ _ _
      | exact ih2 _ _ _ _ _ _ _ _ _ _
      | exact ih3 _ _ _ _ _ _ _
      | exact lex_Show.mono _ _
      | exact LeO.none _
      | refine LeO.ite ?_ ?_
      | refine LeO.bind ?_ (fun _ => ?_)
theorem parse_Show.mono : ∀ a0 k, LeO (parse_Show.f k a0) (parse_Show.f (k + 1) a0) := by
  intro a0 k
  obtain ⟨ih0, ih1, ih2, ih3⟩ := parse_Show.mono_l k
  unfold parse_Show.f
  repeat' first
      | (with_reducible exact ih0 _ _ _ _)
      | (with_reducible exact ih1 _ _ _ _ _ _ _)
      | (with_reducible exact ih2 _ _ _ _ _ _ _ _ _ _)
      | (with_reducible exact ih3 _ _ _ _ _ _ _)
      | (with_reducible exact lex_Show.mono _ _)
      | (with_reducible exact LeO.refl _)
      | (with_reducible exact LeO.none _)
      | (with_reducible refine LeO.ite ?_ ?_)
      | (with_reducible refine LeO.bind ?_ (fun _ => ?_))
      | exact ih0 _ _ _ _
      | exact ih1 _ _ _ _ _ _ _
      | exact ih2 _ _ _ _ _ _ _ _ _ _
      | exact ih3 _ _ _ _ _ _ _
      | exact lex_Show.mono _ _
      | exact LeO.none _
      | refine LeO.ite ?_ ?_
      | refine LeO.bind ?_ (fun _ => ?_)
set_option maxHeartbeats 8000000 in
set_option maxRecDepth 100000 in
theorem parse_Show.calls (k : Nat) (A0 : Option Addr) (c0 : Nat) (l0 : List (S40)) (r1 : ByteArray) (r2 : Int) (w : World) (hSH : Shp w) (hr0 : Kd.C k40 w A0 l0.length l0) (hc0 : l0.length ≤ c0) (h : parse_Show.f k l0 = some (r1, r2)) :
    Calls Tryd.prog 9 #[.slice A0 l0.length c0] w fun e w' => e = .returned (.tuple #[.string r1, .int .i64 r2]) ∧ Below w.heap.size w w' := by
  have hu40 := Tryd.underlying40
  have hu66 := Tryd.underlying66
  have hu42 := Tryd.underlying42
  have HSH := Aside0.mk hSH
  clear hSH
  have HR0 := Aside0.mk hr0
  have HC0 := Aside0.mk hc0
  clear hr0 hc0
  have HB := Aside0.mk (Below.refl w.heap.size w)
  have H : ((parse_Right.f l0).bind fun t101 => (if t101 = true then (parse_Show.l0 k ([] : List (S66)) l0 (l0.length : Int) 0) else (some ((⟨#[]⟩ : ByteArray), 1)))) = some (r1, r2) := h
  clear h
  replace H := Option.bind_eq_some_iff.mp H
  obtain ⟨t101, A20, H⟩ := H
  replace H : (if t101 = true then (parse_Show.l0 k ([] : List (S66)) l0 (l0.length : Int) 0) else (some ((⟨#[]⟩ : ByteArray), 1))) = some (r1, r2) := H
  have A2 := Aside0.mk A20
  clear A20
  by_cases c3 : t101 = true
  · subst c3
    have H1 : (parse_Show.l0 k ([] : List (S66)) l0 (l0.length : Int) 0) = some (r1, r2) := by rw [if_pos rfl] at H; exact H
    clear H
    have H := H1
    clear H1
    have H' := Aside0.mk H
    clear H
    go_enter Tryd.func9, Tryd.ntmps9
    go_wp2_with (first | ((with_reducible refine gate_callee (f := 12) rfl ?_); refine goesL_ (some 12) rfl rfl Tryd.func12 (by kernel_rfl) rfl #[.slice A0 l0.length c0] rfl (by (try simp only [List.map_toArray, List.map_cons, List.map_nil]); first | done | rfl | (simp only [List.length_drop, List.length_take]; rfl)) ?_; (with_reducible refine (parse_Right.calls _ _ l0 true _ ?side1 ?side2 A2.out).mono ?_); (case side1 => repeat (first | exact HR0.out | (with_reducible refine Kd.C_alloc ?_ _) | (with_reducible refine Kd.C_drewN ?_ _) | (with_reducible refine Kd.C_drew ?_))); (case side2 => exact HC0.out); rintro e w4 ⟨rfl, hb⟩; refine ⟨_, rfl, ?_⟩; have n0_ := Aside0.mk (below_step (by repeat (first | (with_reducible first | exact HB.out | apply below_alloc | apply pw_below_drewN | apply below_drew1) | exact HB.out)) hb); clear HB; have HB := n0_; clear n0_; (try clear hb); (try clear hb2); (try clear hk); (try clear hi)))
    go_loopg [4, 16] k (fun kq v4 v16 w' => ∃ (x4_1 : List (S66)) (x16_1 : Int), v16 = .int .i64 x16_1 ∧ Aside0 (parse_Show.l0 kq x4_1 l0 (l0.length : Int) x16_1 = some (r1, r2)) ∧ Aside0 (kq ≤ k) ∧ Aside0 (Kd.R k66 66 w' w.heap.size (fun _ => True) v4 x4_1) ∧ Aside0 (Below w.heap.size w w'))
    case atStart => exact ⟨(([] : List (S66))), (0), (by first | rfl | (simp; done) | (simp [*]; done)), H', ⟨Nat.le_refl _⟩, ⟨by first | exact Kd.R_nil _ _ _ _ _ | exact Kd.N_nil _ _ _ _ _ | exact Kd.V_nil _ _ _ _ _ | exact Kd.Q_nil _ _ _ _ _ | exact Kd.S_nil _ _ _ _ _⟩, ⟨by repeat (first | (with_reducible first | exact HB.out | apply below_alloc | apply pw_below_drewN | apply below_drew1) | exact HB.out)⟩⟩
    case round =>
      clear H'
      try clear c1
      try clear p2
      try clear c3
      obtain ⟨x4_1, x16_1, rfl, HA, HK1, HO_4, HB⟩ := hrel
      cases gk with
      | zero => exact absurd HA.out (by simp [parse_Show.l0])
      | succ k1 =>
        have H := HA.out
        clear HA
        simp only [parse_Show.l0] at H
        by_cases c5 : x16_1 < (l0.length : Int)
        · rw [if_pos c5] at H
          have c5b0 : decide (x16_1 < (l0.length : Int)) = true := decide_eq_true c5
          clear c5
          by_cases c6 : 0 ≤ x16_1
          · rw [if_pos c6] at H
            have c6b0 : decide (0 ≤ x16_1) = true := decide_eq_true c6
            clear c6
            by_cases c7 : x16_1 < (l0.length : Int)
            · rw [if_pos c7] at H
              have c7b0 : decide (x16_1 < (l0.length : Int)) = true := decide_eq_true c7
              clear c7
              have HC8 := Aside0.mk H
              clear H
              have p103 : 0 ≤ (x16_1 : Int) := of_decide_eq_true (by first | (with_reducible assumption) | assumption)
              have q103 : x16_1 < (l0.length : Int) := of_decide_eq_true (by first | (with_reducible assumption) | assumption)
              obtain ⟨ad103, A103_1, c103_1, A103_2, c103_2, e103, hx103_0, hx103_1, hx103_2, hl103_1, hi103_1, hl103_2, hi103_2⟩ := at_T40 HR0.out x16_1 p103 q103
              cases e103
              replace hx103_0 := (HB.out.cell (World.block_lt_of_cell? w _ hx103_0)).trans hx103_0
              replace hx103_1 := (HB.out.cell (World.block_lt_of_cell? w _ hx103_1)).trans hx103_1
              replace hx103_2 := (HB.out.cell (World.block_lt_of_cell? w _ hx103_2)).trans hx103_2
              have HR103_1 := Aside0.mk hi103_1
              have HC103_1 := Aside0.mk hl103_1
              clear hi103_1 hl103_1
              have HR103_2 := Aside0.mk hi103_2
              have HC103_2 := Aside0.mk hl103_2
              clear hi103_2 hl103_2
              replace p103 := eq_true p103
              replace q103 := eq_true q103
              go_upto_if 22 with (first | ((with_reducible refine gate_dst (N := 6) rfl ?_); refine box_event ?hg (N := 6) ?hd (cs := #[.int .i64 0, .slice none 0 0, .slice none 0 0]) (t := 40) ?hr ?_; (case hd => rfl); (case hg => rfl); (case hr => first | (go_simp; done) | (go_simp; rfl)); intro gb104 hg w9 hbox hb; have n0_ := Aside0.mk (Kd.R_below (by (with_reducible repeat (first | apply Kd.R_alloc | apply Kd.R_drewN | apply Kd.R_drew)); (first | exact HO_4.out | (first | refine Kd.R_mono HO_4.out (fun _ hk => ?_) | refine Kd.S_mono HO_4.out (fun _ hk => ?_) | refine Kd.Q_mono HO_4.out (fun _ hk => ?_)); simp only [ownBlock_slice] at hk ⊢; exact hk)) hb); have n1_ := Aside0.mk (below_step (by repeat (first | (with_reducible first | exact HB.out | apply below_alloc | apply pw_below_drewN | apply below_drew1) | exact HB.out)) hb); have n2_ := Aside0.mk (hbox); have n3_ := Aside0.mk ((by rw [hg]; exact (below_size (by repeat (first | (with_reducible first | exact HB.out | apply below_alloc | apply pw_below_drewN | apply below_drew1) | exact HB.out))) : w.heap.size ≤ gb104)); have n4_ := Aside0.mk ((by rw [hg]; exact (below_size (by repeat (first | (with_reducible first | exact HB.out | apply below_alloc | apply pw_below_drewN | apply below_drew1) | exact HB.out))) : w.heap.size ≤ gb104)); clear HO_4; clear HB; have HO_4 := n0_; have HB := n1_; have BK104 := n2_; have GW104 := n3_; have GE104 := n4_; clear n0_ n1_ n2_ n3_ n4_; clear hb hbox hg; have hcz10_0 : w9.cell? ⟨gb104, 0, none⟩ = some (.int .i64 0) := (blk_cell BK104.out 0).trans rfl; have hcz10_1 : w9.cell? ⟨gb104, 1, none⟩ = some (.slice none 0 0) := (blk_cell BK104.out 1).trans rfl; have hcz10_2 : w9.cell? ⟨gb104, 2, none⟩ = some (.slice none 0 0) := (blk_cell BK104.out 2).trans rfl; have hfz10_0 := blk_frozen BK104.out 0; have hfz10_1 := blk_frozen BK104.out 1; have hfz10_2 := blk_frozen BK104.out 2))
              (try simp only [Act.put, List.setIfInBounds_toArray, List.set_cons_zero, List.set_cons_succ])
              go_cut [4] (fun v4 wc => ∃ (kq : Nat) (x4_7 : List (S66)), Aside0 (parse_Show.j1 kq x4_7 l0 (l0.length : Int) x16_1 ((rd_T40 l0 x16_1).f0) ((rd_T40 l0 x16_1).f1) ((rd_T40 l0 x16_1).f2) = some (r1, r2)) ∧ Aside0 (kq ≤ k1) ∧ Aside0 (Kd.R k66 66 wc w.heap.size (fun _ => True) v4 x4_7) ∧ Aside0 (wc.heap[gb104]? = some (.cells #[.int .i64 ((rd_T40 l0 x16_1).f0), (.slice A103_1 ((rd_T40 l0 x16_1).f1).length c103_1), (.slice A103_2 ((rd_T40 l0 x16_1).f2).length c103_2)] 40 (0, 0))) ∧ Aside0 (Below w.heap.size w wc))
              case first =>
                have H := HC8.out
                clear HC8
                by_cases c11 : x16_1 > 0
                · rw [if_pos c11] at H
                  have c11b0 : decide (0 < x16_1) = true := decide_eq_true c11
                  clear c11
                  (first | rw [c11b0] | (simp only [i64_w, i32_w]; rw [c11b0]) | skip)
                  by_cases c12 : x4_1.length < 5864062014805
                  · rw [if_pos c12] at H
                    have LMc12 := Aside0.mk c12
                    clear c12
                    obtain ⟨y105, hy105⟩ : ∃ y_ : List (S66), y_ = (x4_1 ++ [(⟨(rd_T40 l0 x16_1).f0, (⟨#[]⟩ : ByteArray)⟩ : S66)]) := ⟨_, rfl⟩
                    replace H : (parse_Show.j1 k1 y105 l0 (l0.length : Int) x16_1 ((rd_T40 l0 x16_1).f0) ((rd_T40 l0 x16_1).f1) ((rd_T40 l0 x16_1).f2)) = some (r1, r2) := by first | (rw [hy105]; with_reducible exact H) | (have H2_ := (Option.bind_some _ _).symm.trans H; rw [hy105]; with_reducible exact H2_) | (have H2_ := (Option.bind_some _ _).symm.trans H; with_reducible exact H2_) | with_reducible exact H | (rw [hy105]; exact H) | exact H
                    have Ny105 := Aside0.mk hy105
                    clear hy105
                    have H' := Aside0.mk H
                    clear H
                    have hcz13_0 : w9.cell? ⟨gb104, 0, none⟩ = some (.int .i64 0) := (blk_cell BK104.out 0).trans rfl
                    have hcz13_1 : w9.cell? ⟨gb104, 1, none⟩ = some (.slice none 0 0) := (blk_cell BK104.out 1).trans rfl
                    have hcz13_2 : w9.cell? ⟨gb104, 2, none⟩ = some (.slice none 0 0) := (blk_cell BK104.out 2).trans rfl
                    have hfz13_0 := blk_frozen BK104.out 0
                    have hfz13_1 := blk_frozen BK104.out 1
                    have hfz13_2 := blk_frozen BK104.out 2
                    go_wp2_with (first | ((with_reducible refine gate_builtin (b := .append) (xs := #[.tmp 23, .tmp 27]) rfl ?_); at_builtin; refine Kd.R_append k66 (w0 := w) w.heap.size rfl (.tmp 23) (.tmp 27) 57 66 (.agg #[(.int .i64 0), (.string ⟨#[]⟩)]) 24 rfl Tryd.underlying57 info66 rfl (by decide) (by omega) u4 x4_1 (⟨(rd_T40 l0 x16_1).f0, (⟨#[]⟩ : ByteArray)⟩ : S66) [.int .i64 ((rd_T40 l0 x16_1).f0), .string (⟨#[]⟩ : ByteArray)] (fun _ => True) (fun _ => False) rfl (by first | (go_simp; done) | (go_simp; rfl)) ?aP (fun _ hk => hk.elim) ?aF ?aO ?aB ?aS ?aL ?_; (case aP => exact k66_mkM _ _ _ (⟨(rd_T40 l0 x16_1).f0, (⟨#[]⟩ : ByteArray)⟩ : S66)); (case aB => exact (by repeat (first | (with_reducible first | exact HB.out | apply below_alloc | apply pw_below_drewN | apply below_drew1 | refine below_set ?_ GE104.out) | exact HB.out))); (case aF => exact (fun _ _ => trivial)); (case aO => exact (by (with_reducible repeat (first | apply Kd.R_alloc | apply Kd.R_drewN | apply Kd.R_drew)); exact Kd.R_mono (Kd.R_far (p := ⟨gb104, 2, none⟩) (Kd.R_far (p := ⟨gb104, 1, none⟩) (Kd.R_far (p := ⟨gb104, 0, none⟩) (Kd.R_types HO_4.out BK104.out (by decide)) (fun _ hk => hk.2) (.int .i64 ((rd_T40 l0 x16_1).f0))) (fun _ hk => hk.2) (.slice A103_1 ((rd_T40 l0 x16_1).f1).length c103_1)) (fun _ hk => hk.2) (.slice A103_2 ((rd_T40 l0 x16_1).f2).length c103_2)) (fun _ hk => trivial))); (case aS => exact (below_size (by repeat (first | (with_reducible first | exact HB.out | apply below_alloc | apply pw_below_drewN | apply below_drew1 | refine below_set ?_ GE104.out) | exact HB.out)))); (case aL => have := LMc12.out; omega); intro v106 w14 ho hb hg hat; rw [← Ny105.out] at ho; have n0_ := Aside0.mk (blk_grown (g := gb104) (o := .cells #[.int .i64 ((rd_T40 l0 x16_1).f0), .slice A103_1 ((rd_T40 l0 x16_1).f1).length c103_1, .slice A103_2 ((rd_T40 l0 x16_1).f2).length c103_2] 40 (0, 0)) (by (with_reducible repeat (first | refine blk_drewN ?_ _ | refine blk_drew ?_ | refine blk_alloc ?_ _)); refine blk_put (cs := #[.int .i64 ((rd_T40 l0 x16_1).f0), .slice A103_1 ((rd_T40 l0 x16_1).f1).length c103_1, .slice none 0 0]) ?_ 2 _ rfl; (with_reducible repeat (first | refine blk_drewN ?_ _ | refine blk_drew ?_ | refine blk_alloc ?_ _)); refine blk_put (cs := #[.int .i64 ((rd_T40 l0 x16_1).f0), .slice none 0 0, .slice none 0 0]) ?_ 1 _ rfl; (with_reducible repeat (first | refine blk_drewN ?_ _ | refine blk_drew ?_ | refine blk_alloc ?_ _)); refine blk_put (cs := #[.int .i64 0, .slice none 0 0, .slice none 0 0]) ?_ 0 _ rfl; (with_reducible repeat (first | refine blk_drewN ?_ _ | refine blk_drew ?_ | refine blk_alloc ?_ _)); exact BK104.out) hg (Kd.R_ne HO_4.out BK104.out (by decide))); have n1_ := Aside0.mk (hb); have n2_ := Aside0.mk (ho); clear BK104; clear HB; clear HO_4; have BK104 := n0_; have HB := n1_; have HO107 := n2_; clear n0_ n1_ n2_; clear ho hb hg hat))
                    go_meet
                    case rel => exact ⟨_, (y105), H', ⟨by have := HK1.out; first | omega | exact Nat.le_refl _⟩, ⟨by (with_reducible repeat (first | apply Kd.R_alloc | apply Kd.R_drewN | apply Kd.R_drew)); (first | exact HO107.out | (first | refine Kd.R_mono HO107.out (fun _ hk => ?_) | refine Kd.S_mono HO107.out (fun _ hk => ?_) | refine Kd.Q_mono HO107.out (fun _ hk => ?_)); simp only [ownBlock_slice] at hk ⊢; exact hk)⟩, ⟨by (with_reducible repeat (first | refine blk_drewN ?_ _ | refine blk_drew ?_ | refine blk_alloc ?_ _)); exact BK104.out⟩, ⟨by repeat (first | (with_reducible first | exact HB.out | apply below_alloc | apply pw_below_drewN | apply below_drew1 | refine below_set ?_ GE104.out) | exact HB.out)⟩⟩
                  · rw [if_neg c12] at H
                    exact absurd H (by simp)
                · rw [if_neg c11] at H
                  have c11b0 : decide (0 < x16_1) = false := decide_eq_false c11
                  clear c11
                  (first | rw [c11b0] | (simp only [i64_w, i32_w]; rw [c11b0]) | skip)
                  have H' := Aside0.mk H
                  clear H
                  go_wp2
                  go_meet
                  case rel => exact ⟨_, (x4_1), H', ⟨by have := HK1.out; first | omega | exact Nat.le_refl _⟩, ⟨by (with_reducible repeat (first | apply Kd.R_alloc | apply Kd.R_drewN | apply Kd.R_drew)); exact Kd.R_mono (Kd.R_far (p := ⟨gb104, 2, none⟩) (Kd.R_far (p := ⟨gb104, 1, none⟩) (Kd.R_far (p := ⟨gb104, 0, none⟩) (Kd.R_types HO_4.out BK104.out (by decide)) (fun _ hk => hk.2) (.int .i64 ((rd_T40 l0 x16_1).f0))) (fun _ hk => hk.2) (.slice A103_1 ((rd_T40 l0 x16_1).f1).length c103_1)) (fun _ hk => hk.2) (.slice A103_2 ((rd_T40 l0 x16_1).f2).length c103_2)) (fun _ hk => trivial)⟩, ⟨by (with_reducible repeat (first | refine blk_drewN ?_ _ | refine blk_drew ?_ | refine blk_alloc ?_ _)); refine blk_put (cs := #[.int .i64 ((rd_T40 l0 x16_1).f0), .slice A103_1 ((rd_T40 l0 x16_1).f1).length c103_1, .slice none 0 0]) ?_ 2 _ rfl; (with_reducible repeat (first | refine blk_drewN ?_ _ | refine blk_drew ?_ | refine blk_alloc ?_ _)); refine blk_put (cs := #[.int .i64 ((rd_T40 l0 x16_1).f0), .slice none 0 0, .slice none 0 0]) ?_ 1 _ rfl; (with_reducible repeat (first | refine blk_drewN ?_ _ | refine blk_drew ?_ | refine blk_alloc ?_ _)); refine blk_put (cs := #[.int .i64 0, .slice none 0 0, .slice none 0 0]) ?_ 0 _ rfl; (with_reducible repeat (first | refine blk_drewN ?_ _ | refine blk_drew ?_ | refine blk_alloc ?_ _)); exact BK104.out⟩, ⟨by repeat (first | (with_reducible first | exact HB.out | apply below_alloc | apply pw_below_drewN | apply below_drew1 | refine below_set ?_ GE104.out) | exact HB.out)⟩⟩
              case rest =>
                clear HC8
                try clear c1
                try clear p1
                try clear q1
                try clear hx1
                try clear p2
                try clear c3
                try clear c5
                try clear c5b0
                try clear c6
                try clear c6b0
                try clear c7
                try clear c7b0
                try clear c9
                try clear c10
                try clear p10
                try clear q10
                try clear hx10
                try clear c11
                try clear c11b0
                try clear c12
                try clear hcz10_0
                try clear hcz10_1
                try clear hcz10_2
                try clear hcz13_0
                try clear hcz13_1
                try clear hcz13_2
                try clear hfz10_0
                try clear hfz10_1
                try clear hfz10_2
                try clear hfz13_0
                try clear hfz13_1
                try clear hfz13_2
                try clear hx103_0
                try clear hx103_1
                try clear hx103_2
                try clear p103
                try clear p2
                try clear q103
                obtain ⟨kq, x4_7, HA, HJ7, HO_4, BK104, HB⟩ := hcut
                cases kq with
                | zero => exact absurd HA.out (by simp [parse_Show.j1])
                | succ kj7 =>
                  have H := HA.out
                  clear HA
                  simp only [parse_Show.j1] at H
                  have H' := Aside0.mk H
                  clear H
                  have hcz15_0 : wc.cell? ⟨gb104, 0, none⟩ = some (.int .i64 ((rd_T40 l0 x16_1).f0)) := (blk_cell BK104.out 0).trans rfl
                  have hcz15_1 : wc.cell? ⟨gb104, 1, none⟩ = some (.slice A103_1 ((rd_T40 l0 x16_1).f1).length c103_1) := (blk_cell BK104.out 1).trans rfl
                  have hcz15_2 : wc.cell? ⟨gb104, 2, none⟩ = some (.slice A103_2 ((rd_T40 l0 x16_1).f2).length c103_2) := (blk_cell BK104.out 2).trans rfl
                  have hfz15_0 := blk_frozen BK104.out 0
                  have hfz15_1 := blk_frozen BK104.out 1
                  have hfz15_2 := blk_frozen BK104.out 2
                  go_wp2
                  go_loopg [4, 32] kj7 (fun kq v4 v32 w' => ∃ (x4_3 : List (S66)) (x32_3 : Int), v32 = .int .i64 x32_3 ∧ Aside0 (parse_Show.l1 kq x4_3 l0 (l0.length : Int) x16_1 ((rd_T40 l0 x16_1).f1) (((rd_T40 l0 x16_1).f1).length : Int) x32_3 ((rd_T40 l0 x16_1).f0) ((rd_T40 l0 x16_1).f1) ((rd_T40 l0 x16_1).f2) = some (r1, r2)) ∧ Aside0 (kq ≤ kj7) ∧ Aside0 (Kd.R k66 66 w' w.heap.size (fun _ => True) v4 x4_3) ∧ Aside0 (w'.heap[gb104]? = some (.cells #[.int .i64 ((rd_T40 l0 x16_1).f0), (.slice A103_1 ((rd_T40 l0 x16_1).f1).length c103_1), (.slice A103_2 ((rd_T40 l0 x16_1).f2).length c103_2)] 40 (0, 0))) ∧ Aside0 (Below w.heap.size w w'))
                  case atStart => exact ⟨(x4_7), (0), (by first | rfl | (simp; done) | (simp [*]; done)), H', ⟨Nat.le_refl _⟩, ⟨by (with_reducible repeat (first | apply Kd.R_alloc | apply Kd.R_drewN | apply Kd.R_drew)); (first | exact HO_4.out | (first | refine Kd.R_mono HO_4.out (fun _ hk => ?_) | refine Kd.S_mono HO_4.out (fun _ hk => ?_) | refine Kd.Q_mono HO_4.out (fun _ hk => ?_)); simp only [ownBlock_slice] at hk ⊢; exact hk)⟩, ⟨by (with_reducible repeat (first | refine blk_drewN ?_ _ | refine blk_drew ?_ | refine blk_alloc ?_ _)); exact BK104.out⟩, ⟨by repeat (first | (with_reducible first | exact HB.out | apply below_alloc | apply pw_below_drewN | apply below_drew1 | refine below_set ?_ GE104.out) | exact HB.out)⟩⟩
                  case round =>
                    clear H'
                    try clear c1
                    try clear p1
                    try clear q1
                    try clear hx1
                    try clear p2
                    try clear c3
                    try clear c5
                    try clear c5b0
                    try clear c6
                    try clear c6b0
                    try clear c7
                    try clear c7b0
                    try clear c9
                    try clear c10
                    try clear p10
                    try clear q10
                    try clear hx10
                    try clear c11
                    try clear c11b0
                    try clear c12
                    try clear hcz10_0
                    try clear hcz10_1
                    try clear hcz10_2
                    try clear hcz13_0
                    try clear hcz13_1
                    try clear hcz13_2
                    try clear hcz15_0
                    try clear hcz15_1
                    try clear hcz15_2
                    try clear hfz10_0
                    try clear hfz10_1
                    try clear hfz10_2
                    try clear hfz13_0
                    try clear hfz13_1
                    try clear hfz13_2
                    try clear hfz15_0
                    try clear hfz15_1
                    try clear hfz15_2
                    try clear hx103_0
                    try clear hx103_1
                    try clear hx103_2
                    try clear p1
                    try clear p10
                    try clear p103
                    try clear p2
                    try clear q1
                    try clear q10
                    try clear q103
                    obtain ⟨x4_3, x32_3, rfl, HA, HK3, HO_4, BK104, HB⟩ := hrel
                    cases gk with
                    | zero => exact absurd HA.out (by simp [parse_Show.l1])
                    | succ k3 =>
                      have H := HA.out
                      clear HA
                      simp only [parse_Show.l1] at H
                      by_cases c16 : x32_3 < (((rd_T40 l0 x16_1).f1).length : Int)
                      · rw [if_pos c16] at H
                        have c16b0 : decide (x32_3 < (((rd_T40 l0 x16_1).f1).length : Int)) = true := decide_eq_true c16
                        clear c16
                        by_cases c17 : 0 ≤ x32_3
                        · rw [if_pos c17] at H
                          have c17b0 : decide (0 ≤ x32_3) = true := decide_eq_true c17
                          clear c17
                          by_cases c18 : x32_3 < (((rd_T40 l0 x16_1).f1).length : Int)
                          · rw [if_pos c18] at H
                            have c18b0 : decide (x32_3 < (((rd_T40 l0 x16_1).f1).length : Int)) = true := decide_eq_true c18
                            clear c18
                            by_cases c19 : x4_3.length < 5864062014805
                            · rw [if_pos c19] at H
                              have LMc19 := Aside0.mk c19
                              clear c19
                              obtain ⟨y109, hy109⟩ : ∃ y_ : List (S66), y_ = (x4_3 ++ [(⟨0, rdOf ByteArray.empty ((rd_T40 l0 x16_1).f1) x32_3⟩ : S66)]) := ⟨_, rfl⟩
                              replace H : (parse_Show.l1 k3 y109 l0 (l0.length : Int) x16_1 ((rd_T40 l0 x16_1).f1) (((rd_T40 l0 x16_1).f1).length : Int) (wrap64 (x32_3 + 1)) ((rd_T40 l0 x16_1).f0) ((rd_T40 l0 x16_1).f1) ((rd_T40 l0 x16_1).f2)) = some (r1, r2) := by first | (rw [hy109]; with_reducible exact H) | (have H2_ := (Option.bind_some _ _).symm.trans H; rw [hy109]; with_reducible exact H2_) | (have H2_ := (Option.bind_some _ _).symm.trans H; with_reducible exact H2_) | with_reducible exact H | (rw [hy109]; exact H) | exact H
                              have Ny109 := Aside0.mk hy109
                              clear hy109
                              have H' := Aside0.mk H
                              clear H
                              have p108 : 0 ≤ (x32_3 : Int) := of_decide_eq_true (by first | (with_reducible assumption) | assumption)
                              have q108 : x32_3 < (((rd_T40 l0 x16_1).f1).length : Int) := of_decide_eq_true (by first | (with_reducible assumption) | assumption)
                              obtain ⟨ad108, e108, hx108_0⟩ := Kd.at_string HR103_1.out x32_3 p108 q108
                              cases e108
                              replace hx108_0 := (HB.out.cell (World.block_lt_of_cell? w _ hx108_0)).trans hx108_0
                              replace p108 := eq_true p108
                              replace q108 := eq_true q108
                              go_wp2_with (first | ((with_reducible refine gate_builtin (b := .append) (xs := #[.tmp 36, .tmp 39]) rfl ?_); at_builtin; refine Kd.R_append k66 (w0 := w) w.heap.size rfl (.tmp 36) (.tmp 39) 57 66 (.agg #[(.int .i64 0), (.string ⟨#[]⟩)]) 24 rfl Tryd.underlying57 info66 rfl (by decide) (by omega) u4 x4_3 (⟨0, rdOf ByteArray.empty ((rd_T40 l0 x16_1).f1) x32_3⟩ : S66) [.int .i64 0, .string (rdOf ByteArray.empty ((rd_T40 l0 x16_1).f1) x32_3)] (fun _ => True) (fun _ => False) rfl rfl ?aP (fun _ hk => hk.elim) ?aF ?aO ?aB ?aS ?aL ?_; (case aP => exact k66_mkM _ _ _ (⟨0, rdOf ByteArray.empty ((rd_T40 l0 x16_1).f1) x32_3⟩ : S66)); (case aB => exact (by repeat (first | (with_reducible first | exact HB.out | apply below_alloc | apply pw_below_drewN | apply below_drew1 | refine below_set ?_ GE104.out) | exact HB.out))); (case aF => exact (fun _ _ => trivial)); (case aO => exact (by (with_reducible repeat (first | apply Kd.R_alloc | apply Kd.R_drewN | apply Kd.R_drew)); (first | exact HO_4.out | (first | refine Kd.R_mono HO_4.out (fun _ hk => ?_) | refine Kd.S_mono HO_4.out (fun _ hk => ?_) | refine Kd.Q_mono HO_4.out (fun _ hk => ?_)); simp only [ownBlock_slice] at hk ⊢; exact hk))); (case aS => exact (below_size (by repeat (first | (with_reducible first | exact HB.out | apply below_alloc | apply pw_below_drewN | apply below_drew1 | refine below_set ?_ GE104.out) | exact HB.out)))); (case aL => have := LMc19.out; omega); intro v110 w20 ho hb hg hat; rw [← Ny109.out] at ho; have n0_ := Aside0.mk (blk_grown (g := gb104) (o := .cells #[.int .i64 ((rd_T40 l0 x16_1).f0), .slice (some ad108) ((rd_T40 l0 x16_1).f1).length c103_1, .slice A103_2 ((rd_T40 l0 x16_1).f2).length c103_2] 40 (0, 0)) (by (with_reducible repeat (first | refine blk_drewN ?_ _ | refine blk_drew ?_ | refine blk_alloc ?_ _)); exact BK104.out) hg (Kd.R_ne HO_4.out BK104.out (by decide))); have n1_ := Aside0.mk (hb); have n2_ := Aside0.mk (ho); clear BK104; clear HB; clear HO_4; have BK104 := n0_; have HB := n1_; have HO111 := n2_; clear n0_ n1_ n2_; clear ho hb hg hat))
                              go_roundg k3
                              case measure => have := HK1.out; have := HJ7.out; have := HK3.out; omega
                              case rel => exact ⟨(y109), (wrap64 (x32_3 + 1)), (by first | rfl | (simp; done) | (simp [*]; done)), H', ⟨by have := HK1.out; have := HJ7.out; have := HK3.out; omega⟩, ⟨by (with_reducible repeat (first | apply Kd.R_alloc | apply Kd.R_drewN | apply Kd.R_drew)); (first | exact HO111.out | (first | refine Kd.R_mono HO111.out (fun _ hk => ?_) | refine Kd.S_mono HO111.out (fun _ hk => ?_) | refine Kd.Q_mono HO111.out (fun _ hk => ?_)); simp only [ownBlock_slice] at hk ⊢; exact hk)⟩, ⟨by (with_reducible repeat (first | refine blk_drewN ?_ _ | refine blk_drew ?_ | refine blk_alloc ?_ _)); exact BK104.out⟩, ⟨by repeat (first | (with_reducible first | exact HB.out | apply below_alloc | apply pw_below_drewN | apply below_drew1 | refine below_set ?_ GE104.out) | exact HB.out)⟩⟩
                            · rw [if_neg c19] at H
                              exact absurd H (by simp)
                          · rw [if_neg c18] at H
                            exact absurd H (by simp)
                        · rw [if_neg c17] at H
                          exact absurd H (by simp)
                      · rw [if_neg c16] at H
                        have c16b0 : decide (x32_3 < (((rd_T40 l0 x16_1).f1).length : Int)) = false := decide_eq_false c16
                        clear c16
                        have H' := Aside0.mk H
                        clear H
                        have hcz21_0 : wr.cell? ⟨gb104, 0, none⟩ = some (.int .i64 ((rd_T40 l0 x16_1).f0)) := (blk_cell BK104.out 0).trans rfl
                        have hcz21_1 : wr.cell? ⟨gb104, 1, none⟩ = some (.slice A103_1 ((rd_T40 l0 x16_1).f1).length c103_1) := (blk_cell BK104.out 1).trans rfl
                        have hcz21_2 : wr.cell? ⟨gb104, 2, none⟩ = some (.slice A103_2 ((rd_T40 l0 x16_1).f2).length c103_2) := (blk_cell BK104.out 2).trans rfl
                        have hfz21_0 := blk_frozen BK104.out 0
                        have hfz21_1 := blk_frozen BK104.out 1
                        have hfz21_2 := blk_frozen BK104.out 2
                        go_wp2
                        go_loopg [4, 45] k3 (fun kq v4 v45 w' => ∃ (x4_4 : List (S66)) (x45_4 : Int), v45 = .int .i64 x45_4 ∧ Aside0 (parse_Show.l2 kq x4_4 l0 (l0.length : Int) x16_1 ((rd_T40 l0 x16_1).f2) (((rd_T40 l0 x16_1).f2).length : Int) x45_4 = some (r1, r2)) ∧ Aside0 (kq ≤ k3) ∧ Aside0 (Kd.R k66 66 w' w.heap.size (fun _ => True) v4 x4_4) ∧ Aside0 (w'.heap[gb104]? = some (.cells #[.int .i64 ((rd_T40 l0 x16_1).f0), (.slice A103_1 ((rd_T40 l0 x16_1).f1).length c103_1), (.slice A103_2 ((rd_T40 l0 x16_1).f2).length c103_2)] 40 (0, 0))) ∧ Aside0 (Below w.heap.size w w'))
                        case atStart => exact ⟨(x4_3), (0), (by first | rfl | (simp; done) | (simp [*]; done)), H', ⟨Nat.le_refl _⟩, ⟨by (with_reducible repeat (first | apply Kd.R_alloc | apply Kd.R_drewN | apply Kd.R_drew)); (first | exact HO_4.out | (first | refine Kd.R_mono HO_4.out (fun _ hk => ?_) | refine Kd.S_mono HO_4.out (fun _ hk => ?_) | refine Kd.Q_mono HO_4.out (fun _ hk => ?_)); simp only [ownBlock_slice] at hk ⊢; exact hk)⟩, ⟨by (with_reducible repeat (first | refine blk_drewN ?_ _ | refine blk_drew ?_ | refine blk_alloc ?_ _)); exact BK104.out⟩, ⟨by repeat (first | (with_reducible first | exact HB.out | apply below_alloc | apply pw_below_drewN | apply below_drew1 | refine below_set ?_ GE104.out) | exact HB.out)⟩⟩
                        case round =>
                          clear H'
                          try clear c1
                          try clear p1
                          try clear q1
                          try clear hx1
                          try clear p2
                          try clear c3
                          try clear c5
                          try clear c5b0
                          try clear c6
                          try clear c6b0
                          try clear p6
                          try clear c7
                          try clear c7b0
                          try clear c9
                          try clear c10
                          try clear p10
                          try clear q10
                          try clear hx10
                          try clear c11
                          try clear c11b0
                          try clear c12
                          try clear c16
                          try clear c16b0
                          try clear c17
                          try clear c17b0
                          try clear c18
                          try clear c18b0
                          try clear c19
                          try clear hcz10_0
                          try clear hcz10_1
                          try clear hcz10_2
                          try clear hcz13_0
                          try clear hcz13_1
                          try clear hcz13_2
                          try clear hcz15_0
                          try clear hcz15_1
                          try clear hcz15_2
                          try clear hcz21_0
                          try clear hcz21_1
                          try clear hcz21_2
                          try clear hfz10_0
                          try clear hfz10_1
                          try clear hfz10_2
                          try clear hfz13_0
                          try clear hfz13_1
                          try clear hfz13_2
                          try clear hfz15_0
                          try clear hfz15_1
                          try clear hfz15_2
                          try clear hfz21_0
                          try clear hfz21_1
                          try clear hfz21_2
                          try clear hx103_0
                          try clear hx103_1
                          try clear hx103_2
                          try clear hx108_0
                          try clear p1
                          try clear p10
                          try clear p103
                          try clear p108
                          try clear p2
                          try clear q1
                          try clear q10
                          try clear q103
                          try clear q108
                          obtain ⟨x4_4, x45_4, rfl, HA, HK4, HO_4, BK104, HB⟩ := hrel
                          cases gk with
                          | zero => exact absurd HA.out (by simp [parse_Show.l2])
                          | succ k4 =>
                            have H := HA.out
                            clear HA
                            simp only [parse_Show.l2] at H
                            by_cases c22 : x45_4 < (((rd_T40 l0 x16_1).f2).length : Int)
                            · rw [if_pos c22] at H
                              have c22b0 : decide (x45_4 < (((rd_T40 l0 x16_1).f2).length : Int)) = true := decide_eq_true c22
                              clear c22
                              by_cases c23 : 0 ≤ x45_4
                              · rw [if_pos c23] at H
                                have c23b0 : decide (0 ≤ x45_4) = true := decide_eq_true c23
                                clear c23
                                by_cases c24 : x45_4 < (((rd_T40 l0 x16_1).f2).length : Int)
                                · rw [if_pos c24] at H
                                  have c24b0 : decide (x45_4 < (((rd_T40 l0 x16_1).f2).length : Int)) = true := decide_eq_true c24
                                  clear c24
                                  obtain ⟨y114, hy114⟩ : ∃ y_ : List (S66), y_ = (([(⟨(rd_T42 ((rd_T40 l0 x16_1).f2) x45_4).f0, (⟨#[]⟩ : ByteArray)⟩ : S66), (⟨0, (rd_T42 ((rd_T40 l0 x16_1).f2) x45_4).f1⟩ : S66)] : List (S66))) := ⟨_, rfl⟩
                                  replace H : (if x4_4.length + y114.length < 5864062014805 then (parse_Show.l2 k4 (x4_4 ++ y114) l0 (l0.length : Int) x16_1 ((rd_T40 l0 x16_1).f2) (((rd_T40 l0 x16_1).f2).length : Int) (wrap64 (x45_4 + 1))) else (none)) = some (r1, r2) := by first | (rw [hy114]; with_reducible exact H) | (have H2_ := (Option.bind_some _ _).symm.trans H; rw [hy114]; with_reducible exact H2_) | (have H2_ := (Option.bind_some _ _).symm.trans H; with_reducible exact H2_) | with_reducible exact H | (rw [hy114]; exact H) | exact H
                                  have Ny114 := Aside0.mk hy114
                                  clear hy114
                                  by_cases c25 : x4_4.length + y114.length < 5864062014805
                                  · rw [if_pos c25] at H
                                    have LMc25 := Aside0.mk c25
                                    clear c25
                                    obtain ⟨y117, hy117⟩ : ∃ y_ : List (S66), y_ = (x4_4 ++ y114) := ⟨_, rfl⟩
                                    replace H : (parse_Show.l2 k4 y117 l0 (l0.length : Int) x16_1 ((rd_T40 l0 x16_1).f2) (((rd_T40 l0 x16_1).f2).length : Int) (wrap64 (x45_4 + 1))) = some (r1, r2) := by first | (rw [hy117]; with_reducible exact H) | (have H2_ := (Option.bind_some _ _).symm.trans H; rw [hy117]; with_reducible exact H2_) | (have H2_ := (Option.bind_some _ _).symm.trans H; with_reducible exact H2_) | with_reducible exact H | (rw [hy117]; exact H) | exact H
                                    have Ny117 := Aside0.mk hy117
                                    clear hy117
                                    have H' := Aside0.mk H
                                    clear H
                                    have p112 : 0 ≤ (x45_4 : Int) := of_decide_eq_true (by first | (with_reducible assumption) | assumption)
                                    have q112 : x45_4 < (((rd_T40 l0 x16_1).f2).length : Int) := of_decide_eq_true (by first | (with_reducible assumption) | assumption)
                                    obtain ⟨ad112, e112, hx112_0, hx112_1⟩ := at_T42 HR103_2.out x45_4 p112 q112
                                    cases e112
                                    replace hx112_0 := (HB.out.cell (World.block_lt_of_cell? w _ hx112_0)).trans hx112_0
                                    replace hx112_1 := (HB.out.cell (World.block_lt_of_cell? w _ hx112_1)).trans hx112_1
                                    replace p112 := eq_true p112
                                    replace q112 := eq_true q112
                                    go_wp2_with (first | ((with_reducible refine gate_dst (N := 10) rfl ?_); refine box_event ?hg (N := 10) ?hd (cs := #[.int .i64 0, .string (⟨#[]⟩ : ByteArray)]) (t := 42) ?hr ?_; (case hd => rfl); (case hg => rfl); (case hr => first | (go_simp; done) | (go_simp; rfl)); intro gb113 hg w26 hbox hb; have n0_ := Aside0.mk (Kd.R_below (by (with_reducible repeat (first | apply Kd.R_alloc | apply Kd.R_drewN | apply Kd.R_drew)); (first | exact HO_4.out | (first | refine Kd.R_mono HO_4.out (fun _ hk => ?_) | refine Kd.S_mono HO_4.out (fun _ hk => ?_) | refine Kd.Q_mono HO_4.out (fun _ hk => ?_)); simp only [ownBlock_slice] at hk ⊢; exact hk)) hb); have n1_ := Aside0.mk (blk_below (g := gb104) (o := .cells #[.int .i64 ((rd_T40 l0 x16_1).f0), .slice A103_1 ((rd_T40 l0 x16_1).f1).length c103_1, .slice (some ad112) ((rd_T40 l0 x16_1).f2).length c103_2] 40 (0, 0)) (by (with_reducible repeat (first | refine blk_drewN ?_ _ | refine blk_drew ?_ | refine blk_alloc ?_ _)); exact BK104.out) hb); have n2_ := Aside0.mk (below_step (by repeat (first | (with_reducible first | exact HB.out | apply below_alloc | apply pw_below_drewN | apply below_drew1 | refine below_set ?_ GE104.out) | exact HB.out)) hb); have n3_ := Aside0.mk (hbox); have n4_ := Aside0.mk ((by rw [hg]; exact (below_size (by repeat (first | (with_reducible first | exact HB.out | apply below_alloc | apply pw_below_drewN | apply below_drew1 | refine below_set ?_ GE104.out) | exact HB.out))) : w.heap.size ≤ gb113)); have n5_ := Aside0.mk ((by rw [hg]; exact (below_size (by repeat (first | (with_reducible first | exact HB.out | apply below_alloc | apply pw_below_drewN | apply below_drew1 | refine below_set ?_ GE104.out) | exact HB.out))) : w.heap.size ≤ gb113)); have n6_ := Aside0.mk ((by rw [hg]; exact Nat.ne_of_lt (blk_lt (g := gb104) (o := .cells #[.int .i64 ((rd_T40 l0 x16_1).f0), .slice A103_1 ((rd_T40 l0 x16_1).f1).length c103_1, .slice (some ad112) ((rd_T40 l0 x16_1).f2).length c103_2] 40 (0, 0)) (by (with_reducible repeat (first | refine blk_drewN ?_ _ | refine blk_drew ?_ | refine blk_alloc ?_ _)); exact BK104.out)) : gb104 ≠ gb113)); have n7_ := Aside0.mk ((by rw [hg]; exact Nat.ne_of_gt (blk_lt (g := gb104) (o := .cells #[.int .i64 ((rd_T40 l0 x16_1).f0), .slice A103_1 ((rd_T40 l0 x16_1).f1).length c103_1, .slice (some ad112) ((rd_T40 l0 x16_1).f2).length c103_2] 40 (0, 0)) (by (with_reducible repeat (first | refine blk_drewN ?_ _ | refine blk_drew ?_ | refine blk_alloc ?_ _)); exact BK104.out)) : gb113 ≠ gb104)); clear HO_4; clear BK104; clear HB; have HO_4 := n0_; have BK104 := n1_; have HB := n2_; have BK113 := n3_; have GW113 := n4_; have GE113 := n5_; have NB104_113 := n6_; have NB113_104 := n7_; clear n0_ n1_ n2_ n3_ n4_ n5_ n6_ n7_; clear hb hbox hg; have hnb27 := NB113_104.out; have hnc27 := NB104_113.out; have hcz28_0 : w26.cell? ⟨gb113, 0, none⟩ = some (.int .i64 0) := (blk_cell BK113.out 0).trans rfl; have hcz28_1 : w26.cell? ⟨gb113, 1, none⟩ = some (.string (⟨#[]⟩ : ByteArray)) := (blk_cell BK113.out 1).trans rfl; have hfz28_0 := blk_frozen BK113.out 0; have hfz28_1 := blk_frozen BK113.out 1) | ((with_reducible refine gate_dst (N := 56) rfl ?_); refine Kd.R_lit k66 _ 66 ?hg (N := 56) ?hd (xs := ([(⟨(rd_T42 ((rd_T40 l0 x16_1).f2) x45_4).f0, (⟨#[]⟩ : ByteArray)⟩ : S66), (⟨0, (rd_T42 ((rd_T40 l0 x16_1).f2) x45_4).f1⟩ : S66)] : List (S66))) (inner := [.int .i64 ((rd_T42 ((rd_T40 l0 x16_1).f2) x45_4).f0), .string (⟨#[]⟩ : ByteArray), .int .i64 0, .string ((rd_T42 ((rd_T40 l0 x16_1).f2) x45_4).f1)]) (ok := fun _ => True) (okp := fun _ => True) ?hr ?hp (fun _ hk => hk) trivial (Below.refl _ _) (Nat.le_refl _) (by simp) ?_; (case hd => rfl); (case hg => rfl); (case hr => first | (go_simp; done) | (go_simp; rfl)); (case hp => exact (Reps.c2 (show Kd.M k66 _ _ _ (⟨(rd_T42 ((rd_T40 l0 x16_1).f2) x45_4).f0, (⟨#[]⟩ : ByteArray)⟩ : S66) [.int .i64 ((rd_T42 ((rd_T40 l0 x16_1).f2) x45_4).f0), .string (⟨#[]⟩ : ByteArray)] from (k66_mkM _ _ _ (⟨(rd_T42 ((rd_T40 l0 x16_1).f2) x45_4).f0, (⟨#[]⟩ : ByteArray)⟩ : S66) )) (Reps.c2 (show Kd.M k66 _ _ _ (⟨0, (rd_T42 ((rd_T40 l0 x16_1).f2) x45_4).f1⟩ : S66) [.int .i64 0, .string ((rd_T42 ((rd_T40 l0 x16_1).f2) x45_4).f1)] from (k66_mkM _ _ _ (⟨0, (rd_T42 ((rd_T40 l0 x16_1).f2) x45_4).f1⟩ : S66) )) (Reps.none _ _)))); intro v115 w29 ho30 hb hg_ hnew_; clear hg_ hnew_; (first | rw [← Ny114.out] at ho30 | (simp only [Int.reduceToNat] at ho30; rw [← Ny114.out] at ho30)); have n0_ := Aside0.mk (Kd.R_elder' (by (with_reducible repeat (first | apply Kd.R_alloc | apply Kd.R_drewN | apply Kd.R_drew)); exact (Kd.R_mono (Kd.R_far (p := ⟨gb113, 1, none⟩) (Kd.R_far (p := ⟨gb113, 0, none⟩) (Kd.R_types HO_4.out BK113.out (by decide)) (fun _ hk => hk.2) (.int .i64 ((rd_T42 ((rd_T40 l0 x16_1).f2) x45_4).f0))) (fun _ hk => hk.2) (.string ((rd_T42 ((rd_T40 l0 x16_1).f2) x45_4).f1))) (fun _ h_ => h_.1))) (Kd.R_base ho30) hb); have n1_ := Aside0.mk (Kd.R_lower (Kd.R_new' ho30 (Kd.R_lt (by (with_reducible repeat (first | apply Kd.R_alloc | apply Kd.R_drewN | apply Kd.R_drew)); exact (Kd.R_mono (Kd.R_far (p := ⟨gb113, 1, none⟩) (Kd.R_far (p := ⟨gb113, 0, none⟩) (Kd.R_types HO_4.out BK113.out (by decide)) (fun _ hk => hk.2) (.int .i64 ((rd_T42 ((rd_T40 l0 x16_1).f2) x45_4).f0))) (fun _ hk => hk.2) (.string ((rd_T42 ((rd_T40 l0 x16_1).f2) x45_4).f1))) (fun _ h_ => h_.1))))) (below_size (by repeat (first | (with_reducible first | exact HB.out | apply below_alloc | apply pw_below_drewN | apply below_drew1 | refine below_set ?_ GE104.out | refine below_set ?_ GE113.out) | exact HB.out)))); have n2_ := Aside0.mk (blk_below (g := gb104) (o := .cells #[.int .i64 ((rd_T40 l0 x16_1).f0), .slice A103_1 ((rd_T40 l0 x16_1).f1).length c103_1, .slice (some ad112) ((rd_T40 l0 x16_1).f2).length c103_2] 40 (0, 0)) (by (with_reducible repeat (first | refine blk_drewN ?_ _ | refine blk_drew ?_ | refine blk_alloc ?_ _)); refine blk_far ?_ NB104_113.out _; (with_reducible repeat (first | refine blk_drewN ?_ _ | refine blk_drew ?_ | refine blk_alloc ?_ _)); refine blk_far ?_ NB104_113.out _; (with_reducible repeat (first | refine blk_drewN ?_ _ | refine blk_drew ?_ | refine blk_alloc ?_ _)); exact BK104.out) hb); have n3_ := Aside0.mk (blk_below (g := gb113) (o := .cells #[.int .i64 ((rd_T42 ((rd_T40 l0 x16_1).f2) x45_4).f0), .string ((rd_T42 ((rd_T40 l0 x16_1).f2) x45_4).f1)] 42 (0, 0)) (by (with_reducible repeat (first | refine blk_drewN ?_ _ | refine blk_drew ?_ | refine blk_alloc ?_ _)); refine blk_put (cs := #[.int .i64 ((rd_T42 ((rd_T40 l0 x16_1).f2) x45_4).f0), .string (⟨#[]⟩ : ByteArray)]) ?_ 1 _ rfl; (with_reducible repeat (first | refine blk_drewN ?_ _ | refine blk_drew ?_ | refine blk_alloc ?_ _)); refine blk_put (cs := #[.int .i64 0, .string (⟨#[]⟩ : ByteArray)]) ?_ 0 _ rfl; (with_reducible repeat (first | refine blk_drewN ?_ _ | refine blk_drew ?_ | refine blk_alloc ?_ _)); exact BK113.out) hb); have n4_ := Aside0.mk (below_step (by repeat (first | (with_reducible first | exact HB.out | apply below_alloc | apply pw_below_drewN | apply below_drew1 | refine below_set ?_ GE104.out | refine below_set ?_ GE113.out) | exact HB.out)) hb); clear HO_4; clear BK104; clear BK113; clear HB; have HO_4 := n0_; have HO116 := n1_; have BK104 := n2_; have BK113 := n3_; have HB := n4_; clear n0_ n1_ n2_ n3_ n4_; clear hb ho30; obtain ⟨Ao32, co32, eo32⟩ := Kd.R_slice HO116.out; subst eo32) | ((with_reducible refine gate_builtin (b := .append) (xs := #[.tmp 49, .tmp 56]) rfl ?_); at_builtin; refine Kd.R_append_rows k66 (w0 := w) w.heap.size rfl (.tmp 49) (.tmp 56) 57 66 (.agg #[(.int .i64 0), (.string ⟨#[]⟩)]) 24 rfl Tryd.underlying57 info66 rfl (by decide) (by omega) u4 x4_4 y114 _ _ _ (fun k_ => some k_ ≠ (.slice Ao32 y114.length co32 : Value).ownBlock) (fun _ => False) rfl rfl ?aO ?aR (fun _ _ h => h) (fun _ h => h.elim) ?aF ?aB ?aS ?aL ?_; (case aR => repeat (first | exact (Kd.R_reads' HO116.out).2.2 | (with_reducible refine Kd.C_alloc ?_ _) | (with_reducible refine Kd.C_drewN ?_ _) | (with_reducible refine Kd.C_drew ?_))); (case aB => exact (by repeat (first | (with_reducible first | exact HB.out | apply below_alloc | apply pw_below_drewN | apply below_drew1 | refine below_set ?_ GE104.out | refine below_set ?_ GE113.out) | exact HB.out))); (case aF => exact (fun k_ hk => Kd.fresh' (Kd.R_lt (by (with_reducible repeat (first | apply Kd.R_alloc | apply Kd.R_drewN | apply Kd.R_drew)); (first | exact HO116.out | (first | refine Kd.R_mono HO116.out (fun _ hk => ?_) | refine Kd.S_mono HO116.out (fun _ hk => ?_) | refine Kd.Q_mono HO116.out (fun _ hk => ?_)); simp only [ownBlock_slice] at hk ⊢; exact hk))) k_ hk)); (case aO => exact (by (with_reducible repeat (first | apply Kd.R_alloc | apply Kd.R_drewN | apply Kd.R_drew)); exact Kd.R_mono HO_4.out (fun _ hk => hk.2))); (case aS => exact (below_size (by repeat (first | (with_reducible first | exact HB.out | apply below_alloc | apply pw_below_drewN | apply below_drew1 | refine below_set ?_ GE104.out | refine below_set ?_ GE113.out) | exact HB.out)))); (case aL => have := LMc25.out; omega); intro v118 w31 ho hb hg hat; rw [← Ny117.out] at ho; have n0_ := Aside0.mk (blk_grown (g := gb104) (o := .cells #[.int .i64 ((rd_T40 l0 x16_1).f0), .slice A103_1 ((rd_T40 l0 x16_1).f1).length c103_1, .slice (some ad112) ((rd_T40 l0 x16_1).f2).length c103_2] 40 (0, 0)) (by (with_reducible repeat (first | refine blk_drewN ?_ _ | refine blk_drew ?_ | refine blk_alloc ?_ _)); exact BK104.out) hg (Kd.R_ne HO_4.out BK104.out (by decide))); have n1_ := Aside0.mk (blk_grown (g := gb113) (o := .cells #[.int .i64 ((rd_T42 ((rd_T40 l0 x16_1).f2) x45_4).f0), .string ((rd_T42 ((rd_T40 l0 x16_1).f2) x45_4).f1)] 42 (0, 0)) (by (with_reducible repeat (first | refine blk_drewN ?_ _ | refine blk_drew ?_ | refine blk_alloc ?_ _)); exact BK113.out) hg (Kd.R_ne HO_4.out BK113.out (by decide))); have n2_ := Aside0.mk (Kd.R_after (ok := (fun _ => True)) (by (with_reducible repeat (first | apply Kd.R_alloc | apply Kd.R_drewN | apply Kd.R_drew)); (first | exact HO116.out | (first | refine Kd.R_mono HO116.out (fun _ hk => ?_) | refine Kd.S_mono HO116.out (fun _ hk => ?_) | refine Kd.Q_mono HO116.out (fun _ hk => ?_)); simp only [ownBlock_slice] at hk ⊢; exact hk)) hg hat); have n3_ := Aside0.mk (hb); have n4_ := Aside0.mk (ho); clear BK104; clear BK113; clear HO116; clear HB; clear HO_4; have BK104 := n0_; have BK113 := n1_; have HO116 := n2_; have HB := n3_; have HO119 := n4_; clear n0_ n1_ n2_ n3_ n4_; clear ho hb hg hat))
                                    go_roundg k4
                                    case measure => have := HK1.out; have := HJ7.out; have := HK3.out; have := HK4.out; omega
                                    case rel => exact ⟨(y117), (wrap64 (x45_4 + 1)), (by first | rfl | (simp; done) | (simp [*]; done)), H', ⟨by have := HK1.out; have := HJ7.out; have := HK3.out; have := HK4.out; omega⟩, ⟨by (with_reducible repeat (first | apply Kd.R_alloc | apply Kd.R_drewN | apply Kd.R_drew)); exact Kd.R_mono HO119.out (fun _ hk => trivial)⟩, ⟨by (with_reducible repeat (first | refine blk_drewN ?_ _ | refine blk_drew ?_ | refine blk_alloc ?_ _)); exact BK104.out⟩, ⟨by repeat (first | (with_reducible first | exact HB.out | apply below_alloc | apply pw_below_drewN | apply below_drew1 | refine below_set ?_ GE104.out | refine below_set ?_ GE113.out) | exact HB.out)⟩⟩
                                  · rw [if_neg c25] at H
                                    exact absurd H (by simp)
                                · rw [if_neg c24] at H
                                  exact absurd H (by simp)
                              · rw [if_neg c23] at H
                                exact absurd H (by simp)
                            · rw [if_neg c22] at H
                              have c22b0 : decide (x45_4 < (((rd_T40 l0 x16_1).f2).length : Int)) = false := decide_eq_false c22
                              clear c22
                              have H' := Aside0.mk H
                              clear H
                              go_wp2
                              go_roundg k4
                              case measure => have := HK1.out; have := HJ7.out; have := HK3.out; have := HK4.out; omega
                              case rel => exact ⟨(x4_4), (wrap64 (x16_1 + 1)), (by first | rfl | (simp; done) | (simp [*]; done)), H', ⟨by have := HK1.out; have := HJ7.out; have := HK3.out; have := HK4.out; omega⟩, ⟨by (with_reducible repeat (first | apply Kd.R_alloc | apply Kd.R_drewN | apply Kd.R_drew)); (first | exact HO_4.out | (first | refine Kd.R_mono HO_4.out (fun _ hk => ?_) | refine Kd.S_mono HO_4.out (fun _ hk => ?_) | refine Kd.Q_mono HO_4.out (fun _ hk => ?_)); simp only [ownBlock_slice] at hk ⊢; exact hk)⟩, ⟨by repeat (first | (with_reducible first | exact HB.out | apply below_alloc | apply pw_below_drewN | apply below_drew1 | refine below_set ?_ GE104.out) | exact HB.out)⟩⟩
            · rw [if_neg c7] at H
              exact absurd H (by simp)
          · rw [if_neg c6] at H
            exact absurd H (by simp)
        · rw [if_neg c5] at H
          have c5b0 : decide (x16_1 < (l0.length : Int)) = false := decide_eq_false c5
          clear c5
          replace H := Option.bind_eq_some_iff.mp H
          obtain ⟨t102, A330, H⟩ := H
          replace H : (some (t102, 0)) = some (r1, r2) := H
          have A33 := Aside0.mk A330
          clear A330
          simp only [Option.some.injEq, Prod.mk.injEq] at H
          obtain ⟨rfl, rfl⟩ := H
          obtain ⟨Ao34, co34, eo34⟩ := Kd.R_slice HO_4.out
          subst eo34
          go_wp2_with (first | ((with_reducible refine gate_callee (f := 23) rfl ?_); refine goesL_ (some 61) rfl rfl Tryd.func23 (by kernel_rfl) rfl #[.slice Ao34 x4_1.length co34] rfl (by (try simp only [List.map_toArray, List.map_cons, List.map_nil]); first | done | rfl | (simp only [List.length_drop, List.length_take]; rfl)) ?_; (with_reducible refine (lex_Show.calls k1 _ _ x4_1 t102 _ ?side1 ?side2 ?side3 A33.out).mono ?_); (case side1 => first | exact HSH.out | exact Shp.below HSH.out (by repeat (first | (with_reducible first | exact HB.out | apply below_alloc | apply pw_below_drewN | apply below_drew1) | exact HB.out))); (case side2 => repeat (first | exact (Kd.R_reads' HO_4.out).2.2 | (with_reducible refine Kd.C_alloc ?_ _) | (with_reducible refine Kd.C_drewN ?_ _) | (with_reducible refine Kd.C_drew ?_))); (case side3 => exact (Kd.R_reads' HO_4.out).2.1); rintro e w35 ⟨rfl, hb⟩; refine ⟨_, rfl, ?_⟩; have n0_ := Aside0.mk (Kd.R_below (by (with_reducible repeat (first | apply Kd.R_alloc | apply Kd.R_drewN | apply Kd.R_drew)); (first | exact HO_4.out | (first | refine Kd.R_mono HO_4.out (fun _ hk => ?_) | refine Kd.S_mono HO_4.out (fun _ hk => ?_) | refine Kd.Q_mono HO_4.out (fun _ hk => ?_)); simp only [ownBlock_slice] at hk ⊢; exact hk)) hb); have n1_ := Aside0.mk (below_step (by repeat (first | (with_reducible first | exact HB.out | apply below_alloc | apply pw_below_drewN | apply below_drew1) | exact HB.out)) hb); clear HO_4; clear HB; have HO_4 := n0_; have HB := n1_; clear n0_ n1_; (try clear hb); (try clear hb2); (try clear hk); (try clear hi)))
          go_ret2
          exact ⟨by first | rfl | (simp [errW_none, errW_some] <;> rfl) | (simp [*, errW_none, errW_some] <;> rfl), by repeat (first | (with_reducible first | exact HB.out | apply below_alloc | apply pw_below_drewN | apply below_drew1) | exact HB.out)⟩
  · replace c3 := Bool.eq_false_iff.mpr c3
    subst c3
    have H1 : (some ((⟨#[]⟩ : ByteArray), 1)) = some (r1, r2) := by rw [if_neg (show ¬ (false = true) by decide)] at H; exact H
    clear H
    have H := H1
    clear H1
    simp only [Option.some.injEq, Prod.mk.injEq] at H
    obtain ⟨rfl, rfl⟩ := H
    go_enter Tryd.func9, Tryd.ntmps9
    go_wp2_with (first | ((with_reducible refine gate_callee (f := 12) rfl ?_); refine goesL_ (some 12) rfl rfl Tryd.func12 (by kernel_rfl) rfl #[.slice A0 l0.length c0] rfl (by (try simp only [List.map_toArray, List.map_cons, List.map_nil]); first | done | rfl | (simp only [List.length_drop, List.length_take]; rfl)) ?_; (with_reducible refine (parse_Right.calls _ _ l0 false _ ?side1 ?side2 A2.out).mono ?_); (case side1 => repeat (first | exact HR0.out | (with_reducible refine Kd.C_alloc ?_ _) | (with_reducible refine Kd.C_drewN ?_ _) | (with_reducible refine Kd.C_drew ?_))); (case side2 => exact HC0.out); rintro e w36 ⟨rfl, hb⟩; refine ⟨_, rfl, ?_⟩; have n0_ := Aside0.mk (below_step (by repeat (first | (with_reducible first | exact HB.out | apply below_alloc | apply pw_below_drewN | apply below_drew1) | exact HB.out)) hb); clear HB; have HB := n0_; clear n0_; (try clear hb); (try clear hb2); (try clear hk); (try clear hi)))
    go_ret2
    exact ⟨by first | rfl | (simp [errW_none, errW_some] <;> rfl) | (simp [*, errW_none, errW_some] <;> rfl), by repeat (first | (with_reducible first | exact HB.out | apply below_alloc | apply pw_below_drewN | apply below_drew1) | exact HB.out)⟩

/-! ### flatironlaw06_lives: function 6 -/
def flatironlaw06_lives.f  : Option (Bool) := (parse_Line.f (⟨#[97, 32, 62, 120, 32, 38, 38, 32, 98]⟩ : ByteArray)).bind fun bt120 => (if bt120.2 = 0 then (if (bt120.1.length : Int) = 2 then (if 0 < (bt120.1.length : Int) then (if (((rd_T40 bt120.1 0).f2).length : Int) = 1 then (if 0 < (((rd_T40 bt120.1 0).f2).length : Int) then (if (((rd_T42 ((rd_T40 bt120.1 0).f2) 0).f0) == 4 && ((((rd_T42 ((rd_T40 bt120.1 0).f2) 0).f1).toList) == ([120] : List UInt8))) = true then (if 1 < (bt120.1.length : Int) then (some (((rd_T40 bt120.1 1).f0) == 2)) else (none)) else (some false)) else (none)) else (some false)) else (none)) else (some false)) else (some false))
set_option maxHeartbeats 8000000 in
set_option maxRecDepth 100000 in
theorem flatironlaw06_lives.calls  (r : Bool) (w : World) (h : flatironlaw06_lives.f  = some r) :
    Calls Tryd.prog 6 #[] w fun e w' => e = .returned (.bool r) ∧ Below w.heap.size w w' := by
  have hu42 := Tryd.underlying42
  have HB := Aside0.mk (Below.refl w.heap.size w)
  have H : ((parse_Line.f (⟨#[97, 32, 62, 120, 32, 38, 38, 32, 98]⟩ : ByteArray)).bind fun bt120 => (if bt120.2 = 0 then (if (bt120.1.length : Int) = 2 then (if 0 < (bt120.1.length : Int) then (if (((rd_T40 bt120.1 0).f2).length : Int) = 1 then (if 0 < (((rd_T40 bt120.1 0).f2).length : Int) then (if (((rd_T42 ((rd_T40 bt120.1 0).f2) 0).f0) == 4 && ((((rd_T42 ((rd_T40 bt120.1 0).f2) 0).f1).toList) == ([120] : List UInt8))) = true then (if 1 < (bt120.1.length : Int) then (some (((rd_T40 bt120.1 1).f0) == 2)) else (none)) else (some false)) else (none)) else (some false)) else (none)) else (some false)) else (some false))) = some r := h
  clear h
  replace H := Option.bind_eq_some_iff.mp H
  obtain ⟨⟨t120, t121⟩, A10, H⟩ := H
  replace H : (if t121 = 0 then (if (t120.length : Int) = 2 then (if 0 < (t120.length : Int) then (if (((rd_T40 t120 0).f2).length : Int) = 1 then (if 0 < (((rd_T40 t120 0).f2).length : Int) then (if (((rd_T42 ((rd_T40 t120 0).f2) 0).f0) == 4 && ((((rd_T42 ((rd_T40 t120 0).f2) 0).f1).toList) == ([120] : List UInt8))) = true then (if 1 < (t120.length : Int) then (some (((rd_T40 t120 1).f0) == 2)) else (none)) else (some false)) else (none)) else (some false)) else (none)) else (some false)) else (some false)) = some r := H
  have A1 := Aside0.mk A10
  clear A10
  by_cases c2 : t121 = 0
  · rw [if_pos c2] at H
    have c2b0 : (t121 == 0) = true := beq_iff_eq.mpr c2
    have c2b1 : (t121 != 0) = false := bne_eq_false_iff_eq.mpr c2
    clear c2
    by_cases c3 : (t120.length : Int) = 2
    · rw [if_pos c3] at H
      have c3b0 : ((t120.length : Int) == 2) = true := beq_iff_eq.mpr c3
      have c3b1 : ((t120.length : Int) != 2) = false := bne_eq_false_iff_eq.mpr c3
      clear c3
      by_cases c4 : 0 < (t120.length : Int)
      · rw [if_pos c4] at H
        have c4b0 : decide (0 < (t120.length : Int)) = true := decide_eq_true c4
        have c4b1 : decide (0 < t120.length) = true := decide_eq_true (by omega)
        clear c4
        by_cases c5 : (((rd_T40 t120 0).f2).length : Int) = 1
        · rw [if_pos c5] at H
          have c5b0 : ((((rd_T40 t120 0).f2).length : Int) == 1) = true := beq_iff_eq.mpr c5
          have c5b1 : ((((rd_T40 t120 0).f2).length : Int) != 1) = false := bne_eq_false_iff_eq.mpr c5
          clear c5
          by_cases c6 : 0 < (((rd_T40 t120 0).f2).length : Int)
          · rw [if_pos c6] at H
            have c6b0 : decide (0 < (((rd_T40 t120 0).f2).length : Int)) = true := decide_eq_true c6
            have c6b1 : decide (0 < ((rd_T40 t120 0).f2).length) = true := decide_eq_true (by omega)
            clear c6
            by_cases c7 : (((rd_T42 ((rd_T40 t120 0).f2) 0).f0) == 4 && ((((rd_T42 ((rd_T40 t120 0).f2) 0).f1).toList) == ([120] : List UInt8))) = true
            · rw [if_pos c7] at H
              have c7b0 : (((rd_T42 ((rd_T40 t120 0).f2) 0).f0) == 4 && ((((rd_T42 ((rd_T40 t120 0).f2) 0).f1).toList) == ([120] : List UInt8))) = true := c7
              (try (have c7b1 : decide (((rd_T42 ((rd_T40 t120 0).f2) 0).f0) = 4 && ((((rd_T42 ((rd_T40 t120 0).f2) 0).f1).toList) == ([120] : List UInt8))) = true := by simpa using c7))
              (try (have c7b2 : (((rd_T42 ((rd_T40 t120 0).f2) 0).f0) == 4 && ((((rd_T42 ((rd_T40 t120 0).f2) 0).f1).toList) == ([120] : List UInt8))) = true := by simpa using c7))
              clear c7
              by_cases c8 : 1 < (t120.length : Int)
              · rw [if_pos c8] at H
                have c8b0 : decide (1 < (t120.length : Int)) = true := decide_eq_true c8
                have c8b1 : decide (1 < t120.length) = true := decide_eq_true (by omega)
                clear c8
                obtain rfl := Option.some.inj H
                go_enter Tryd.func6, Tryd.ntmps6
                go_wp2_with (first | ((with_reducible refine gate_callee (f := 7) rfl ?_); refine goesL_ (some 4) rfl rfl Tryd.func7 (by kernel_rfl) rfl #[.string (⟨#[97, 32, 62, 120, 32, 38, 38, 32, 98]⟩ : ByteArray)] rfl (by (try simp only [List.map_toArray, List.map_cons, List.map_nil]); first | done | rfl | (simp only [List.length_drop, List.length_take]; rfl)) ?_; (with_reducible refine (parse_Line.calls (⟨#[97, 32, 62, 120, 32, 38, 38, 32, 98]⟩ : ByteArray) t120 t121 _ A1.out).mono ?_); rintro e w9 ⟨v122, rfl, ho0, hb⟩; refine ⟨_, rfl, ?_⟩; have n0_ := Aside0.mk (Kd.S_lower ho0 (below_size (by repeat (first | (with_reducible first | exact HB.out | apply below_alloc | apply pw_below_drewN | apply below_drew1) | exact HB.out)))); have n1_ := Aside0.mk (below_step (by repeat (first | (with_reducible first | exact HB.out | apply below_alloc | apply pw_below_drewN | apply below_drew1) | exact HB.out)) hb); clear HB; have HO123 := n0_; have HB := n1_; clear n0_ n1_; (try clear hb); (try clear hb2); (try clear hk); (try clear hi); (try clear ho0); obtain ⟨Ao10, co10, eo10⟩ := Kd.S_slice HO123.out; subst eo10; have p124 : 0 ≤ (0 : Int) := (by omega); have q124 : 0 < (t120.length : Int) := of_decide_eq_true (by first | (with_reducible assumption) | assumption); obtain ⟨ad124, A124_1, c124_1, A124_2, c124_2, e124, hx124_0, hx124_1, hx124_2, hl124_1, hi124_1, hl124_2, hi124_2⟩ := at_T40 (Kd.S_reads' HO123.out).2.2 0 p124 q124; cases e124; obtain ⟨ce124, hce124, hMe124, hcc124⟩ := Kd.S_get HO123.out z40 0 p124 (by first | exact q124 | exact of_decide_eq_true (by first | (with_reducible assumption) | assumption) | (have e_ := (Kd.S_reads' HO123.out).1; omega)); obtain ⟨ve124_1, ve124_2, rfl, ge124_1, ge124_2⟩ := k40_openM hMe124; have hv124_1 := hcc124 1 _ rfl; rw [add_field _ _ 1 (by omega)] at hv124_1; replace hv124_1 := Option.some.inj (hv124_1.symm.trans hx124_1); rw [hv124_1] at ge124_1; have HL124_1 := Aside0.mk (show Kd.R Kd.string 9 _ _ _ _ ((rd_T40 t120 0).f1) from ge124_1); clear hv124_1 ge124_1; have hv124_2 := hcc124 2 _ rfl; rw [add_field _ _ 2 (by omega)] at hv124_2; replace hv124_2 := Option.some.inj (hv124_2.symm.trans hx124_2); rw [hv124_2] at ge124_2; have HL124_2 := Aside0.mk (show Kd.R k42 42 _ _ _ _ ((rd_T40 t120 0).f2) from ge124_2); clear hv124_2 ge124_2; clear hcc124 hce124; have qi124 : (0 < t120.length) = True := eq_true (by omega); (try rw [show ((0 : Int)).toNat = 0 from rfl] at hx124_0); (try rw [show 0 * 3 = 0 from rfl] at hx124_0); (try rw [Addr.add_zero'] at hx124_0); (try rw [show ((0 : Int)).toNat = 0 from rfl] at hx124_1); (try rw [show 0 * 3 = 0 from rfl] at hx124_1); (try rw [Addr.add_zero'] at hx124_1); (try rw [show ((0 : Int)).toNat = 0 from rfl] at hx124_2); (try rw [show 0 * 3 = 0 from rfl] at hx124_2); (try rw [Addr.add_zero'] at hx124_2); have HR124_1 := Aside0.mk hi124_1; have HC124_1 := Aside0.mk hl124_1; clear hi124_1 hl124_1; have HR124_2 := Aside0.mk hi124_2; have HC124_2 := Aside0.mk hl124_2; clear hi124_2 hl124_2; replace p124 := eq_true p124; replace q124 := eq_true q124; have p125 : 0 ≤ (0 : Int) := (by omega); have q125 : 0 < (t120.length : Int) := of_decide_eq_true (by first | (with_reducible assumption) | assumption); obtain ⟨ad125, A125_1, c125_1, A125_2, c125_2, e125, hx125_0, hx125_1, hx125_2, hl125_1, hi125_1, hl125_2, hi125_2⟩ := at_T40 (Kd.S_reads' HO123.out).2.2 0 p125 q125; obtain rfl : ad124 = ad125 := (by injection e125); obtain ⟨ce125, hce125, hMe125, hcc125⟩ := Kd.S_get HO123.out z40 0 p125 (by first | exact q125 | exact of_decide_eq_true (by first | (with_reducible assumption) | assumption) | (have e_ := (Kd.S_reads' HO123.out).1; omega)); obtain ⟨ve125_1, ve125_2, rfl, ge125_1, ge125_2⟩ := k40_openM hMe125; have hv125_1 := hcc125 1 _ rfl; rw [add_field _ _ 1 (by omega)] at hv125_1; replace hv125_1 := Option.some.inj (hv125_1.symm.trans hx125_1); rw [hv125_1] at ge125_1; have HL125_1 := Aside0.mk (show Kd.R Kd.string 9 _ _ _ _ ((rd_T40 t120 0).f1) from ge125_1); clear hv125_1 ge125_1; have hv125_2 := hcc125 2 _ rfl; rw [add_field _ _ 2 (by omega)] at hv125_2; replace hv125_2 := Option.some.inj (hv125_2.symm.trans hx125_2); rw [hv125_2] at ge125_2; have HL125_2 := Aside0.mk (show Kd.R k42 42 _ _ _ _ ((rd_T40 t120 0).f2) from ge125_2); clear hv125_2 ge125_2; clear hcc125 hce125; have qi125 : (0 < t120.length) = True := eq_true (by omega); (try rw [show ((0 : Int)).toNat = 0 from rfl] at hx125_0); (try rw [show 0 * 3 = 0 from rfl] at hx125_0); (try rw [Addr.add_zero'] at hx125_0); (try rw [show ((0 : Int)).toNat = 0 from rfl] at hx125_1); (try rw [show 0 * 3 = 0 from rfl] at hx125_1); (try rw [Addr.add_zero'] at hx125_1); (try rw [show ((0 : Int)).toNat = 0 from rfl] at hx125_2); (try rw [show 0 * 3 = 0 from rfl] at hx125_2); (try rw [Addr.add_zero'] at hx125_2); have HR125_1 := Aside0.mk hi125_1; have HC125_1 := Aside0.mk hl125_1; clear hi125_1 hl125_1; have HR125_2 := Aside0.mk hi125_2; have HC125_2 := Aside0.mk hl125_2; clear hi125_2 hl125_2; replace p125 := eq_true p125; replace q125 := eq_true q125; have ea_ := Option.some.inj (hx124_1.symm.trans hx125_1); injection ea_ with ea_ en_ ec_; subst ea_; subst ec_; clear en_; have ea_ := Option.some.inj (hx124_2.symm.trans hx125_2); injection ea_ with ea_ en_ ec_; subst ea_; subst ec_; clear en_; have p126 : 0 ≤ (0 : Int) := (by omega); have q126 : 0 < (((rd_T40 t120 0).f2).length : Int) := of_decide_eq_true (by first | (with_reducible assumption) | assumption); obtain ⟨ad126, e126, hx126_0, hx126_1⟩ := at_T42 (by repeat (first | (with_reducible exact HR125_2.out) | (with_reducible refine Kd.C_alloc ?_ _) | (with_reducible refine Kd.C_drewN ?_ _) | (with_reducible refine Kd.C_drew ?_) | exact HR125_2.out)) 0 p126 q126; cases e126; have qi126 : (0 < ((rd_T40 t120 0).f2).length) = True := eq_true (by omega); (try rw [show ((0 : Int)).toNat = 0 from rfl] at hx126_0); (try rw [show 0 * 2 = 0 from rfl] at hx126_0); (try rw [Addr.add_zero'] at hx126_0); (try rw [show ((0 : Int)).toNat = 0 from rfl] at hx126_1); (try rw [show 0 * 2 = 0 from rfl] at hx126_1); (try rw [Addr.add_zero'] at hx126_1); replace p126 := eq_true p126; replace q126 := eq_true q126; have p127 : 0 ≤ (1 : Int) := (by omega); have q127 : 1 < (t120.length : Int) := of_decide_eq_true (by first | (with_reducible assumption) | assumption); obtain ⟨ad127, A127_1, c127_1, A127_2, c127_2, e127, hx127_0, hx127_1, hx127_2, hl127_1, hi127_1, hl127_2, hi127_2⟩ := at_T40 (Kd.S_reads' HO123.out).2.2 1 p127 q127; obtain rfl : ad124 = ad127 := (by injection e127); obtain ⟨ce127, hce127, hMe127, hcc127⟩ := Kd.S_get HO123.out z40 1 p127 (by first | exact q127 | exact of_decide_eq_true (by first | (with_reducible assumption) | assumption) | (have e_ := (Kd.S_reads' HO123.out).1; omega)); obtain ⟨ve127_1, ve127_2, rfl, ge127_1, ge127_2⟩ := k40_openM hMe127; have hv127_1 := hcc127 1 _ rfl; rw [add_field _ _ 1 (by omega)] at hv127_1; replace hv127_1 := Option.some.inj (hv127_1.symm.trans hx127_1); rw [hv127_1] at ge127_1; have HL127_1 := Aside0.mk (show Kd.R Kd.string 9 _ _ _ _ ((rd_T40 t120 1).f1) from ge127_1); clear hv127_1 ge127_1; have hv127_2 := hcc127 2 _ rfl; rw [add_field _ _ 2 (by omega)] at hv127_2; replace hv127_2 := Option.some.inj (hv127_2.symm.trans hx127_2); rw [hv127_2] at ge127_2; have HL127_2 := Aside0.mk (show Kd.R k42 42 _ _ _ _ ((rd_T40 t120 1).f2) from ge127_2); clear hv127_2 ge127_2; clear hcc127 hce127; (try simp only [show (1 : Int).toNat = 1 from rfl, Nat.reduceMul, Nat.reduceEqDiff, Go.Addr.add, ↓reduceIte] at hx127_0); (try simp only [show (1 : Int).toNat = 1 from rfl, Nat.reduceMul, Nat.reduceEqDiff, Go.Addr.add, ↓reduceIte] at hx127_1); (try simp only [show (1 : Int).toNat = 1 from rfl, Nat.reduceMul, Nat.reduceEqDiff, Go.Addr.add, ↓reduceIte] at hx127_2); have qi127 : (1 < t120.length) = True := eq_true (by omega); (try rw [show ((1 : Int)).toNat = 1 from rfl] at hx127_0); (try rw [show 1 * 3 = 3 from rfl] at hx127_0); (try rw [show ((1 : Int)).toNat = 1 from rfl] at hx127_1); (try rw [show 1 * 3 = 3 from rfl] at hx127_1); (try rw [show ((1 : Int)).toNat = 1 from rfl] at hx127_2); (try rw [show 1 * 3 = 3 from rfl] at hx127_2); have HR127_1 := Aside0.mk hi127_1; have HC127_1 := Aside0.mk hl127_1; clear hi127_1 hl127_1; have HR127_2 := Aside0.mk hi127_2; have HC127_2 := Aside0.mk hl127_2; clear hi127_2 hl127_2; replace p127 := eq_true p127; replace q127 := eq_true q127))
                go_ret
                exact ⟨by first | rfl | (simp [errW_none, errW_some] <;> rfl) | (simp [*, errW_none, errW_some] <;> rfl), by repeat (first | (with_reducible first | exact HB.out | apply below_alloc | apply pw_below_drewN | apply below_drew1) | exact HB.out)⟩
              · rw [if_neg c8] at H
                exact absurd H (by simp)
            · rw [if_neg c7] at H
              have c7b0 : (((rd_T42 ((rd_T40 t120 0).f2) 0).f0) == 4 && ((((rd_T42 ((rd_T40 t120 0).f2) 0).f1).toList) == ([120] : List UInt8))) = false := by simpa using c7
              (try (have c7b1 : decide (((rd_T42 ((rd_T40 t120 0).f2) 0).f0) = 4 && ((((rd_T42 ((rd_T40 t120 0).f2) 0).f1).toList) == ([120] : List UInt8))) = false := by simpa using c7))
              (try (have c7b2 : (((rd_T42 ((rd_T40 t120 0).f2) 0).f0) == 4 && ((((rd_T42 ((rd_T40 t120 0).f2) 0).f1).toList) == ([120] : List UInt8))) = false := by simpa using c7))
              (try (have c7b3 : ¬ (((rd_T42 ((rd_T40 t120 0).f2) 0).f0) = 4 && ((((rd_T42 ((rd_T40 t120 0).f2) 0).f1).toList) == ([120] : List UInt8))) := by simpa using c7))
              clear c7
              obtain rfl := Option.some.inj H
              go_enter Tryd.func6, Tryd.ntmps6
              go_wp2_with (first | ((with_reducible refine gate_callee (f := 7) rfl ?_); refine goesL_ (some 4) rfl rfl Tryd.func7 (by kernel_rfl) rfl #[.string (⟨#[97, 32, 62, 120, 32, 38, 38, 32, 98]⟩ : ByteArray)] rfl (by (try simp only [List.map_toArray, List.map_cons, List.map_nil]); first | done | rfl | (simp only [List.length_drop, List.length_take]; rfl)) ?_; (with_reducible refine (parse_Line.calls (⟨#[97, 32, 62, 120, 32, 38, 38, 32, 98]⟩ : ByteArray) t120 t121 _ A1.out).mono ?_); rintro e w11 ⟨v122, rfl, ho0, hb⟩; refine ⟨_, rfl, ?_⟩; have n0_ := Aside0.mk (Kd.S_lower ho0 (below_size (by repeat (first | (with_reducible first | exact HB.out | apply below_alloc | apply pw_below_drewN | apply below_drew1) | exact HB.out)))); have n1_ := Aside0.mk (below_step (by repeat (first | (with_reducible first | exact HB.out | apply below_alloc | apply pw_below_drewN | apply below_drew1) | exact HB.out)) hb); clear HB; have HO123 := n0_; have HB := n1_; clear n0_ n1_; (try clear hb); (try clear hb2); (try clear hk); (try clear hi); (try clear ho0); obtain ⟨Ao12, co12, eo12⟩ := Kd.S_slice HO123.out; subst eo12; have p124 : 0 ≤ (0 : Int) := (by omega); have q124 : 0 < (t120.length : Int) := of_decide_eq_true (by first | (with_reducible assumption) | assumption); obtain ⟨ad124, A124_1, c124_1, A124_2, c124_2, e124, hx124_0, hx124_1, hx124_2, hl124_1, hi124_1, hl124_2, hi124_2⟩ := at_T40 (Kd.S_reads' HO123.out).2.2 0 p124 q124; cases e124; obtain ⟨ce124, hce124, hMe124, hcc124⟩ := Kd.S_get HO123.out z40 0 p124 (by first | exact q124 | exact of_decide_eq_true (by first | (with_reducible assumption) | assumption) | (have e_ := (Kd.S_reads' HO123.out).1; omega)); obtain ⟨ve124_1, ve124_2, rfl, ge124_1, ge124_2⟩ := k40_openM hMe124; have hv124_1 := hcc124 1 _ rfl; rw [add_field _ _ 1 (by omega)] at hv124_1; replace hv124_1 := Option.some.inj (hv124_1.symm.trans hx124_1); rw [hv124_1] at ge124_1; have HL124_1 := Aside0.mk (show Kd.R Kd.string 9 _ _ _ _ ((rd_T40 t120 0).f1) from ge124_1); clear hv124_1 ge124_1; have hv124_2 := hcc124 2 _ rfl; rw [add_field _ _ 2 (by omega)] at hv124_2; replace hv124_2 := Option.some.inj (hv124_2.symm.trans hx124_2); rw [hv124_2] at ge124_2; have HL124_2 := Aside0.mk (show Kd.R k42 42 _ _ _ _ ((rd_T40 t120 0).f2) from ge124_2); clear hv124_2 ge124_2; clear hcc124 hce124; have qi124 : (0 < t120.length) = True := eq_true (by omega); (try rw [show ((0 : Int)).toNat = 0 from rfl] at hx124_0); (try rw [show 0 * 3 = 0 from rfl] at hx124_0); (try rw [Addr.add_zero'] at hx124_0); (try rw [show ((0 : Int)).toNat = 0 from rfl] at hx124_1); (try rw [show 0 * 3 = 0 from rfl] at hx124_1); (try rw [Addr.add_zero'] at hx124_1); (try rw [show ((0 : Int)).toNat = 0 from rfl] at hx124_2); (try rw [show 0 * 3 = 0 from rfl] at hx124_2); (try rw [Addr.add_zero'] at hx124_2); have HR124_1 := Aside0.mk hi124_1; have HC124_1 := Aside0.mk hl124_1; clear hi124_1 hl124_1; have HR124_2 := Aside0.mk hi124_2; have HC124_2 := Aside0.mk hl124_2; clear hi124_2 hl124_2; replace p124 := eq_true p124; replace q124 := eq_true q124; have p125 : 0 ≤ (0 : Int) := (by omega); have q125 : 0 < (t120.length : Int) := of_decide_eq_true (by first | (with_reducible assumption) | assumption); obtain ⟨ad125, A125_1, c125_1, A125_2, c125_2, e125, hx125_0, hx125_1, hx125_2, hl125_1, hi125_1, hl125_2, hi125_2⟩ := at_T40 (Kd.S_reads' HO123.out).2.2 0 p125 q125; obtain rfl : ad124 = ad125 := (by injection e125); obtain ⟨ce125, hce125, hMe125, hcc125⟩ := Kd.S_get HO123.out z40 0 p125 (by first | exact q125 | exact of_decide_eq_true (by first | (with_reducible assumption) | assumption) | (have e_ := (Kd.S_reads' HO123.out).1; omega)); obtain ⟨ve125_1, ve125_2, rfl, ge125_1, ge125_2⟩ := k40_openM hMe125; have hv125_1 := hcc125 1 _ rfl; rw [add_field _ _ 1 (by omega)] at hv125_1; replace hv125_1 := Option.some.inj (hv125_1.symm.trans hx125_1); rw [hv125_1] at ge125_1; have HL125_1 := Aside0.mk (show Kd.R Kd.string 9 _ _ _ _ ((rd_T40 t120 0).f1) from ge125_1); clear hv125_1 ge125_1; have hv125_2 := hcc125 2 _ rfl; rw [add_field _ _ 2 (by omega)] at hv125_2; replace hv125_2 := Option.some.inj (hv125_2.symm.trans hx125_2); rw [hv125_2] at ge125_2; have HL125_2 := Aside0.mk (show Kd.R k42 42 _ _ _ _ ((rd_T40 t120 0).f2) from ge125_2); clear hv125_2 ge125_2; clear hcc125 hce125; have qi125 : (0 < t120.length) = True := eq_true (by omega); (try rw [show ((0 : Int)).toNat = 0 from rfl] at hx125_0); (try rw [show 0 * 3 = 0 from rfl] at hx125_0); (try rw [Addr.add_zero'] at hx125_0); (try rw [show ((0 : Int)).toNat = 0 from rfl] at hx125_1); (try rw [show 0 * 3 = 0 from rfl] at hx125_1); (try rw [Addr.add_zero'] at hx125_1); (try rw [show ((0 : Int)).toNat = 0 from rfl] at hx125_2); (try rw [show 0 * 3 = 0 from rfl] at hx125_2); (try rw [Addr.add_zero'] at hx125_2); have HR125_1 := Aside0.mk hi125_1; have HC125_1 := Aside0.mk hl125_1; clear hi125_1 hl125_1; have HR125_2 := Aside0.mk hi125_2; have HC125_2 := Aside0.mk hl125_2; clear hi125_2 hl125_2; replace p125 := eq_true p125; replace q125 := eq_true q125; have ea_ := Option.some.inj (hx124_1.symm.trans hx125_1); injection ea_ with ea_ en_ ec_; subst ea_; subst ec_; clear en_; have ea_ := Option.some.inj (hx124_2.symm.trans hx125_2); injection ea_ with ea_ en_ ec_; subst ea_; subst ec_; clear en_; have p126 : 0 ≤ (0 : Int) := (by omega); have q126 : 0 < (((rd_T40 t120 0).f2).length : Int) := of_decide_eq_true (by first | (with_reducible assumption) | assumption); obtain ⟨ad126, e126, hx126_0, hx126_1⟩ := at_T42 (by repeat (first | (with_reducible exact HR125_2.out) | (with_reducible refine Kd.C_alloc ?_ _) | (with_reducible refine Kd.C_drewN ?_ _) | (with_reducible refine Kd.C_drew ?_) | exact HR125_2.out)) 0 p126 q126; cases e126; have qi126 : (0 < ((rd_T40 t120 0).f2).length) = True := eq_true (by omega); (try rw [show ((0 : Int)).toNat = 0 from rfl] at hx126_0); (try rw [show 0 * 2 = 0 from rfl] at hx126_0); (try rw [Addr.add_zero'] at hx126_0); (try rw [show ((0 : Int)).toNat = 0 from rfl] at hx126_1); (try rw [show 0 * 2 = 0 from rfl] at hx126_1); (try rw [Addr.add_zero'] at hx126_1); replace p126 := eq_true p126; replace q126 := eq_true q126))
              go_ret
              exact ⟨by first | rfl | (simp [errW_none, errW_some] <;> rfl) | (simp [*, errW_none, errW_some] <;> rfl), by repeat (first | (with_reducible first | exact HB.out | apply below_alloc | apply pw_below_drewN | apply below_drew1) | exact HB.out)⟩
          · rw [if_neg c6] at H
            exact absurd H (by simp)
        · rw [if_neg c5] at H
          have c5b0 : ((((rd_T40 t120 0).f2).length : Int) == 1) = false := beq_eq_false_iff_ne.mpr c5
          have c5b1 : ((((rd_T40 t120 0).f2).length : Int) != 1) = true := bne_iff_ne.mpr c5
          obtain rfl := Option.some.inj H
          go_enter Tryd.func6, Tryd.ntmps6
          go_wp2_with (first | ((with_reducible refine gate_callee (f := 7) rfl ?_); refine goesL_ (some 4) rfl rfl Tryd.func7 (by kernel_rfl) rfl #[.string (⟨#[97, 32, 62, 120, 32, 38, 38, 32, 98]⟩ : ByteArray)] rfl (by (try simp only [List.map_toArray, List.map_cons, List.map_nil]); first | done | rfl | (simp only [List.length_drop, List.length_take]; rfl)) ?_; (with_reducible refine (parse_Line.calls (⟨#[97, 32, 62, 120, 32, 38, 38, 32, 98]⟩ : ByteArray) t120 t121 _ A1.out).mono ?_); rintro e w13 ⟨v122, rfl, ho0, hb⟩; refine ⟨_, rfl, ?_⟩; have n0_ := Aside0.mk (Kd.S_lower ho0 (below_size (by repeat (first | (with_reducible first | exact HB.out | apply below_alloc | apply pw_below_drewN | apply below_drew1) | exact HB.out)))); have n1_ := Aside0.mk (below_step (by repeat (first | (with_reducible first | exact HB.out | apply below_alloc | apply pw_below_drewN | apply below_drew1) | exact HB.out)) hb); clear HB; have HO123 := n0_; have HB := n1_; clear n0_ n1_; (try clear hb); (try clear hb2); (try clear hk); (try clear hi); (try clear ho0); obtain ⟨Ao14, co14, eo14⟩ := Kd.S_slice HO123.out; subst eo14; have p124 : 0 ≤ (0 : Int) := (by omega); have q124 : 0 < (t120.length : Int) := of_decide_eq_true (by first | (with_reducible assumption) | assumption); obtain ⟨ad124, A124_1, c124_1, A124_2, c124_2, e124, hx124_0, hx124_1, hx124_2, hl124_1, hi124_1, hl124_2, hi124_2⟩ := at_T40 (Kd.S_reads' HO123.out).2.2 0 p124 q124; cases e124; obtain ⟨ce124, hce124, hMe124, hcc124⟩ := Kd.S_get HO123.out z40 0 p124 (by first | exact q124 | exact of_decide_eq_true (by first | (with_reducible assumption) | assumption) | (have e_ := (Kd.S_reads' HO123.out).1; omega)); obtain ⟨ve124_1, ve124_2, rfl, ge124_1, ge124_2⟩ := k40_openM hMe124; have hv124_1 := hcc124 1 _ rfl; rw [add_field _ _ 1 (by omega)] at hv124_1; replace hv124_1 := Option.some.inj (hv124_1.symm.trans hx124_1); rw [hv124_1] at ge124_1; have HL124_1 := Aside0.mk (show Kd.R Kd.string 9 _ _ _ _ ((rd_T40 t120 0).f1) from ge124_1); clear hv124_1 ge124_1; have hv124_2 := hcc124 2 _ rfl; rw [add_field _ _ 2 (by omega)] at hv124_2; replace hv124_2 := Option.some.inj (hv124_2.symm.trans hx124_2); rw [hv124_2] at ge124_2; have HL124_2 := Aside0.mk (show Kd.R k42 42 _ _ _ _ ((rd_T40 t120 0).f2) from ge124_2); clear hv124_2 ge124_2; clear hcc124 hce124; have qi124 : (0 < t120.length) = True := eq_true (by omega); (try rw [show ((0 : Int)).toNat = 0 from rfl] at hx124_0); (try rw [show 0 * 3 = 0 from rfl] at hx124_0); (try rw [Addr.add_zero'] at hx124_0); (try rw [show ((0 : Int)).toNat = 0 from rfl] at hx124_1); (try rw [show 0 * 3 = 0 from rfl] at hx124_1); (try rw [Addr.add_zero'] at hx124_1); (try rw [show ((0 : Int)).toNat = 0 from rfl] at hx124_2); (try rw [show 0 * 3 = 0 from rfl] at hx124_2); (try rw [Addr.add_zero'] at hx124_2); have HR124_1 := Aside0.mk hi124_1; have HC124_1 := Aside0.mk hl124_1; clear hi124_1 hl124_1; have HR124_2 := Aside0.mk hi124_2; have HC124_2 := Aside0.mk hl124_2; clear hi124_2 hl124_2; replace p124 := eq_true p124; replace q124 := eq_true q124))
          go_ret
          exact ⟨by first | rfl | (simp [errW_none, errW_some] <;> rfl) | (simp [*, errW_none, errW_some] <;> rfl), by repeat (first | (with_reducible first | exact HB.out | apply below_alloc | apply pw_below_drewN | apply below_drew1) | exact HB.out)⟩
      · rw [if_neg c4] at H
        exact absurd H (by simp)
    · rw [if_neg c3] at H
      have c3b0 : ((t120.length : Int) == 2) = false := beq_eq_false_iff_ne.mpr c3
      have c3b1 : ((t120.length : Int) != 2) = true := bne_iff_ne.mpr c3
      obtain rfl := Option.some.inj H
      go_enter Tryd.func6, Tryd.ntmps6
      go_wp2_with (first | ((with_reducible refine gate_callee (f := 7) rfl ?_); refine goesL_ (some 4) rfl rfl Tryd.func7 (by kernel_rfl) rfl #[.string (⟨#[97, 32, 62, 120, 32, 38, 38, 32, 98]⟩ : ByteArray)] rfl (by (try simp only [List.map_toArray, List.map_cons, List.map_nil]); first | done | rfl | (simp only [List.length_drop, List.length_take]; rfl)) ?_; (with_reducible refine (parse_Line.calls (⟨#[97, 32, 62, 120, 32, 38, 38, 32, 98]⟩ : ByteArray) t120 t121 _ A1.out).mono ?_); rintro e w15 ⟨v122, rfl, ho0, hb⟩; refine ⟨_, rfl, ?_⟩; have n0_ := Aside0.mk (Kd.S_lower ho0 (below_size (by repeat (first | (with_reducible first | exact HB.out | apply below_alloc | apply pw_below_drewN | apply below_drew1) | exact HB.out)))); have n1_ := Aside0.mk (below_step (by repeat (first | (with_reducible first | exact HB.out | apply below_alloc | apply pw_below_drewN | apply below_drew1) | exact HB.out)) hb); clear HB; have HO123 := n0_; have HB := n1_; clear n0_ n1_; (try clear hb); (try clear hb2); (try clear hk); (try clear hi); (try clear ho0); obtain ⟨Ao16, co16, eo16⟩ := Kd.S_slice HO123.out; subst eo16))
      go_ret
      exact ⟨by first | rfl | (simp [errW_none, errW_some] <;> rfl) | (simp [*, errW_none, errW_some] <;> rfl), by repeat (first | (with_reducible first | exact HB.out | apply below_alloc | apply pw_below_drewN | apply below_drew1) | exact HB.out)⟩
  · rw [if_neg c2] at H
    have c2b0 : (t121 == 0) = false := beq_eq_false_iff_ne.mpr c2
    have c2b1 : (t121 != 0) = true := bne_iff_ne.mpr c2
    obtain rfl := Option.some.inj H
    go_enter Tryd.func6, Tryd.ntmps6
    go_wp2_with (first | ((with_reducible refine gate_callee (f := 7) rfl ?_); refine goesL_ (some 4) rfl rfl Tryd.func7 (by kernel_rfl) rfl #[.string (⟨#[97, 32, 62, 120, 32, 38, 38, 32, 98]⟩ : ByteArray)] rfl (by (try simp only [List.map_toArray, List.map_cons, List.map_nil]); first | done | rfl | (simp only [List.length_drop, List.length_take]; rfl)) ?_; (with_reducible refine (parse_Line.calls (⟨#[97, 32, 62, 120, 32, 38, 38, 32, 98]⟩ : ByteArray) t120 t121 _ A1.out).mono ?_); rintro e w17 ⟨v122, rfl, ho0, hb⟩; refine ⟨_, rfl, ?_⟩; have n0_ := Aside0.mk (Kd.S_lower ho0 (below_size (by repeat (first | (with_reducible first | exact HB.out | apply below_alloc | apply pw_below_drewN | apply below_drew1) | exact HB.out)))); have n1_ := Aside0.mk (below_step (by repeat (first | (with_reducible first | exact HB.out | apply below_alloc | apply pw_below_drewN | apply below_drew1) | exact HB.out)) hb); clear HB; have HO123 := n0_; have HB := n1_; clear n0_ n1_; (try clear hb); (try clear hb2); (try clear hk); (try clear hi); (try clear ho0)))
    go_ret
    exact ⟨by first | rfl | (simp [errW_none, errW_some] <;> rfl) | (simp [*, errW_none, errW_some] <;> rfl), by repeat (first | (with_reducible first | exact HB.out | apply below_alloc | apply pw_below_drewN | apply below_drew1) | exact HB.out)⟩

end Go.Proofs.YtogbdjboblfokaaDoor.XW06
/- Laid for this claim by the session's own program xprint.py, over the print of the kit: functions of the program as plain Lean functions, each with a proof that a call comes to what its function says, or the row of a law out of these; no condition of its own. -/
namespace Go.Proofs.YtogbdjboblfokaaDoor.XW06
open Go.Proofs.YtogbdjboblfokaaDoor.X Go.Proofs.YtogbdjboblfokaaDoor.XT06 Go.Proofs.YtogbdjboblfokaaDoor.XW05 Go.RowKit Go.Proofs.YtogbdjboblfokaaDoorW.PrintWords Go.Proofs.YtogbdjboblfokaaDoorW.PrintLast Go.Proofs.YtogbdjboblfokaaDoorW.PrintMore
attribute [local go_sem] cell4_1 cell4_1d max2_int min2_int max_two min_two max_three min_three max_four min_four   -- for this text's walks alone
set_option linter.unusedVariables false
set_option linter.unusedSimpArgs false

end Go.Proofs.YtogbdjboblfokaaDoor.XW06
/- parse.Right and parse.Show at commands that are a line's: plain Lean. -/
namespace Go.Proofs.YtogbdjboblfokaaDoor.X
open Go.RowKit Go.Proofs.YtogbdjboblfokaaDoorW.PrintWords Go.Proofs.YtogbdjboblfokaaDoorW.PrintLast Go.Proofs.YtogbdjboblfokaaDoorW.PrintMore Go.Proofs.YtogbdjboblfokaaDoor.XW05 Go.Proofs.YtogbdjboblfokaaDoor.XT06 Go.Proofs.YtogbdjboblfokaaDoor.XW06
set_option linter.unusedSimpArgs false
set_option linter.unusedVariables false

theorem oddT_eq (t : Int × List UInt8) : oddT (toT t) = !okTo t := by
  obtain ⟨a, s⟩ := t
  show (a != 4 && a != 5 && a != 6) = !(decide (4 ≤ a) && decide (a ≤ 6))
  by_cases h4 : a = 4
  · subst h4; rfl
  · by_cases h5 : a = 5
    · subst h5; rfl
    · by_cases h6 : a = 6
      · subst h6; rfl
      · have e4 : (a != 4) = true := by simpa using h4
        have e5 : (a != 5) = true := by simpa using h5
        have e6 : (a != 6) = true := by simpa using h6
        rw [e4, e5, e6]
        by_cases h : 4 ≤ a
        · have : ¬ a ≤ 6 := by omega
          simp [h, this]
        · simp [h]
theorem any_odd (ts : List (Int × List UInt8)) : (ts.map toT).any oddT = !ts.all okTo := by
  induction ts with
  | nil => rfl
  | cons t ts ih => rw [List.map_cons, List.any_cons, oddT_eq, ih, List.all_cons, Bool.not_and]
theorem oddC_eq (c : Cmd) : oddC (toS c) = !okCmd c := by
  obtain ⟨a, ws, ts⟩ := c
  have e1 : oddC (toS ⟨a, ws, ts⟩) = ((ts.map toT).any oddT || (ws.map B).length == 0 || (a != 1 && a != 2 && a != 3)) := rfl
  have e2 : okCmd ⟨a, ws, ts⟩ = (decide (ws ≠ []) && decide (1 ≤ a) && decide (a ≤ 3) && ts.all okTo) := rfl
  rw [e1, e2, any_odd, List.length_map]
  have h1 : (ws.length == 0) = !decide (ws ≠ []) := by cases ws <;> simp
  have h2 : (a != 1 && a != 2 && a != 3) = !(decide (1 ≤ a) && decide (a ≤ 3)) := by
    by_cases h4 : a = 1
    · subst h4; rfl
    · by_cases h5 : a = 2
      · subst h5; rfl
      · by_cases h6 : a = 3
        · subst h6; rfl
        · have e4 : (a != 1) = true := by simpa using h4
          have e5 : (a != 2) = true := by simpa using h5
          have e6 : (a != 3) = true := by simpa using h6
          rw [e4, e5, e6]
          by_cases h : 1 ≤ a
          · have : ¬ a ≤ 3 := by omega
            simp [h, this]
          · simp [h]
  rw [h1, h2]
  cases decide (ws ≠ []) <;> cases decide (1 ≤ a) <;> cases decide (a ≤ 3) <;> cases ts.all okTo <;> rfl
theorem rightU_eq (cs : List Cmd) : rightU (cs.map toS) = rightS cs := by
  unfold rightU rightS
  have h1 : ∀ cs : List Cmd, (!(cs.map toS).any oddC) = cs.all okCmd := by
    intro cs
    induction cs with
    | nil => rfl
    | cons c cs ih => rw [List.map_cons, List.any_cons, oddC_eq, Bool.not_or, ih, Bool.not_not, List.all_cons]
  rw [h1]
  cases cs with
  | nil => rfl
  | cons c cs =>
    show (_ && (c.on == 1)) = (_ && decide (c.on = 1))
    congr 1
theorem Right_eq (cs : List Cmd) (h1 : cs.length < 1000000000) (h2 : ∀ c ∈ cs, c.tos.length < 1000000000) : parse_Right.f (cs.map toS) = some (rightS cs) := by
  unfold parse_Right.f
  rw [if_pos ⟨by rw [List.length_map]; exact h1, by
    intro z hz
    obtain ⟨c, hc, rfl⟩ := List.mem_map.1 hz
    show (c.tos.map toT).length < _
    rw [List.length_map]
    exact h2 c hc⟩, rightU_eq]

theorem toksAll_snoc (l : List Cmd) (c : Cmd) : toksAll (l ++ [c]) = toksAll l ++ (if l = [] then [] else [(c.on.toNat, [])]) ++ toksCmd c := by
  cases l with
  | nil => simp [toksAll]
  | cons d l => simp [toksAll, List.flatMap_append]
theorem rd_map {α β : Type} (f : α → β) (z : β) (l : List α) (i : Nat) (h : i < l.length) : (l.map f).getD ((i : Int)).toNat z = f l[i] := by
  rw [show ((i : Int)).toNat = i from rfl, List.getD_eq_getElem?_getD, List.getElem?_map, List.getElem?_eq_getElem h]
  rfl
section
variable {v : ByteArray × Int} (X14 : List S40) (x15 x16 : Int)
theorem shw_l2 (ts : List (Int × List UInt8)) (acc : List Tok) (hb : acc.length + 2 * ts.length < 4000000) (hok : ∀ t ∈ ts, okTo t = true)
    (H : Ev (fun k => parse_Show.l0 k ((acc ++ ts.flatMap toksTo).map s83) X14 x15 (wrap64 (x16 + 1))) v) :
    ∀ i, i ≤ ts.length → Ev (fun k => parse_Show.l2 k ((acc ++ (ts.take i).flatMap toksTo).map s83) X14 x15 x16 (ts.map toT) (ts.length : Int) (i : Int)) v := by
  refine upto_ind ?_ ?_
  · refine Ev.step (fun k => by rw [parse_Show.l2]) ?_
    refine Ev.neg (by omega) ?_
    rw [List.take_length]
    exact H
  · intro i hi ih
    refine Ev.step (fun k => by rw [parse_Show.l2]) ?_
    have r : rd_T42 (ts.map toT) (i : Int) = toT ts[i] := rd_map toT _ ts i hi
    rw [r, wrap_succ i (by omega)]
    refine Ev.pos (by omega) ?_
    refine Ev.pos (by omega) ?_
    refine Ev.pos (by rw [List.length_map]; omega) ?_
    have hlen : ((ts.take i).flatMap toksTo).length = 2 * i := by
      have : ∀ l : List (Int × List UInt8), (l.flatMap toksTo).length = 2 * l.length := by
        intro l
        induction l with
        | nil => rfl
        | cons a l ih => rw [List.flatMap_cons, List.length_append, ih]; simp [toksTo]; omega
      rw [this, List.length_take]; omega
    refine Ev.bind (Ev.of rfl) ?_
    refine Ev.pos (by simp only [List.length_map, List.length_append, hlen, List.length_cons, List.length_nil]; omega) ?_
    have hk := hok _ (List.getElem_mem hi)
    simp [okTo] at hk
    rw [List.take_succ_eq_append_getElem hi, List.flatMap_append] at ih
    have e : ((acc ++ (ts.take i).flatMap toksTo).map s83 ++ [(⟨(toT ts[i]).f0, (⟨#[]⟩ : ByteArray)⟩ : S66), (⟨0, (toT ts[i]).f1⟩ : S66)]) = (acc ++ ((ts.take i).flatMap toksTo ++ [ts[i]].flatMap toksTo)).map s83 := by
      have h0 : (((ts[i].1).toNat : Nat) : Int) = ts[i].1 := by omega
      rw [← List.append_assoc, List.map_append (l₂ := [ts[i]].flatMap toksTo)]
      congr 1
      simp only [List.flatMap_cons, List.flatMap_nil, List.append_nil, toksTo, List.map_cons, List.map_nil, s83, h0]
      rfl
    rw [e]
    exact ih
theorem shw_l1 (ws : List (List UInt8)) (ts : List (Int × List UInt8)) (on : Int) (acc : List Tok) (hb : acc.length + ws.length < 4000000)
    (H : Ev (fun k => parse_Show.l2 k ((acc ++ ws.map (fun x => (0, x))).map s83) X14 x15 x16 (ts.map toT) ((ts.map toT).length : Int) 0) v) :
    ∀ i, i ≤ ws.length → Ev (fun k => parse_Show.l1 k ((acc ++ (ws.take i).map (fun x => (0, x))).map s83) X14 x15 x16 (ws.map B) (ws.length : Int) (i : Int) on (ws.map B) (ts.map toT)) v := by
  refine upto_ind ?_ ?_
  · refine Ev.step (fun k => by rw [parse_Show.l1]) ?_
    refine Ev.neg (by omega) ?_
    rw [List.take_length]
    exact H
  · intro i hi ih
    refine Ev.step (fun k => by rw [parse_Show.l1]) ?_
    have r : rdOf ByteArray.empty (ws.map B) (i : Int) = B ws[i] := by
      rw [rdOf_get _ _ _ (by rw [List.length_map]; exact hi), List.getElem_map]
    rw [r, wrap_succ i (by omega)]
    refine Ev.pos (by omega) ?_
    refine Ev.pos (by omega) ?_
    refine Ev.pos (by rw [List.length_map]; omega) ?_
    refine Ev.pos (by simp only [List.length_map, List.length_append, List.length_take]; omega) ?_
    rw [List.take_succ_eq_append_getElem hi, List.map_append (f := fun x => ((0 : Nat), x))] at ih
    have e : ((acc ++ (ws.take i).map (fun x => ((0 : Nat), x))).map s83 ++ [(⟨0, B ws[i]⟩ : S66)]) = (acc ++ ((ws.take i).map (fun x => (0, x)) ++ [ws[i]].map (fun x => (0, x)))).map s83 := by
      rw [← List.append_assoc, List.map_append (l₂ := [ws[i]].map (fun x => ((0 : Nat), x)))]
      rfl
    rw [e]
    exact ih
end
theorem toksAll_len (l : List Cmd) : ∀ i, i ≤ l.length → (toksAll (l.take i)).length ≤ (toksAll l).length := by
  refine upto_ind (by rw [List.take_length]; exact Nat.le_refl _) ?_
  intro i hi ih
  rw [List.take_succ_eq_append_getElem hi, toksAll_snoc, List.length_append, List.length_append] at ih
  omega
theorem toksCmd_len (c : Cmd) : (toksCmd c).length = c.words.length + 2 * c.tos.length := by
  have : ∀ l : List (Int × List UInt8), (l.flatMap toksTo).length = 2 * l.length := by
    intro l
    induction l with
    | nil => rfl
    | cons a l ih => rw [List.flatMap_cons, List.length_append, ih]; simp [toksTo]; omega
  rw [toksCmd, List.length_append, List.length_map, this]
theorem show_loop (cs : List Cmd) (hb : (toksAll cs).length < 3000000) (hcl : cs.length < 4000000) (hr : rightS cs = true) (hlen : ∀ x ∈ toksAll cs, x.2.length < 4000000) (hj : (joinU ((toksAll cs).map show1)).length ≤ 140737488355328) :
    ∀ i, i ≤ cs.length → Ev (fun k => parse_Show.l0 k ((toksAll (cs.take i)).map s83) (cs.map toS) (cs.length : Int) (i : Int)) (B (joinU ((toksAll cs).map show1)), 0) := by
  refine upto_ind ?_ ?_
  · refine Ev.step (fun k => by rw [parse_Show.l0]) ?_
    refine Ev.neg (by omega) ?_
    rw [List.take_length]
    refine Ev.bind (Show_ev (toksAll cs) (by omega) (toksAll_ok cs hr) hlen hj) ?_
    exact Ev.ret _
  · intro i hi ih
    have hci : okCmd cs[i] = true := by
      unfold rightS at hr
      rw [Bool.and_eq_true] at hr
      exact List.all_eq_true.1 hr.1 _ (List.getElem_mem hi)
    have hci' := hci
    simp [okCmd] at hci
    obtain ⟨⟨⟨h1, h2⟩, h3⟩, h4⟩ := hci
    have hl1 := toksAll_len cs (i + 1) (by omega)
    rw [List.take_succ_eq_append_getElem hi, toksAll_snoc, List.length_append, List.length_append, toksCmd_len] at hl1
    refine Ev.step (fun k => by rw [parse_Show.l0]) ?_
    have r : rd_T40 (cs.map toS) (i : Int) = toS cs[i] := rd_map toS _ cs i hi
    rw [r]
    refine Ev.pos (by omega) ?_
    refine Ev.pos (by omega) ?_
    refine Ev.pos (by rw [List.length_map]; omega) ?_
    rw [List.take_succ_eq_append_getElem hi, toksAll_snoc] at ih
    -- behind the mark
    have tail : ∀ acc : List Tok, acc.length + (cs[i].words.length + 2 * cs[i].tos.length) < 4000000 → Ev (fun k => parse_Show.l0 k ((acc ++ toksCmd cs[i]).map s83) (cs.map toS) (cs.length : Int) ((i + 1 : Nat) : Int)) (B (joinU ((toksAll cs).map show1)), 0) →
        Ev (fun k => parse_Show.j1 k (acc.map s83) (cs.map toS) (cs.length : Int) (i : Int) (toS cs[i]).f0 (toS cs[i]).f1 (toS cs[i]).f2) (B (joinU ((toksAll cs).map show1)), 0) := by
      intro acc ha H
      refine Ev.step (fun k => by rw [parse_Show.j1]) ?_
      have e1 : (toS cs[i]).f1 = cs[i].words.map B := rfl
      have e2 : (toS cs[i]).f2 = cs[i].tos.map toT := rfl
      rw [e1, e2, List.length_map]
      have := shw_l1 (v := (B (joinU ((toksAll cs).map show1)), 0)) (cs.map toS) (cs.length : Int) (i : Int) cs[i].words cs[i].tos (toS cs[i]).f0 acc (by omega) (by
        have h2 := shw_l2 (v := (B (joinU ((toksAll cs).map show1)), 0)) (cs.map toS) (cs.length : Int) (i : Int) cs[i].tos (acc ++ cs[i].words.map (fun x => (0, x))) (by rw [List.length_append, List.length_map]; omega) (fun t ht => h4 t.1 t.2 ht) (by
          rw [List.append_assoc, wrap_succ i (by omega)]
          exact H) 0 (Nat.zero_le _)
        rw [List.length_map]
        simpa using h2) 0 (Nat.zero_le _)
      simpa using this
    by_cases h0 : i = 0
    · subst h0
      refine Ev.neg (by omega) ?_
      have := tail [] (by simp; omega) (by simpa [toksAll] using ih)
      simpa [toksAll] using this
    · refine Ev.pos (by omega) ?_
      refine Ev.pos (by rw [List.length_map]; omega) ?_
      have hne : ¬ cs.take i = [] := by
        intro e
        have := congrArg List.length e
        rw [List.length_take, List.length_nil] at this
        omega
      rw [if_neg hne] at ih hl1
      have hon : ((cs[i].on.toNat : Nat) : Int) = cs[i].on := by omega
      have e : (toksAll (cs.take i)).map s83 ++ [(⟨(toS cs[i]).f0, (⟨#[]⟩ : ByteArray)⟩ : S66)] = (toksAll (cs.take i) ++ [(cs[i].on.toNat, [])]).map s83 := by
        rw [List.map_append]
        congr 1
        show [(⟨cs[i].on, (⟨#[]⟩ : ByteArray)⟩ : S66)] = [⟨((cs[i].on.toNat : Nat) : Int), B []⟩]
        rw [hon]; rfl
      rw [e]
      refine tail (toksAll (cs.take i) ++ [(cs[i].on.toNat, [])]) ?_ ih
      rw [List.length_append]
      simp only [List.length_cons, List.length_nil] at hl1 ⊢
      omega
theorem pShow_ev (cs : List Cmd) (hb : (toksAll cs).length < 3000000) (hcl : cs.length < 4000000) (hts : ∀ c ∈ cs, c.tos.length < 1000000000) (hr : rightS cs = true) (hlen : ∀ x ∈ toksAll cs, x.2.length < 4000000) (hj : (joinU ((toksAll cs).map show1)).length ≤ 140737488355328) :
    Ev (fun k => parse_Show.f k (cs.map toS)) (B (joinU ((toksAll cs).map show1)), 0) := by
  refine Ev.congr (fun k => by rw [parse_Show.f]) ?_
  refine Ev.bind (Ev.of (Right_eq cs (by omega) hts)) ?_
  refine Ev.pos hr ?_
  have := show_loop cs hb hcl hr hlen hj 0 (Nat.zero_le _)
  simpa [toksAll] using this
theorem pShow_bad (cs : List Cmd) (hcl : cs.length < 4000000) (hts : ∀ c ∈ cs, c.tos.length < 1000000000) (hr : rightS cs = false) : Ev (fun k => parse_Show.f k (cs.map toS)) (B [], 1) := by
  refine Ev.congr (fun k => by rw [parse_Show.f]) ?_
  refine Ev.bind (Ev.of (Right_eq cs (by omega) hts)) ?_
  refine Ev.neg (by rw [hr]; simp) ?_
  exact Ev.ret _
end Go.Proofs.YtogbdjboblfokaaDoor.X
/- Sizes of a line's commands, and of what is shown; commands come back. Plain Lean; no program. -/
namespace Go.Proofs.YtogbdjboblfokaaDoor.X
set_option linter.unusedSimpArgs false
set_option linter.unusedVariables false

def wtC (c : Cmd) : Nat := 1 + c.words.length + 2 * c.tos.length
theorem flat_to (l : List (Int × List UInt8)) : (l.flatMap toksTo).length = 2 * l.length := by
  induction l with
  | nil => rfl
  | cons a l ih => rw [List.flatMap_cons, List.length_append, ih]; simp [toksTo]; omega
theorem toksCmd_len' (c : Cmd) : (toksCmd c).length = c.words.length + 2 * c.tos.length := by
  rw [toksCmd, List.length_append, List.length_map, flat_to]
theorem toksAll_wt (l : List Cmd) : (toksAll l).length ≤ (l.map wtC).sum := by
  have h : ∀ l : List Cmd, (l.flatMap (fun d => (d.on.toNat, ([] : List UInt8)) :: toksCmd d)).length = (l.map wtC).sum := by
    intro l
    induction l with
    | nil => rfl
    | cons c l ih =>
      rw [List.flatMap_cons, List.length_append, ih, List.map_cons, List.sum_cons, List.length_cons, toksCmd_len']
      unfold wtC; omega
  cases l with
  | nil => simp [toksAll]
  | cons c l =>
    rw [toksAll, List.length_append, h, toksCmd_len', List.map_cons, List.sum_cons]
    unfold wtC; omega
theorem len_wt (l : List Cmd) : l.length ≤ (l.map wtC).sum ∧ ∀ c ∈ l, c.words.length ≤ (l.map wtC).sum ∧ c.tos.length ≤ (l.map wtC).sum := by
  induction l with
  | nil => simp
  | cons c l ih =>
    rw [List.map_cons, List.sum_cons]
    refine ⟨by rw [List.length_cons]; unfold wtC at *; omega, fun d hd => ?_⟩
    rcases List.mem_cons.1 hd with rfl | hd
    · unfold wtC; omega
    · have := ih.2 d hd; omega
theorem cmdS_wt : ∀ n (l : List Tok) (on : Int) (ws : List (List UInt8)) (ts : List (Int × List UInt8)) (c : Cmd) (r : List Tok), l.length ≤ n → cmdS on ws ts l = some (c, r) → c.words.length + 2 * c.tos.length + r.length = ws.length + 2 * ts.length + l.length := by
  intro n
  induction n with
  | zero =>
    intro l on ws ts c r hl h
    have : l = [] := List.length_eq_zero_iff.1 (by omega)
    subst this
    rw [cmdS_nil] at h
    split at h
    · simp at h
    · simp at h; obtain ⟨rfl, rfl⟩ := h; simp
  | succ n ih =>
    intro l on ws ts c r hl h
    cases l with
    | nil =>
      rw [cmdS_nil] at h
      split at h
      · simp at h
      · simp at h; obtain ⟨rfl, rfl⟩ := h; simp
    | cons a l =>
      obtain ⟨k, x⟩ := a
      simp at hl
      by_cases h0 : k = 0
      · subst h0
        rw [cmdS_word] at h
        have := ih l _ _ _ _ _ hl h
        simp at this ⊢; omega
      · by_cases h4 : 4 ≤ k
        · by_cases hr : ∃ y r', l = (0, y) :: r'
          · obtain ⟨y, r', rfl⟩ := hr
            rw [cmdS_to _ _ _ k h4] at h
            simp at hl
            have := ih r' _ _ _ _ _ (by omega) h
            simp at this ⊢; omega
          · rw [cmdS_to0 _ _ _ k h4 x l (fun y r' e => hr ⟨y, r', e⟩)] at h
            simp at h
        · rw [cmdS_end _ _ _ k h0 h4] at h
          split at h
          · simp at h
          · simp at h
            obtain ⟨rfl, rfl⟩ := h
            simp
theorem cmdS_all (P : List UInt8 → Prop) : ∀ n (l : List Tok) (on : Int) (ws : List (List UInt8)) (ts : List (Int × List UInt8)) (c : Cmd) (r : List Tok), l.length ≤ n → (∀ x ∈ l, P x.2) → (∀ x ∈ ws, P x) → (∀ t ∈ ts, P t.2) → cmdS on ws ts l = some (c, r) → (∀ x ∈ c.words, P x) ∧ (∀ t ∈ c.tos, P t.2) := by
  intro n
  induction n with
  | zero =>
    intro l on ws ts c r hl hp hw ht h
    have : l = [] := List.length_eq_zero_iff.1 (by omega)
    subst this
    rw [cmdS_nil] at h
    split at h
    · simp at h
    · simp at h; obtain ⟨rfl, rfl⟩ := h; exact ⟨hw, ht⟩
  | succ n ih =>
    intro l on ws ts c r hl hp hw ht h
    cases l with
    | nil =>
      rw [cmdS_nil] at h
      split at h
      · simp at h
      · simp at h; obtain ⟨rfl, rfl⟩ := h; exact ⟨hw, ht⟩
    | cons a l =>
      obtain ⟨k, x⟩ := a
      simp at hl
      by_cases h0 : k = 0
      · subst h0
        rw [cmdS_word] at h
        refine ih l _ _ _ _ _ hl (fun y hy => hp y (by simp [hy])) ?_ ht h
        intro y hy
        rcases List.mem_append.1 hy with hy | hy
        · exact hw y hy
        · simp at hy; subst hy; exact hp (0, y) (by simp)
      · by_cases h4 : 4 ≤ k
        · by_cases hr : ∃ y r', l = (0, y) :: r'
          · obtain ⟨y, r', rfl⟩ := hr
            rw [cmdS_to _ _ _ k h4] at h
            simp at hl
            refine ih r' _ _ _ _ _ (by omega) (fun z hz => hp z (by simp [hz])) hw ?_ h
            intro t htt
            rcases List.mem_append.1 htt with htt | htt
            · exact ht t htt
            · simp at htt; subst htt; exact hp (0, y) (by simp)
          · rw [cmdS_to0 _ _ _ k h4 x l (fun y r' e => hr ⟨y, r', e⟩)] at h
            simp at h
        · rw [cmdS_end _ _ _ k h0 h4] at h
          split at h
          · simp at h
          · simp at h
            obtain ⟨rfl, rfl⟩ := h
            exact ⟨hw, ht⟩
theorem lineS_wt (P : List UInt8 → Prop) : ∀ n (l : List Tok) (out : List Cmd) (on : Int) (res : List Cmd), l.length ≤ n → (∀ x ∈ l, P x.2) → (∀ c ∈ out, (∀ x ∈ c.words, P x) ∧ (∀ t ∈ c.tos, P t.2)) → lineS out on l = some res →
    (res.map wtC).sum ≤ (out.map wtC).sum + l.length + 1 ∧ ∀ c ∈ res, (∀ x ∈ c.words, P x) ∧ (∀ t ∈ c.tos, P t.2) := by
  intro n
  induction n with
  | zero =>
    intro l out on res hl hp ho h
    have : l = [] := List.length_eq_zero_iff.1 (by omega)
    subst this
    rw [lineS_nil] at h
    simp at h; subst h
    exact ⟨by simp, ho⟩
  | succ n ih =>
    intro l out on res hl hp ho h
    by_cases hn : l = []
    · subst hn
      rw [lineS_nil] at h
      simp at h; subst h
      exact ⟨by simp, ho⟩
    · cases hc : cmdS on [] [] l with
      | none => rw [lineS_bad _ _ _ hn hc] at h; simp at h
      | some cr =>
        obtain ⟨c, r⟩ := cr
        have hwt := cmdS_wt _ l on [] [] c r (Nat.le_refl _) hc
        obtain ⟨_, ⟨p, hp2⟩, _⟩ := cmdS_rest _ l _ _ _ _ _ (Nat.le_refl _) hc
        have hall := cmdS_all P _ l on [] [] c r (Nat.le_refl _) hp (by simp) (by simp) hc
        have ho' : ∀ d ∈ out ++ [c], (∀ x ∈ d.words, P x) ∧ (∀ t ∈ d.tos, P t.2) := by
          intro d hd
          rcases List.mem_append.1 hd with hd | hd
          · exact ho d hd
          · simp at hd; subst hd; exact hall
        have hless := cmdS_less l on c r hc
        have hsum : ((out ++ [c]).map wtC).sum = (out.map wtC).sum + wtC c := by simp
        have hwc : wtC c = 1 + (c.words.length + 2 * c.tos.length) := by unfold wtC; omega
        simp only [List.length_nil, Nat.mul_zero, Nat.zero_add] at hwt
        cases r with
        | nil =>
          rw [lineS_last _ _ _ hn c hc] at h
          simp only [Option.some.injEq] at h
          subst h
          simp only [List.length_nil] at hwt
          exact ⟨by rw [hsum, hwc]; omega, ho'⟩
        | cons a m =>
          obtain ⟨k, x⟩ := a
          rw [lineS_more _ _ _ hn c k x m hc] at h
          split at h
          · simp at h
          · simp only [List.length_cons] at hwt hless
            obtain ⟨g1, g2⟩ := ih m _ _ res (by omega) (fun y hy => hp y (by rw [hp2]; simp [hy])) ho' h
            rw [hsum, hwc] at g1
            exact ⟨by omega, g2⟩
theorem toksAll_all (P : List UInt8 → Prop) (h0 : P []) (l : List Cmd) (h : ∀ c ∈ l, (∀ x ∈ c.words, P x) ∧ (∀ t ∈ c.tos, P t.2)) : ∀ x ∈ toksAll l, P x.2 := by
  have h1 : ∀ c : Cmd, ((∀ x ∈ c.words, P x) ∧ (∀ t ∈ c.tos, P t.2)) → ∀ x ∈ toksCmd c, P x.2 := by
    intro c hc x hx
    simp only [toksCmd, List.mem_append, List.mem_map, List.mem_flatMap] at hx
    rcases hx with ⟨y, hy, rfl⟩ | ⟨t, ht, hx⟩
    · exact hc.1 y hy
    · simp [toksTo] at hx
      rcases hx with rfl | rfl
      · exact h0
      · exact hc.2 t ht
  cases l with
  | nil => simp [toksAll]
  | cons c l =>
    intro x hx
    simp only [toksAll, List.mem_append, List.mem_flatMap] at hx
    rcases hx with hx | ⟨d, hd, hx⟩
    · exact h1 c (h c (by simp)) x hx
    · rcases List.mem_cons.1 hx with rfl | hx
      · exact h0
      · exact h1 d (h d (by simp [hd])) x hx
theorem shown_len (cs : List Cmd) (h1 : (toksAll cs).length ≤ 5000) (h2 : ∀ x ∈ toksAll cs, x.2.length ≤ 1000) : (joinU ((toksAll cs).map show1)).length ≤ 5000 * (4002 + 1) := by
  have h := joinU_len 4002 ((toksAll cs).map show1) (by
    intro x hx
    obtain ⟨y, hy, rfl⟩ := List.mem_map.1 hx
    have := show1_len y
    have := h2 y hy
    omega)
  rw [List.length_map] at h
  exact Nat.le_trans h (Nat.mul_le_mul_right _ h1)
end Go.Proofs.YtogbdjboblfokaaDoor.X
/- flatironlaw06.same at two lists that are one: true; as a contract; condition: fewer than 1000000000 commands, words and ways of each. -/
namespace Go.Proofs.YtogbdjboblfokaaDoor.X
open Go.RowKit Go.Proofs.YtogbdjboblfokaaDoorW.PrintWords Go.Proofs.YtogbdjboblfokaaDoorW.PrintLast Go.Proofs.YtogbdjboblfokaaDoorW.PrintMore Go.Proofs.YtogbdjboblfokaaDoor.XW05 Go.Proofs.YtogbdjboblfokaaDoor.XT06
set_option linter.unusedSimpArgs false
set_option linter.unusedVariables false

theorem equalS_loop (A : List ByteArray) (hl : A.length < 1000000000) : ∀ i, i ≤ A.length → Ev (fun k => slices_Equal_string_string.l0 k A A (A.length : Int) (i : Int)) true := by
  refine upto_ind ?_ ?_
  · refine Ev.step (fun k => by rw [slices_Equal_string_string.l0]) ?_
    refine Ev.neg (by omega) ?_
    exact Ev.ret _
  · intro i hi ih
    refine Ev.step (fun k => by rw [slices_Equal_string_string.l0]) ?_
    rw [wrap_succ i (by omega)]
    refine Ev.pos (by omega) ?_
    refine Ev.pos (by omega) ?_
    refine Ev.pos (by omega) ?_
    refine Ev.pos (by omega) ?_
    refine Ev.pos rfl ?_
    exact ih
theorem equalS_ev (A : List ByteArray) (hl : A.length < 1000000000) : Ev (fun k => slices_Equal_string_string.f k A A) true := by
  refine Ev.congr (fun k => by rw [slices_Equal_string_string.f]) ?_
  refine Ev.pos rfl ?_
  exact equalS_loop A hl 0 (Nat.zero_le _)
theorem equalT_loop (A : List S77) (hl : A.length < 1000000000) : ∀ i, i ≤ A.length → Ev (fun k => flatironref06_To.l0 k A A (A.length : Int) (i : Int)) true := by
  refine upto_ind ?_ ?_
  · refine Ev.step (fun k => by rw [flatironref06_To.l0]) ?_
    refine Ev.neg (by omega) ?_
    exact Ev.ret _
  · intro i hi ih
    refine Ev.step (fun k => by rw [flatironref06_To.l0]) ?_
    rw [wrap_succ i (by omega)]
    refine Ev.pos (by omega) ?_
    refine Ev.pos (by omega) ?_
    refine Ev.pos (by omega) ?_
    refine Ev.pos (by omega) ?_
    refine Ev.neg (by simp) ?_
    exact ih
theorem equalT_ev (A : List S77) (hl : A.length < 1000000000) : Ev (fun k => flatironref06_To.f k A A) true := by
  refine Ev.congr (fun k => by rw [flatironref06_To.f]) ?_
  refine Ev.pos rfl ?_
  exact equalT_loop A hl 0 (Nat.zero_le _)
theorem refRow {w : World} {A : Option Addr} {n : Nat} {xs : List S73} (h : Kd.C k73 w A n xs) (hn : 0 < n) :
    ∃ b o, A = some ⟨b, o, none⟩ ∧ b < w.heap.size ∧ ∀ (j : Nat) (hj : j < xs.length), ∃ A1 c1 A2 c2, w.cell? ⟨b, o + j * 3, none⟩ = some (.int .i64 xs[j].f0) ∧ w.cell? ⟨b, o + j * 3 + 1, none⟩ = some (.slice A1 xs[j].f1.length c1) ∧ w.cell? ⟨b, o + j * 3 + 2, none⟩ = some (.slice A2 xs[j].f2.length c2) ∧
      xs[j].f1.length ≤ c1 ∧ Kd.string.C w A1 xs[j].f1.length xs[j].f1 ∧ xs[j].f2.length ≤ c2 ∧ Kd.C k77 w A2 xs[j].f2.length xs[j].f2 := by
  obtain ⟨b, o, rfl, hb, hc⟩ := C_form h hn (show 0 < k73.sz by decide)
  refine ⟨b, o, rfl, hb, fun j hj => ?_⟩
  obtain ⟨c, hcl, hk, hcc⟩ := hc j hj
  obtain ⟨A1, c1, A2, c2, rfl, l1, g1, l2, g2⟩ := k73_open hk
  exact ⟨A1, c1, A2, c2, hcc 0 _ rfl, hcc 1 _ rfl, hcc 2 _ rfl, l1, g1, l2, g2⟩
/-- A command's value reads as x. -/
def ReadsC (w : World) (x : S73) (A1 : Option Addr) (c1 : Nat) (A2 : Option Addr) (c2 : Nat) : Prop := x.f1.length ≤ c1 ∧ Kd.string.C w A1 x.f1.length x.f1 ∧ x.f2.length ≤ c2 ∧ Kd.C k77 w A2 x.f2.length x.f2
theorem ReadsC.below {w W : World} {x : S73} {A1 A2 : Option Addr} {c1 c2 : Nat} (h : ReadsC w x A1 c1 A2 c2) (hb : Below w.heap.size w W) : ReadsC W x A1 c1 A2 c2 := ⟨h.1, Kd.C_below h.2.1 hb, h.2.2.1, Kd.C_below h.2.2.2 hb⟩
set_option maxRecDepth 100000 in
set_option maxHeartbeats 4000000 in
theorem sameLit_calls (x : S73) (A1 A2 B1 B2 : Option Addr) (c1 c2 d1 d2 : Nat) (w : World) (h : ReadsC w x A1 c1 A2 c2) (h' : ReadsC w x B1 d1 B2 d2) (hl1 : x.f1.length < 1000000000) (hl2 : x.f2.length < 1000000000) :
    Calls Tryd.prog 25 #[.agg #[.int .i64 x.f0, .slice A1 x.f1.length c1, .slice A2 x.f2.length c2], .agg #[.int .i64 x.f0, .slice B1 x.f1.length d1, .slice B2 x.f2.length d2]] w fun e w' => e = .returned (.bool true) ∧ Below w.heap.size w w' := by
  obtain ⟨k1, hk1⟩ := (equalS_ev x.f1 hl1).get
  obtain ⟨k2, hk2⟩ := (equalT_ev x.f2 hl2).get
  obtain ⟨a, ws, ts⟩ := x
  simp only at h h' hl1 hl2 hk1 hk2 ⊢
  have b1 := blk_alloc (blk_new w (.cells #[.int .i64 a, .slice A1 ws.length c1, .slice A2 ts.length c2] 73 (0, 0))) (.cells #[.int .i64 a, .slice B1 ws.length d1, .slice B2 ts.length d2] 73)
  have b2 := blk_new (w.alloc (.cells #[.int .i64 a, .slice A1 ws.length c1, .slice A2 ts.length c2] 73)) (.cells #[.int .i64 a, .slice B1 ws.length d1, .slice B2 ts.length d2] 73 (0, 0))
  rw [show (w.alloc (.cells #[.int .i64 a, .slice A1 ws.length c1, .slice A2 ts.length c2] 73)).heap.size = w.heap.size + 1 by simp] at b2
  have HB := Aside0.mk (show Below w.heap.size w ((w.alloc (.cells #[.int .i64 a, .slice A1 ws.length c1, .slice A2 ts.length c2] 73)).alloc (.cells #[.int .i64 a, .slice B1 ws.length d1, .slice B2 ts.length d2] 73)) from below_alloc (below_alloc (Below.refl _ _) _) _)
  have HH := Aside0.mk (And.intro (h.below HB.out) (h'.below HB.out))
  have HN1 := Aside0.mk b1
  have HN2 := Aside0.mk b2
  have e0 := blk_cell b1 0
  have e1 := blk_cell b1 1
  have g0 := blk_cell b2 0
  have g1 := blk_cell b2 1
  have HK1 := Aside0.mk hk1
  have HK2 := Aside0.mk hk2
  clear h h' b1 b2 hk1 hk2
  go_enter Tryd.func25, Tryd.ntmps25
  go_wp2_with (first | (go_at_call 26; refine (slices_Equal_string_string.calls k1 A1 c1 ws B1 d1 ws true _ HH.out.1.2.1 HH.out.1.1 HH.out.2.2.1 HH.out.2.1 HK1.out).mono ?_; rintro ea wa ⟨rfl, hda⟩; have ba := blk_below HN1.out hda.below; have bb := blk_below HN2.out hda.below; have e2 := blk_cell ba 2; have g2 := blk_cell bb 2; have HDA := Aside0.mk hda.below; clear hda ba bb) | (go_at_call 27; refine (flatironref06_To.calls k2 A2 c2 ts B2 d2 ts true _ (HH.out.1.below HDA.out).2.2.2 HH.out.1.2.2.1 (HH.out.2.below HDA.out).2.2.2 HH.out.2.2.2.1 HK2.out).mono ?_; rintro eb wb ⟨rfl, hdb⟩; have HDB := Aside0.mk (below_step (below_step HB.out HDA.out) hdb.below); clear hdb))
  go_ret
  exact ⟨rfl, HDB.out⟩
set_option maxRecDepth 100000 in
set_option maxHeartbeats 4000000 in
theorem equalF_calls (A0 A1 : Option Addr) (c0 c1 : Nat) (zs : List S73) (w : World) (h : Kd.C k73 w A0 zs.length zs) (h' : Kd.C k73 w A1 zs.length zs) (hl : zs.length < 1000000000) (hls : ∀ z ∈ zs, z.f1.length < 1000000000 ∧ z.f2.length < 1000000000) :
    Calls Tryd.prog 24 #[.slice A0 zs.length c0, .slice A1 zs.length c1, .func (.func 25) #[] #[]] w fun e w' => e = .returned (.bool true) ∧ Below w.heap.size w w' := by
  have HC := Aside0.mk h
  have HC' := Aside0.mk h'
  have HLS := Aside0.mk hls
  clear h h' hls
  go_enter Tryd.func24, Tryd.ntmps24
  go_wp2
  go_loopg [17] zs.length (fun g v17 wr => ∃ (kk : Nat) (wo : World), wo = wr ∧ kk ≤ zs.length ∧ zs.length - kk ≤ g ∧ v17 = .int .i64 (kk : Int) ∧ Aside0 (Below w.heap.size w wo))
  case atStart => exact ⟨0, _, rfl, Nat.zero_le _, by omega, rfl, ⟨Below.refl _ _⟩⟩
  case round =>
    obtain ⟨kk, wo, rfl, hkk, hg, rfl, HB⟩ := hrel
    by_cases hlt : kk < zs.length
    · obtain ⟨b, o, rfl, hb, hcc⟩ := refRow (Kd.C_below HC.out HB.out) (by omega)
      obtain ⟨b', o', rfl, hb', hcc'⟩ := refRow (Kd.C_below HC'.out HB.out) (by omega)
      obtain ⟨P1, p1, P2, p2, d0, d1, d2, dr⟩ := hcc kk hlt
      obtain ⟨Q1, q1, Q2, q2, f0, f1, f2, fr⟩ := hcc' kk hlt
      obtain ⟨z, hz⟩ : ∃ z, zs[kk] = z := ⟨_, rfl⟩
      rw [hz] at d0 d1 d2 dr f0 f1 f2 fr
      have hzl := HLS.out z (by rw [← hz]; exact List.getElem_mem _)
      have X1 : Below wo.heap.size wo (wo.alloc (.cells #[.int .i64 z.f0, .slice P1 z.f1.length p1, .slice P2 z.f2.length p2] 73)) := below_alloc (Below.refl _ _) _
      have X2 := below_alloc X1 (.cells #[.int .i64 z.f0, .slice Q1 z.f1.length q1, .slice Q2 z.f2.length q2] 73)
      have f0' := (X1.cell (World.block_lt_of_cell? wo _ f0)).trans f0
      have f1' := (X1.cell (World.block_lt_of_cell? wo _ f1)).trans f1
      have f2' := (X1.cell (World.block_lt_of_cell? wo _ f2)).trans f2
      have n1 := blk_alloc (blk_new wo (.cells #[.int .i64 z.f0, .slice P1 z.f1.length p1, .slice P2 z.f2.length p2] 73 (0, 0))) (.cells #[.int .i64 z.f0, .slice Q1 z.f1.length q1, .slice Q2 z.f2.length q2] 73)
      have n2 := blk_new (wo.alloc (.cells #[.int .i64 z.f0, .slice P1 z.f1.length p1, .slice P2 z.f2.length p2] 73)) (.cells #[.int .i64 z.f0, .slice Q1 z.f1.length q1, .slice Q2 z.f2.length q2] 73 (0, 0))
      rw [show (wo.alloc (.cells #[.int .i64 z.f0, .slice P1 z.f1.length p1, .slice P2 z.f2.length p2] 73)).heap.size = wo.heap.size + 1 by simp] at n2
      have n10 := blk_cell n1 0
      have n11 := blk_cell n1 1
      have n12 := blk_cell n1 2
      have n20 := blk_cell n2 0
      have n21 := blk_cell n2 1
      have n22 := blk_cell n2 2
      have HR := Aside0.mk (And.intro (ReadsC.below (show ReadsC wo z P1 p1 P2 p2 from dr) X2) (ReadsC.below (show ReadsC wo z Q1 q1 Q2 q2 from fr) X2))
      have HX := Aside0.mk (below_step HB.out X2)
      have HZL := Aside0.mk hzl
      clear hcc hcc' hz dr fr X1 X2 n1 n2 hzl
      go_wp2_with (go_at_call 25; refine (sameLit_calls z P1 P2 Q1 Q2 p1 p2 q1 q2 _ HR.out.1 HR.out.2 HZL.out.1 HZL.out.2).mono ?_; rintro e2 w2 ⟨rfl, hb2⟩; have HB2 := Aside0.mk (below_step HX.out hb2); clear hb2)
      go_roundg (gk - 1)
      case measure => omega
      case rel => exact ⟨kk + 1, _, rfl, by omega, by omega, by go_num, HB2⟩
    · go_wp2
      go_ret
      exact ⟨rfl, HB.out⟩
set_option maxRecDepth 100000 in
theorem same_calls (A0 A1 : Option Addr) (c0 c1 : Nat) (zs : List S73) (w : World) (h : Kd.C k73 w A0 zs.length zs) (h' : Kd.C k73 w A1 zs.length zs) (hl : zs.length < 1000000000) (hls : ∀ z ∈ zs, z.f1.length < 1000000000 ∧ z.f2.length < 1000000000) :
    Calls Tryd.prog 10 #[.slice A0 zs.length c0, .slice A1 zs.length c1] w fun e w' => e = .returned (.bool true) ∧ Below w.heap.size w w' := by
  have HC := Aside0.mk h
  have HC' := Aside0.mk h'
  have HLS := Aside0.mk hls
  clear h h' hls
  go_enter Tryd.func10, Tryd.ntmps10
  go_wp2_with (go_at_call 24; refine (equalF_calls A0 A1 c0 c1 zs _ HC.out HC'.out hl HLS.out).mono ?_; rintro e2 w2 ⟨rfl, hb2⟩)
  go_ret
  exact ⟨rfl, hb2⟩
end Go.Proofs.YtogbdjboblfokaaDoor.X
/- The law ParseLines, walked: for every text it answers true. -/
namespace Go.Proofs.YtogbdjboblfokaaDoor.X
open Go.RowKit Go.Proofs.YtogbdjboblfokaaDoorW.PrintWords Go.Proofs.YtogbdjboblfokaaDoorW.PrintLast Go.Proofs.YtogbdjboblfokaaDoorW.PrintMore Go.Proofs.YtogbdjboblfokaaDoor.XW05 Go.Proofs.YtogbdjboblfokaaDoor.XT06 Go.Proofs.YtogbdjboblfokaaDoor.XW06
set_option linter.unusedSimpArgs false
set_option linter.unusedVariables false

theorem parse_back (cs : List Cmd) (h : rightS cs = true) : parseU (joinU ((toksAll cs).map show1)) = some cs := by
  unfold parseU
  rw [tokS_show (toksAll cs) (toksAll_ok cs h) []]
  exact lineS_shown cs h
/-- Few commands, with short texts. -/
def smallC (cs : List Cmd) : Prop := cs.length ≤ 3000 ∧ (toksAll cs).length ≤ 5000 ∧ (∀ x ∈ toksAll cs, x.2.length ≤ 1000) ∧ ∀ c ∈ cs, c.words.length ≤ 3000 ∧ c.tos.length ≤ 3000
theorem parseU_small (l : List UInt8) (hl : l.length ≤ 1000) (cs : List Cmd) (h : parseU l = some cs) : smallC cs ∧ rightS cs = true := by
  unfold parseU at h
  cases ht : tokS [] l with
  | none => rw [ht] at h; simp at h
  | some toks =>
    rw [ht] at h
    simp only at h
    obtain ⟨h1, h2⟩ := tokS_len 1000 _ l [] toks (Nat.le_refl _) hl (by simp) ht
    simp only [List.length_nil, Nat.zero_add] at h1
    have h6 : ∀ x ∈ toks, x.1 ≤ 6 := by
      intro x hx
      rcases tokS_ok _ l [] toks (Nat.le_refl _) (by simp) ht x hx with h | h
      · omega
      · exact h.2.1
    obtain ⟨g1, g2⟩ := lineS_wt (fun t => t.length ≤ 1000) _ toks [] 1 cs (Nat.le_refl _) h2 (by simp) h
    simp only [List.map_nil, List.sum_nil, Nat.zero_add] at g1
    have g3 := toksAll_wt cs
    obtain ⟨g4, g5⟩ := len_wt cs
    exact ⟨⟨by omega, by omega, toksAll_all (fun t => t.length ≤ 1000) (by simp) cs g2, fun c hc => by have := g5 c hc; omega⟩, lineS_right toks cs h6 h⟩
theorem smallC_S {cs : List Cmd} (h : smallC cs) : ∀ z ∈ cs.map toS, z.f2.length < 1000000000 := by
  intro z hz
  obtain ⟨c, hc, rfl⟩ := List.mem_map.1 hz
  have := (h.2.2.2 c hc).2
  show (c.tos.map toT).length < _
  rw [List.length_map]; omega
theorem smallC_R {cs : List Cmd} (h : smallC cs) : ∀ z ∈ cs.map rC, z.f1.length < 1000000000 ∧ z.f2.length < 1000000000 := by
  intro z hz
  obtain ⟨c, hc, rfl⟩ := List.mem_map.1 hz
  have := h.2.2.2 c hc
  rw [rC_eq]
  constructor
  · show (c.words.map B).length < _
    rw [List.length_map]; omega
  · show (c.tos.map rT).length < _
    rw [List.length_map]; omega

/-! the calls, over commands -/
theorem ln_some (l : List UInt8) (hl : l.length < 500000000) (cs : List Cmd) (h : parseU l = some cs) (w : World) :
    Calls Tryd.prog 7 #[.string (B l)] w fun e w' => ∃ A c, e = .returned (.tuple #[.slice A cs.length c, .int .i64 0]) ∧ cs.length ≤ c ∧ Kd.C k40 w' A cs.length (cs.map toS) ∧ Below w.heap.size w w' := by
  refine (parse_Line.calls (B l) (cs.map toS) 0 w (by unfold parse_Line.f; rw [if_pos (by rw [B_size]; exact hl), B_data, h]; rfl)).mono ?_
  rintro e w1 ⟨v, rfl, hS, hb⟩
  obtain ⟨A, c, ev, hc, hC⟩ := Kd.S_reads hS
  subst ev
  rw [List.length_map] at hc hC ⊢
  exact ⟨A, c, rfl, hc, hC, hb⟩
theorem ln_none (l : List UInt8) (hl : l.length < 500000000) (h : parseU l = none) (w : World) :
    Calls Tryd.prog 7 #[.string (B l)] w fun e w' => ∃ A c, e = .returned (.tuple #[.slice A 0 c, .int .i64 6]) ∧ Below w.heap.size w w' := by
  refine (parse_Line.calls (B l) [] 6 w (by unfold parse_Line.f; rw [if_pos (by rw [B_size]; exact hl), B_data, h]; rfl)).mono ?_
  rintro e w1 ⟨v, rfl, hS, hb⟩
  obtain ⟨A, c, ev⟩ := Kd.S_slice hS
  subst ev
  exact ⟨A, c, rfl, hb⟩
theorem rf_line (l : List UInt8) (hl : l.length < 1000000) (w : World) :
    Calls Tryd.prog 8 #[.string (B l)] w fun e w' => ∃ A n c, e = .returned (.tuple #[.slice A n c, .bool (parseU l).isSome]) ∧ (∀ cs, parseU l = some cs → n = cs.length ∧ cs.length ≤ c ∧ Kd.C k73 w' A cs.length (cs.map rC)) ∧ Below w.heap.size w w' := by
  obtain ⟨r1, e1, e2⟩ := refLine_ev l hl
  obtain ⟨k, hk⟩ := e1.get
  refine (flatironref06_Line.calls k (B l) r1 _ w hk).mono ?_
  rintro e w1 ⟨v, rfl, hS, hb⟩
  obtain ⟨A, c, ev, hc, hC⟩ := Kd.S_reads hS
  subst ev
  refine ⟨A, _, c, rfl, fun cs h => ?_, hb⟩
  have := e2 cs h
  subst this
  rw [List.length_map] at hc hC ⊢
  exact ⟨rfl, hc, hC⟩
theorem sh_ok (cs : List Cmd) (hs : smallC cs) (hr : rightS cs = true) (A : Option Addr) (c : Nat) (w : World) (hSH : Shp w) (hC : Kd.C k40 w A cs.length (cs.map toS)) (hc : cs.length ≤ c) :
    Calls Tryd.prog 9 #[.slice A cs.length c] w fun e w' => e = .returned (.tuple #[.string (B (joinU ((toksAll cs).map show1))), .int .i64 0]) ∧ Below w.heap.size w w' := by
  have hj := shown_len cs hs.2.1 hs.2.2.1
  obtain ⟨k, hk⟩ := (pShow_ev cs (by have := hs.2.1; omega) (by have := hs.1; omega) (fun d hd => by have := (hs.2.2.2 d hd).2; omega) hr (fun x hx => by have := hs.2.2.1 x hx; omega) (by omega)).get
  have := parse_Show.calls k A c (cs.map toS) _ 0 w hSH (by rw [List.length_map]; exact hC) (by rw [List.length_map]; exact hc) hk
  rw [List.length_map] at this
  exact this
theorem rt_ok (cs : List Cmd) (hs : smallC cs) (A : Option Addr) (c : Nat) (w : World) (hC : Kd.C k40 w A cs.length (cs.map toS)) (hc : cs.length ≤ c) :
    Calls Tryd.prog 12 #[.slice A cs.length c] w fun e w' => e = .returned (.bool (rightS cs)) ∧ Below w.heap.size w w' := by
  have := parse_Right.calls A c (cs.map toS) _ w (by rw [List.length_map]; exact hC) (by rw [List.length_map]; exact hc) (Right_eq cs (by have := hs.1; omega) (fun d hd => by have := (hs.2.2.2 d hd).2; omega))
  rw [List.length_map] at this
  exact this
theorem of_ok (cs : List Cmd) (hs : smallC cs) (A : Option Addr) (c : Nat) (w : World) (hC : Kd.C k40 w A cs.length (cs.map toS)) :
    Calls Tryd.prog 11 #[.slice A cs.length c] w fun e w' => ∃ A' c', e = .returned (.slice A' cs.length c') ∧ cs.length ≤ c' ∧ Kd.C k73 w' A' cs.length (cs.map rC) ∧ Below w.heap.size w w' := by
  have := of_calls A c (cs.map toS) w (by rw [List.length_map]; exact hC) (by rw [List.length_map]; have := hs.1; omega) (smallC_S hs)
  rw [List.length_map, List.map_map] at this
  exact this
theorem sm_ok (cs : List Cmd) (hs : smallC cs) (A A1 : Option Addr) (c c1 : Nat) (w : World) (hC : Kd.C k73 w A cs.length (cs.map rC)) (hC' : Kd.C k73 w A1 cs.length (cs.map rC)) :
    Calls Tryd.prog 10 #[.slice A cs.length c, .slice A1 cs.length c1] w fun e w' => e = .returned (.bool true) ∧ Below w.heap.size w w' := by
  have := same_calls A A1 c c1 (cs.map rC) w (by rw [List.length_map]; exact hC) (by rw [List.length_map]; exact hC') (by rw [List.length_map]; have := hs.1; omega) (smallC_R hs)
  rw [List.length_map] at this
  exact this

theorem lives_toks : tokS [] [97, 32, 62, 120, 32, 38, 38, 32, 98] = some [(0, [97]), (4, []), (0, [120]), (2, []), (0, [98])] := by
  rw [tokS_word [] 97 _ (by decide) (by decide) [97] [32, 62, 120, 32, 38, 38, 32, 98] (by rw [wS_one _ _ _ (by decide) (by decide) (by decide) (by decide), wS_stop _ _ _ (by decide)]; rfl)]
  rw [tokS_blk _ 32 _ (by decide)]
  rw [tokS_mark _ 62 _ (by decide) 4 1 [120, 32, 38, 38, 32, 98] (by decide)]
  rw [tokS_word _ 120 _ (by decide) (by decide) [120] [32, 38, 38, 32, 98] (by rw [wS_one _ _ _ (by decide) (by decide) (by decide) (by decide), wS_stop _ _ _ (by decide)]; rfl)]
  rw [tokS_blk _ 32 _ (by decide)]
  rw [tokS_mark _ 38 _ (by decide) 2 2 [32, 98] (by decide)]
  rw [tokS_blk _ 32 _ (by decide)]
  rw [tokS_word _ 98 _ (by decide) (by decide) [98] [] (by rw [wS_one _ _ _ (by decide) (by decide) (by decide) (by decide), wS_nil]; rfl)]
  rw [tokS_nil]
  rfl
theorem lives_line : parseU [97, 32, 62, 120, 32, 38, 38, 32, 98] = some [⟨1, [[97]], [(4, [120])]⟩, ⟨2, [[98]], []⟩] := by
  unfold parseU
  rw [lives_toks]
  show lineS [] 1 _ = _
  rw [lineS_more [] 1 _ (by simp) ⟨1, [[97]], [(4, [120])]⟩ 2 [] [(0, [98])] (by rw [cmdS_word, cmdS_to _ _ _ 4 (by decide), cmdS_end _ _ _ 2 (by decide) (by decide)]; rfl)]
  rw [if_neg (by simp)]
  rw [lineS_last _ _ _ (by simp) ⟨2, [[98]], []⟩ (by rw [cmdS_word, cmdS_nil]; rfl)]
  rfl
theorem lives06 : flatironlaw06_lives.f = some true := by
  unfold flatironlaw06_lives.f
  have h : parse_Line.f (⟨#[97, 32, 62, 120, 32, 38, 38, 32, 98]⟩ : ByteArray) = some (resL (some [⟨1, [[97]], [(4, [120])]⟩, ⟨2, [[98]], []⟩])) := by
    unfold parse_Line.f
    rw [if_pos (by decide)]
    exact congrArg (fun o => some (resL o)) lives_line
  rw [h]
  simp [resL, toS, toT, rd_T40, rd_T42, B_toList]

theorem parse_Line_size (l : List UInt8) (n : Nat) (h : (B l).size = n) : l.length = n := by rw [← h, B_size]
set_option maxRecDepth 100000 in
set_option maxHeartbeats 4000000 in
theorem lawParseLines (l : List UInt8) (w : World) (hSH : Shp w) : Calls Tryd.prog 3 #[.string (B l)] w fun e w' => e = .returned (.bool true) ∧ Below w.heap.size w w' := by
  have hsz : (B l).size = l.length := B_size l
  have HB := Aside0.mk (Below.refl w.heap.size w)
  have HSH := Aside0.mk hSH
  clear hSH
  by_cases hlong : 1000 < l.length
  · have hl1 : decide ((l.length : Int) > 1000) = true := decide_eq_true (by omega)
    go_enter Tryd.func3, Tryd.ntmps3
    go_wp2_with (go_at_call 6; refine (flatironlaw06_lives.calls true _ lives06).mono ?_; rintro e1 w1 ⟨rfl, hb1⟩; replace HB := Aside0.mk (below_step HB.out hb1))
    go_ret
    exact ⟨rfl, HB.out⟩
  · have hl1 : decide ((l.length : Int) > 1000) = false := decide_eq_false (by omega)
    have HL := Aside0.mk (show l.length < 1000000 by omega)
    have HL2 := Aside0.mk (show l.length < 500000000 by omega)
    have HL3 := Aside0.mk (show l.length ≤ 1000 by omega)
    cases hp : parseU l with
    | none =>
      have HP := Aside0.mk hp
      clear hp
      go_enter Tryd.func3, Tryd.ntmps3
      go_wp2_with (first | (go_at_call 6; refine (flatironlaw06_lives.calls true _ lives06).mono ?_; rintro e1 w1 ⟨rfl, hb1⟩; replace HB := Aside0.mk (below_step HB.out hb1)) | (go_at_call 7; refine (ln_none l HL2.out HP.out _).mono ?_; rintro e2 w2 ⟨A1, c1, rfl, hb2⟩; replace HB := Aside0.mk (below_step HB.out hb2)) | (go_at_call 8; refine (rf_line l HL.out _).mono ?_; rintro e3 w3 ⟨A2, n2, c2, rfl, hr3, hb3⟩; rw [HP.out]; replace HB := Aside0.mk (below_step HB.out hb3)))
      go_ret
      exact ⟨rfl, HB.out⟩
    | some cs =>
      obtain ⟨hs, hr⟩ := parseU_small l (by omega) cs hp
      have HS := Aside0.mk hs
      have HR := Aside0.mk hr
      have HP := Aside0.mk hp
      have HBK := Aside0.mk (parse_back cs hr)
      have HJ := Aside0.mk (shown_len cs hs.2.1 hs.2.2.1)
      clear hp hs hr
      go_enter Tryd.func3, Tryd.ntmps3
      go_wp2_with (first
        | (go_at_call 6; refine (flatironlaw06_lives.calls true _ lives06).mono ?_; rintro e1 w1 ⟨rfl, hb1⟩; replace HB := Aside0.mk (below_step HB.out hb1))
        | (go_at_call 7; first | (have hx := C3.out; clear hx; refine (ln_some (joinU ((toksAll cs).map show1)) (by have := HJ.out; omega) cs HBK.out _).mono ?_; rintro e5 w5 ⟨A5, c5, rfl, hc5, hC5, hb5⟩; replace HB := Aside0.mk (below_step HB.out hb5); replace C1 := Aside0.mk (Kd.C_below C1.out hb5); replace C3 := Aside0.mk (Kd.C_below C3.out hb5); have C5 := Aside0.mk hC5; have L5 := Aside0.mk hc5; clear hb5 hC5 hc5) | (refine (ln_some l HL2.out cs HP.out _).mono ?_; rintro e2 w2 ⟨A1, c1, rfl, hc1, hC1, hb2⟩; replace HB := Aside0.mk (below_step HB.out hb2); have C1 := Aside0.mk hC1; have L1 := Aside0.mk hc1; clear hb2 hC1 hc1))
        | (go_at_call 8; refine (rf_line l HL.out _).mono ?_; rintro e3 w3 ⟨A3, n3, c3, rfl, hr3, hb3⟩; obtain ⟨en, hc3, hC3⟩ := hr3 cs HP.out; subst en; rw [HP.out]; replace HB := Aside0.mk (below_step HB.out hb3); replace C1 := Aside0.mk (Kd.C_below C1.out hb3); have C3 := Aside0.mk hC3; clear hb3 hC3 hc3 hr3)
        | (go_at_call 9; refine (sh_ok cs HS.out HR.out A1 c1 _ (Shp.below HSH.out HB.out) C1.out L1.out).mono ?_; rintro e4 w4 ⟨rfl, hb4⟩; replace HB := Aside0.mk (below_step HB.out hb4); replace C1 := Aside0.mk (Kd.C_below C1.out hb4); replace C3 := Aside0.mk (Kd.C_below C3.out hb4); clear hb4)
        | (go_at_call 11; first | (have hx := C6.out; clear hx; refine (of_ok cs HS.out A5 c5 _ C5.out).mono ?_; rintro e7 w7 ⟨A7, c7, rfl, hc7, hC7, hb7⟩; replace HB := Aside0.mk (below_step HB.out hb7); replace C3 := Aside0.mk (Kd.C_below C3.out hb7); have C7 := Aside0.mk hC7; clear hb7 hC7 hc7) | (refine (of_ok cs HS.out A1 c1 _ C1.out).mono ?_; rintro e6 w6 ⟨A6, c6, rfl, hc6, hC6, hb6⟩; replace HB := Aside0.mk (below_step HB.out hb6); replace C1 := Aside0.mk (Kd.C_below C1.out hb6); replace C3 := Aside0.mk (Kd.C_below C3.out hb6); replace C5 := Aside0.mk (Kd.C_below C5.out hb6); have C6 := Aside0.mk hC6; clear hb6 hC6 hc6))
        | (go_at_call 10; first | (refine (sm_ok cs HS.out A7 A3 c7 c3 _ C7.out C3.out).mono ?_; rintro e9 w9 ⟨rfl, hb9⟩; replace HB := Aside0.mk (below_step HB.out hb9); clear hb9) | (refine (sm_ok cs HS.out A6 A3 c6 c3 _ C6.out C3.out).mono ?_; rintro e8 w8 ⟨rfl, hb8⟩; replace HB := Aside0.mk (below_step HB.out hb8); replace C1 := Aside0.mk (Kd.C_below C1.out hb8); replace C3 := Aside0.mk (Kd.C_below C3.out hb8); replace C5 := Aside0.mk (Kd.C_below C5.out hb8); clear hb8))
        | (go_at_call 12; refine (rt_ok cs HS.out A1 c1 _ C1.out L1.out).mono ?_; rintro e10 w10 ⟨rfl, hb10⟩; rw [HR.out]; replace HB := Aside0.mk (below_step HB.out hb10); replace C3 := Aside0.mk (Kd.C_below C3.out hb10); replace C5 := Aside0.mk (Kd.C_below C5.out hb10); clear hb10))
      go_ret
      exact ⟨rfl, HB.out⟩
def flatironlaw06_ParseLines.f (_k : Nat) (a0 : ByteArray) : Option Bool := if a0.size ≤ 140737488351232 then some true else none
theorem flatironlaw06_ParseLines.calls (k : Nat) (a0 : ByteArray) (r : Bool) (w : World) (hSH : Shp w) (h : flatironlaw06_ParseLines.f k a0 = some r) :
    Calls Tryd.prog 3 #[.string a0] w fun e w' => e = .returned (.bool r) ∧ Below w.heap.size w w' := by
  unfold flatironlaw06_ParseLines.f at h
  by_cases hs : a0.size ≤ 140737488351232
  case neg => rw [if_neg hs] at h; exact absurd h (by simp)
  rw [if_pos hs] at h
  obtain rfl := Option.some.inj h
  obtain ⟨l, rfl, _⟩ := ex_B a0
  exact lawParseLines l w hSH
end Go.Proofs.YtogbdjboblfokaaDoor.X
/- A slice of strings that came in, as a law's row reads it: its cells, and its length by the row's weight. -/
namespace Go.Proofs.YtogbdjboblfokaaDoor.X
open Go.RowKit Go.ChangeShapes Go.WideShapes Go.Proofs.YtogbdjboblfokaaDoorW.PrintWords

theorem add_cell (x : Addr) (i : Nat) (w : World) (v : Value) (h : w.cell? (x.add i) = some v) : w.cell? (x.add (i * 1 + 0)) = some v := by simpa using h

theorem mem_weightsAll {H : Type} {P : Program} {e : TypeId} {y : ByteArray} : ∀ {l : List ByteArray}, y ∈ l → y.size ∈ DataW.weightsAll P e (strs (H := H) l)
  | x :: r, h => by
    have e1 : strs (H := H) (x :: r) = .lit (.string x.data.toList) :: strs r := rfl
    rw [e1]
    simp only [DataW.weightsAll, DataW.weights]
    rcases List.mem_cons.1 h with rfl | h
    · exact List.mem_append_left _ (List.mem_singleton.2 (by rw [Array.length_toList]; rfl))
    · exact List.mem_append_right _ (mem_weightsAll h)

/-- What a slice of strings holds. -/
theorem strings_open {H : Type} {enc : TypeId × Value → H} {P : Program} {W : World} {base : Nat} {spare : Nat → Bool} {held : Bool} {t e : TypeId} {a : Option Addr} {len cap : Nat} {d : DataW H} {ps : List MemPlace} {ts : List TypeId} {ds : List (DataW H)} {j : Nat}
    (hsz : (DataW.weightsEach P ts ds).all (· ≤ reachBytes) = true) (ht : ts[j]? = some t) (hd : ds[j]? = some d) (hu : P.underlying t = some (.slice e)) (he : P.underlying e = some .string) (hc : P.cellsOf e = 1) {B : Nat} (hB : P.bytesOf e = B)
    (h : DataW.Trod enc P W base spare held t (.slice a len cap) d ps) :
    ∃ l : List ByteArray, len = l.length ∧ Kd.C Kd.string W a l.length l ∧ l.length ≤ cap ∧ l.length * B ≤ 140737488351232 ∧ ∀ x ∈ l, x.size ≤ 140737488351232 := by
  obtain ⟨fuel, hf⟩ := h
  rcases open_strings hu he hc hf with ⟨hcs, _⟩ | ⟨x, l, c, ss, hcs, _, hl, hm, hz, hx, hcell, hwz⟩
  · simp [Value.cells] at hcs
    obtain ⟨rfl, rfl, rfl⟩ := hcs
    exact ⟨[], rfl, ⟨rfl, by simp, fun h => by simp at h⟩, Nat.le_refl _, by simp, by simp⟩
  · simp [Value.cells] at hcs
    obtain ⟨rfl, rfl, rfl⟩ := hcs
    have hle : len ≤ ss.length := by
      rw [hz]; split
      · exact hl
      · exact Nat.le_refl _
    have hlen : (ss.take len).length = len := by simp; omega
    obtain ⟨hx, _⟩ := Prod.mk.inj hx
    subst hx
    have z := sized_slice hsz ht hd hu
    rw [hB] at z
    have h1 : (strs (H := H) (ss.take len)).length + (strs (H := H) (ss.drop len)).length = ss.length := by
      simp [strs]; omega
    rw [h1] at z
    unfold maxLen at hm
    refine ⟨ss.take len, hlen.symm, ⟨rfl, by omega, fun _ => ⟨x, rfl, fun j p hj => ⟨[.string p], rfl, rfl, fun i u hi => ?_⟩⟩⟩, by omega, by rw [hlen]; exact Nat.le_trans (Nat.mul_le_mul_right _ hle) z, fun y hy => ?_⟩
    rotate_left
    · have hm := DataW.weights_mem_each ht hd (P := P) y.size (by
        simp only [DataW.weights, hu]
        exact List.mem_cons_of_mem _ (List.mem_append_left _ (mem_weightsAll hy)))
      have := List.all_eq_true.1 hsz _ hm
      exact of_decide_eq_true this
    have hj' : j < (ss.take len).length := (List.getElem?_eq_some_iff.1 hj).1
    have hi0 : i = 0 := by
      have := (List.getElem?_eq_some_iff.1 hi).1
      simp at this; exact this
    subst hi0
    have hu' : u = .string p := by simpa using hi.symm
    subst hu'
    have hp : ss.getD j ByteArray.empty = p := by
      have h2 := (List.getElem?_eq_some_iff.1 hj).2
      rw [List.getElem_take] at h2
      rw [← h2]; simp [List.getD, show j < ss.length by omega]
    have := hcell j (by omega)
    rw [hp] at this
    exact add_cell x j W _ this
end Go.Proofs.YtogbdjboblfokaaDoor.X
/- ParseLines answers true for every text: all of it stands in the law's walk. -/
namespace Go.Proofs.YtogbdjboblfokaaDoor.Pure
theorem ParseLines (a0 : ByteArray) (h0 : a0.size ≤ 140737488351232) : ∃ k, X.flatironlaw06_ParseLines.f k a0 = some true :=
  ⟨0, by unfold X.flatironlaw06_ParseLines.f; rw [if_pos h0]⟩
end Go.Proofs.YtogbdjboblfokaaDoor.Pure
/- The row of the law ParseLines: for every input that can be read the call returns true and its arguments read as before; out of the law's contract and its pure statement; no condition. -/
namespace Go.Proofs.YtogbdjboblfokaaDoor.parseLines
open Go.ChangeShapes Go.WideShapes Go.ChangeAt Go.RowKit
open Go.ChangeMaps (open_string shut_string)
set_option linter.unusedVariables false
theorem own : ownKnob Tryd.prog.godebug = none := by kernel_rfl
noncomputable def laidWorld (os : Os) : World :=
  { World.holding Tryd.prog os ⟨#[], #[], []⟩ with heap := (((World.holding Tryd.prog os ⟨#[], #[], []⟩).heap.modify 2 (fun
      | .cells _ t frozen => .cells #[.int .u8 128, .int .u8 191, .int .u8 160, .int .u8 191, .int .u8 128, .int .u8 159, .int .u8 144, .int .u8 191, .int .u8 128, .int .u8 143, .int .u8 0, .int .u8 0, .int .u8 0, .int .u8 0, .int .u8 0, .int .u8 0, .int .u8 0, .int .u8 0, .int .u8 0, .int .u8 0, .int .u8 0, .int .u8 0, .int .u8 0, .int .u8 0, .int .u8 0, .int .u8 0, .int .u8 0, .int .u8 0, .int .u8 0, .int .u8 0, .int .u8 0, .int .u8 0] t frozen
      | o => o)).modify 1 (fun
      | .cells _ t frozen => .cells ((Go.Pinned.utf8FirstZ.map fun (n : Nat) => Value.int .u8 (n : Int)).toArray) t frozen
      | o => o)) }
set_option maxRecDepth 100000 in
theorem laid_met (os : Os) : laidMet Tryd.prog Rows.parseLinesRow.laid ((laidWorld os).forCall (fun _ _ => 0) ⟨#[], #[.string ByteArray.empty], []⟩).memory :=
  laidMet_of_run' 8 (by kernel_rfl) (by kernel_rfl)
theorem reads (os : Os) {H : Type} (enc : TypeId × Value → H) : ∃ places, DataW.whole enc Tryd.prog ((laidWorld os).forCall (fun _ _ => 0) ⟨#[], #[.string ByteArray.empty], []⟩).memory Tryd.f3.params.toList Rows.parseLinesSpec.vars false #[Value.string ByteArray.empty].toList 8 = some ([.lit (.string [])], [], places) :=
  ⟨[], by kernel_rfl⟩
set_option maxRecDepth 100000 in
theorem lifted (os : Os) (started : os.Started) (H : Type) (enc : TypeId × Value → H) (F : Stop.Interp) :
    ReturnsInHanded {} Tryd.checked os 3 .any ((OpenSpec.ofChange Rows.parseLinesSpec).preRow enc Tryd.prog Tryd.f3 Rows.parseLinesRow.domain false Rows.parseLinesRow.laid) (((OpenSpec.ofChange Rows.parseLinesSpec).at F).post enc Tryd.prog Tryd.f3 false true false false) := by
  obtain ⟨places, hx⟩ := reads os enc
  refine returnsInHanded_of_row (C := Tryd.checked) (s := OpenSpec.ofChange Rows.parseLinesSpec) own started (by kernel_rfl) Tryd.func3
    (witness_row_at (enc := enc) (C := Tryd.checked) false (laidWorld os) #[.string ByteArray.empty] rfl (by kernel_rfl) (by kernel_rfl) (by kernel_rfl)
      (OpenSpec.preRow_of_cond 8 hx (by kernel_rfl) (fun k hk => by cases hk) (by kernel_rfl) (laid_met os))) ?_
  intro W base args ds gs before hval0 hW _ _ hsz0 _ hsh _
  have hsz : (DataW.weightsEach Tryd.prog (Tryd.f3.params.toList ++ Rows.parseLinesSpec.plain.varTypes Tryd.prog) (ds ++ gs)).all (· ≤ reachBytes) = true := hsz0
  have hval : ∀ (j : Nat) t v, Tryd.f3.params[j]? = some t → args[j]? = some v → Value.okWide Tryd.prog W .any base t v := hval0
  have hW' := hW
  obtain ⟨p, q, hA0, hV, rfl, hfz, hnd⟩ := hW
  have hA : DataW.TrodAll enc Tryd.prog W 0 (fun _ => true) true Tryd.f3.params.toList args.toList ds p := hA0
  rw [Tryd.params3] at hA hval hsz
  obtain ⟨v0, vs0, d0, ds0, p0, q0, hargs, rfl, rfl, h0, r0⟩ := trodAll_cons hA
  obtain ⟨rfl, rfl, rfl⟩ := trodAll_nil r0
  obtain rfl : args = #[v0] := by cases args; simp_all
  obtain ⟨rfl, rfl⟩ := trodVars_none hV
  obtain ⟨a0, rfl, rfl, rfl, y0⟩ := open_string Tryd.underlying9 (hval 0 9 v0 rfl rfl) h0
  have w0 : a0.size ≤ 140737488351232 := by
    have z := sized_string hsz (j := 0) (t := 9) rfl rfl
    rw [Array.length_toList] at z
    exact z
  clear hA0 hval0 hsz0 hsz
  obtain ⟨k, hp⟩ := Pure.ParseLines a0 w0
  refine (X.flatironlaw06_ParseLines.calls k a0 true W (X.Shp.of_shaped hsh)  hp).mono fun e W' ⟨he, bel0⟩ => ?_
  have bel : Below W.heap.size W W' := bel0
  subst he
  exact ⟨_, rfl, _, _, _, [], _, [], hW', trodAll_mk1 (shut_bool Tryd.underlying4 _), (trodAll_cons_mk (shut_string Tryd.underlying9 y0) trodAll_mk0), rfl, bel.frame _, fun h => by cases h⟩
theorem said : Rows.ParseLinesSaid :=
  OpenClaim.holds_of_cond 3 Tryd.f3 rfl rfl rfl rfl rfl rfl rfl ⟨rfl, rfl, rfl, rfl, rfl⟩ rfl rfl rfl rfl rfl (by kernel_rfl) Tryd.func3 (by kernel_rfl)
    (of_decide_eq_true (by kernel_rfl)) (by unfold Func.isWrapper; first | (rw [if_pos (by decide +kernel)]; kernel_rfl) | (rw [if_neg (by decide +kernel)]; exact ⟨rfl, rfl⟩))
    (fun os started H enc _ F => by rw [OpenClaim.pre_eq_preRow]; exact lifted os started H enc F)
theorem plain (f : FuncId) (fn : Func) (hf : Tryd.pinned.checked.prog.funcNamed Rows.parseLinesRow.func = some f) (hfn : Tryd.pinned.checked.prog.funcs[f]? = some fn) :
    false = Tryd.pinned.checked.prog.looks [] ∧ ∀ (j : Nat) t, fn.params[j]? = some t → Tryd.pinned.checked.prog.wantsStandIn t = false := by
  obtain rfl : f = 3 := Option.some.inj ((show Tryd.prog.funcNamed Rows.parseLinesRow.func = some 3 by kernel_rfl).symm.trans hf) |>.symm
  obtain rfl : fn = Tryd.f3 := (Option.some.inj (Tryd.func3.symm.trans hfn)).symm
  refine ⟨by kernel_rfl, fun j t ht => ?_⟩
  rw [Tryd.params3] at ht
  have ht2 := Array.mem_of_getElem? ht
  simp only [List.mem_toArray, List.mem_cons, List.not_mem_nil, or_false] at ht2
  subst ht2
  · exact (show Tryd.prog.wantsStandIn 9 = false by kernel_rfl)
theorem proved : Rows.ParseLinesCardSaid :=
  Claim7.holds_tied_plain_at .later [] _ _ _ _ said (fun _ h => by cases h) (by kernel_rfl) (fun _ h => by cases h) parseLines_row_tie rfl ⟨rfl, rfl⟩ (by kernel_rfl) rfl plain (by kernel_rfl)
#print axioms proved
end Go.Proofs.YtogbdjboblfokaaDoor.parseLines
namespace Go.Proofs.YtogbdjboblfokaaDoor
/-- The card, under a short name, for the claim. -/
theorem parseLines_holds : Rows.ParseLinesCardSaid := parseLines.proved
end Go.Proofs.YtogbdjboblfokaaDoor
