/- lex.mark and lex.Tokens say the plain tokens; plain Lean. -/
import Derived.Test.YtgpabkdmagifjaaDoorPLexC
import Derived.Test.YtgpabkdmagifjaaDoorXW05x
namespace Go.Proofs.YtgpabkdmagifjaaDoor.X
open Go.RowKit Go.Proofs.YtgpabkdmagifjaaDoorW.PrintWords Go.Proofs.YtgpabkdmagifjaaDoorW.PrintLast Go.Proofs.YtgpabkdmagifjaaDoorW.PrintMore Go.Proofs.YtgpabkdmagifjaaDoor.XW05
set_option linter.unusedSimpArgs false
set_option linter.unusedVariables false

def s94 (x : List UInt8 × Nat) : S94 := ⟨B x.1, (x.2 : Int)⟩
def s83 (x : Nat × List UInt8) : S83 := ⟨(x.1 : Int), B x.2⟩
def firstM (T : List (List UInt8 × Nat)) (l : List UInt8) : Nat × Nat :=
  match T with
  | [] => (0, 0)
  | x :: T => if x.1.isPrefixOf l = true then (x.2, x.1.length) else firstM T l
theorem mark_loop (l : List UInt8) (T : List (List UInt8 × Nat)) (hT : T.length < 100) : ∀ i, i ≤ T.length → Ev (fun k => lex_mark.l0 k (B l) (T.map s94) (T.length : Int) (i : Int)) (((firstM (T.drop i) l).1 : Int), ((firstM (T.drop i) l).2 : Int)) := by
  refine upto_ind ?_ ?_
  · refine Ev.step (fun k => by rw [lex_mark.l0]) ?_
    refine Ev.neg (by omega) ?_
    rw [List.drop_length]
    exact Ev.ret _
  · intro i hi ih
    have r : rd_T94 (T.map s94) (i : Int) = s94 T[i] := by
      unfold rd_T94
      rw [show ((i : Int)).toNat = i from rfl, List.getD_eq_getElem?_getD, List.getElem?_map, List.getElem?_eq_getElem hi]
      rfl
    rw [← wrap_succ i (by omega)] at ih
    refine Ev.step (fun k => by rw [lex_mark.l0]) ?_
    rw [r]
    refine Ev.pos (by omega) ?_
    refine Ev.pos (by omega) ?_
    refine Ev.pos (by simp; omega) ?_
    have hp : strings_HasPrefix.f (B l) (s94 T[i]).f0 = some (T[i].1.isPrefixOf l) := by
      unfold strings_HasPrefix.f s94
      rw [B_data, B_data]
      rfl
    refine Ev.bind (Ev.of hp) ?_
    rw [List.drop_eq_getElem_cons hi, firstM]
    refine Ev.ite (fun h => ?_) (fun h => ?_)
    · rw [if_pos h]
      refine Ev.eq (Ev.ret _) ?_
      show ((T[i].2 : Int), (((B T[i].1).size : Nat) : Int)) = _
      rw [B_size]
    · rw [if_neg h]
      exact ih
def marksT : List (List UInt8 × Nat) := [([38, 38], 2), ([124, 124], 3), ([62, 62], 5), ([62], 4), ([60], 6), ([59], 1)]
theorem firstM_eq (l : List UInt8) : firstM marksT l = (match markS l with | some (k, n, _) => (k, n) | none => (0, 0)) := by
  cases l with
  | nil => simp [firstM, marksT, markS]
  | cons b m =>
    cases m with
    | nil =>
      simp only [firstM, marksT, markS, List.isPrefixOf, Bool.and_false, Bool.and_true, Bool.false_eq_true, if_false, beq_iff_eq]
      simp only [eq_comm (a := (62 : UInt8)), eq_comm (a := (60 : UInt8)), eq_comm (a := (59 : UInt8))]
      repeat' split
      all_goals first | rfl | (simp_all; done) | (simp_all; omega)
    | cons c r =>
      simp only [firstM, marksT, markS, List.isPrefixOf, Bool.and_true, Bool.and_eq_true, beq_iff_eq]
      simp only [eq_comm (a := (62 : UInt8)), eq_comm (a := (60 : UInt8)), eq_comm (a := (59 : UInt8)), eq_comm (a := (38 : UInt8)), eq_comm (a := (124 : UInt8))]
      repeat' split
      all_goals first | rfl | (simp_all; done) | (simp_all; omega)
theorem mark_ev (l : List UInt8) : Ev (fun k => lex_mark.f k (B l)) (((firstM marksT l).1 : Int), ((firstM marksT l).2 : Int)) := by
  refine Ev.congr (fun k => by rw [lex_mark.f]) ?_
  have hm : lex_marks.f = some (marksT.map s94) := by unfold lex_marks.f; rfl
  refine Ev.bind (Ev.of hm) ?_
  have := mark_loop l marksT (by decide) 0 (by decide)
  exact this
/-- What lex.Tokens answers. -/
def resT (o : Option (List (Nat × List UInt8))) : List S83 × Int := match o with | some res => (res.map s83, 0) | none => ([], 6)
theorem word_eq (l : List UInt8) (hl : l.length < 4294967281) : lex_word.f (B l) = some (resQ ((wS [] l).map (fun p => (p.1, l.length - p.2.length)))) := by
  unfold lex_word.f
  rw [if_pos (by rw [B_size]; exact hl), B_data, wA_eq l _ 0 [] (Nat.le_refl _) (Nat.zero_le _), List.drop_zero]
theorem Tokens_loop : ∀ d (l : List UInt8) (out : List (Nat × List UInt8)), l.length ≤ d → out.length + l.length < 4294967281 → Ev (fun k => lex_Tokens.l0 k (B l) (out.map s83)) (resT (tokS out l)) := by
  intro d
  induction d with
  | zero =>
    intro l out hd hs
    cases l with
    | nil =>
      refine Ev.step (fun k => by rw [lex_Tokens.l0]) ?_
      refine Ev.pos (by rw [B_toList]) ?_
      rw [tokS_nil]
      exact Ev.ret _
    | cons b r => simp at hd
  | succ d ih =>
    intro l out hd hs
    cases l with
    | nil =>
      refine Ev.step (fun k => by rw [lex_Tokens.l0]) ?_
      refine Ev.pos (by rw [B_toList]) ?_
      rw [tokS_nil]
      exact Ev.ret _
    | cons b r =>
      have hsz : (B (b :: r)).size = r.length + 1 := by rw [B_size]; simp
      have hbt : bt (B (b :: r)) 0 = (b.toNat : Int) := bt_B (b :: r) 0 (by simp)
      have hdr : ∀ n : Nat, (B (b :: r)).extract n (B (b :: r)).size = B ((b :: r).drop n) := by
        intro n
        rw [B_size, B_extract, List.take_of_length_le (Nat.le_refl _)]
      simp only [List.length_cons] at hd hs
      have hm := mark_ev (b :: r)
      refine Ev.step (fun k => by rw [lex_Tokens.l0]) ?_
      refine Ev.neg (by rw [B_toList]; simp) ?_
      refine Ev.pos (by rw [hsz]; omega) ?_
      rw [hbt]
      have hix : strings_IndexByte.f (⟨#[32, 9, 10]⟩ : ByteArray) (b.toNat : Int) = some (Lib.indexByte [32, 9, 10] b) := by
        unfold strings_IndexByte.f
        rw [u8_back]
      refine Ev.bind (Ev.of hix) ?_
      refine Ev.iff (show (Lib.indexByte [32, 9, 10] b ≥ 0) = (blk b = true) from propext (by rw [← decide_eq_true_iff (p := Lib.indexByte [32, 9, 10] b ≥ 0), idx_mem]; rfl)) ?_ ?_
      · intro hb
        rw [tokS_blk _ _ _ hb]
        refine Ev.pos (by rw [hsz]; omega) ?_
        rw [hdr 1]
        exact ih r out (by omega) (by omega)
      · intro hb
        refine Ev.bind hm ?_
        rw [firstM_eq]
        cases hmk : markS (b :: r) with
        | some x =>
          obtain ⟨k, n, r'⟩ := x
          obtain ⟨⟨p, hp, hpl⟩, h0, _, _⟩ := markS_suffix hmk
          have hlen := congrArg List.length hp
          simp only [List.length_append, List.length_cons] at hlen
          rw [tokS_mark _ _ _ hb k n r' hmk]
          refine Ev.pos (show ((n : Int)) > 0 by omega) ?_
          refine Ev.pos (by rw [List.length_map]; omega) ?_
          refine Ev.pos (show (0 : Int) ≤ (n : Int) by omega) ?_
          refine Ev.pos (show (n : Int) ≤ ((B (b :: r)).size : Int) by rw [hsz]; omega) ?_
          have := ih r' (out ++ [(k, [])]) (by omega) (by simp; omega)
          rw [List.map_append] at this
          rw [show ((n : Int)).toNat = n from rfl, hdr n, show (b :: r).drop n = r' by rw [hp, ← hpl]; simp]
          exact this
        | none =>
          refine Ev.neg (show ¬ (((0 : Nat) : Int)) > 0 by decide) ?_
          have hwe := word_eq (b :: r) (by simp; omega)
          cases hw : wS [] (b :: r) with
          | none =>
            rw [tokS_bad _ _ _ hb hmk hw]
            rw [hw] at hwe
            have hwe' : lex_word.f (B (b :: r)) = some (B [], -1) := hwe
            refine Ev.bind (Ev.of hwe') ?_
            exact Ev.pos (show (-1 : Int) ≤ 0 by decide) (Ev.ret _)
          | some x =>
            obtain ⟨t, r'⟩ := x
            obtain ⟨⟨p, hp⟩, _⟩ := wS_suffix _ _ _ _ _ (Nat.le_refl _) hw
            have hlen := congrArg List.length hp
            simp only [List.length_append, List.length_cons] at hlen
            have hds := drop_of_suffix hp
            rw [tokS_word _ _ _ hb hmk t r' hw]
            obtain ⟨n, hn⟩ : ∃ n, (b :: r).length - r'.length = n := ⟨_, rfl⟩
            have hn' := hn
            simp only [List.length_cons] at hn'
            rw [hn] at hds
            have hwe' : lex_word.f (B (b :: r)) = some (B t, (n : Int)) := by rw [hwe, hw, ← hn]; rfl
            refine Ev.bind (Ev.of hwe') ?_
            refine Ev.iff (show ((n : Int) ≤ 0) = (¬ r'.length < (b :: r).length) by simp only [List.length_cons]; exact propext ⟨fun h => by omega, fun h => by omega⟩) ?_ ?_
            · intro h
              rw [if_neg h]
              exact Ev.ret _
            · intro h
              have h' : r'.length < (b :: r).length := Classical.not_not.mp h
              rw [if_pos h']
              simp only [List.length_cons] at h'
              refine Ev.pos (by rw [List.length_map]; omega) ?_
              refine Ev.pos (by omega) ?_
              refine Ev.pos (by rw [hsz]; omega) ?_
              have := ih r' (out ++ [(0, t)]) (by omega) (by simp; omega)
              rw [List.map_append] at this
              rw [show ((n : Int)).toNat = n from rfl, hdr n, hds]
              exact this
theorem Tokens_ev (l : List UInt8) (hl : l.length < 4294967281) : Ev (fun k => lex_Tokens.f k (B l)) (resT (tokS [] l)) := by
  refine Ev.congr (fun k => by rw [lex_Tokens.f]) ?_
  exact Tokens_loop _ l [] (Nat.le_refl _) (by simpa using hl)
end Go.Proofs.YtgpabkdmagifjaaDoor.X
