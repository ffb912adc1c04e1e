/- package path and its reference, as plain functions on lists of bytes: parts, text, Join, Clean. -/
import Derived.Test.YtcadgnaejjgdnaaDoorHBase
import Derived.Test.YtcadgnaejjgdnaaDoorHParts
import Derived.Test.YtcadgnaejjgdnaaDoorXW01x1
import Derived.Test.YtcadgnaejjgdnaaDoorXW01x2
import Derived.Test.YtcadgnaejjgdnaaDoorXW01x3
import Derived.Test.YtcadgnaejjgdnaaDoorXW01x4
namespace Go.Proofs.YtcadgnaejjgdnaaDoor.X
open Go.RowKit Go.Proofs.YtcadgnaejjgdnaaDoorW.PrintWords Go.Proofs.YtcadgnaejjgdnaaDoorW.PrintLast Go.Proofs.YtcadgnaejjgdnaaDoorW.PrintMore Go.Proofs.YtcadgnaejjgdnaaDoor.XW01
set_option linter.unusedSimpArgs false
set_option linter.unusedVariables false

/-- A text between slashes; cur: what of the first piece is read. -/
def segA (cur : List UInt8) : List UInt8 → List (List UInt8)
  | [] => [cur]
  | b :: l => if b = 47 then cur :: segA [] l else segA (cur ++ [b]) l
theorem segA_nil (cur : List UInt8) : segA cur [] = [cur] := rfl
theorem segA_cons (cur : List UInt8) (b : UInt8) (l : List UInt8) : segA cur (b :: l) = if b = 47 then cur :: segA [] l else segA (cur ++ [b]) l := rfl
def keepP (x : List UInt8) : Bool := !(decide (x = []) || decide (x = [46]))
def partsS (l : List UInt8) : List (List UInt8) := (segA [] l).filter keepP

theorem index_cons (b : UInt8) (l : List UInt8) : Lib.index (b :: l) [47] = if b = 47 then 0 else if Lib.index l [47] = -1 then -1 else Lib.index l [47] + 1 := by
  rw [Lib.index]
  by_cases h : b = 47
  · subst h; simp [List.isPrefixOf]
  · have h1 : (([47] : List UInt8).isPrefixOf (b :: l)) = false := by simp [List.isPrefixOf, Ne.symm h]
    rw [h1, if_neg h]; simp
theorem segA_index (l : List UInt8) : ∀ cur, (Lib.index l [47] = -1 ∧ segA cur l = [cur ++ l]) ∨ ∃ i : Nat, Lib.index l [47] = (i : Int) ∧ i < l.length ∧ segA cur l = (cur ++ l.take i) :: segA [] (l.drop (i + 1)) := by
  induction l with
  | nil => intro cur; left; exact ⟨rfl, by simp [segA]⟩
  | cons b l ih =>
    intro cur
    rw [index_cons, segA_cons]
    by_cases h : b = 47
    · right; exact ⟨0, by rw [if_pos h]; rfl, by simp, by rw [if_pos h]; simp⟩
    · rw [if_neg h, if_neg h]
      rcases ih (cur ++ [b]) with ⟨h1, h2⟩ | ⟨i, h1, h2, h3⟩
      · left; exact ⟨by rw [if_pos h1], by rw [h2]; simp⟩
      · right; exact ⟨i + 1, by rw [h1, if_neg (by omega)]; omega, by simp; omega, by rw [h3]; simp⟩
theorem splitK_segs : ∀ (k : Nat) (l : List UInt8), Lib.count l [47] = k → Lib.splitK [47] 0 k l = segA [] l := by
  intro k
  induction k with
  | zero =>
    intro l hc
    rcases segA_index l [] with ⟨h1, h2⟩ | ⟨i, h1, h2, h3⟩
    · rw [h2]; rfl
    · rw [Lib.count_hit (by simp) h1] at hc; omega
  | succ k ih =>
    intro l hc
    rcases segA_index l [] with ⟨h1, h2⟩ | ⟨i, h1, h2, h3⟩
    · rw [Lib.count_miss h1] at hc; omega
    · rw [Lib.count_hit (by simp) h1] at hc
      rw [Lib.splitK, if_neg (by rw [h1]; simp), h1, h3, ih _ (by simpa using (show Lib.count (l.drop (i + 1)) [47] = k by have : ([47] : List UInt8).length = 1 := rfl; rw [this] at hc; omega))]
      simp
theorem says_B (x : List UInt8) : says (B x) = !keepP x := by
  unfold says keepP
  rw [B_toList]
  by_cases h : x = [] <;> simp [h]
  by_cases h2 : x = [46] <;> simp [h2]

theorem parts_eq (l : List UInt8) (hl : l.length < 4294967280) : path_parts.f (B l) = some ((partsS l).map B) := by
  have h0 : Lib.countB (B l) ⟨#[47]⟩ ≤ (B l).size := Lib.countB_le ⟨#[47]⟩ (by decide) _ _ (Nat.le_refl _)
  rw [B_size] at h0
  have h1 := Lib.splitB_all ⟨#[47]⟩ (by decide) 0 _ (B l) rfl
  unfold path_parts.f strings_Split.f
  rw [if_pos ⟨by rw [B_size]; omega, by decide, h1, by omega⟩]
  simp only [Option.bind_some]
  have h2 : Lib.splitB ⟨#[47]⟩ 0 (Lib.countB (B l) ⟨#[47]⟩) (B l) = (segA [] l).map B := by
    have e := Lib.splitB_data ⟨#[47]⟩ 0 (Lib.countB (B l) ⟨#[47]⟩) (B l)
    have e3 : Lib.countB (B l) ⟨#[47]⟩ = Lib.count l [47] := by unfold Lib.countB; rw [B_data]
    rw [e3] at e ⊢
    rw [B_data, show ((⟨#[47]⟩ : ByteArray).data.toList) = [47] from rfl, splitK_segs _ l rfl] at e
    rw [← e, List.map_map]
    conv => lhs; rw [← List.map_id (Lib.splitB ⟨#[47]⟩ 0 (Lib.count l [47]) (B l))]
    apply List.map_congr_left
    intro a _
    exact (B_of a).symm
  rw [h2, List.filter_map, partsS]
  congr 2
  apply List.filter_congr
  intro x _
  simp [says_B]

/-- Reference: Split. -/
theorem refSplit_ev (l : List UInt8) (hl : l.length < 4294967280) : Ev (fun k => flatironref01_Split.f k (B l)) ((partsS l).map B) := by
  have key : ∀ i, i ≤ l.length → ∀ (out : List ByteArray) (cur : List UInt8), out.length ≤ i → cur.length ≤ i →
      Ev (fun k => flatironref01_Split.l0 k (B l) out (B cur) (i : Int)) (out ++ ((segA cur (l.drop i)).filter keepP).map B) := by
    have jf : ∀ (i : Nat) (out : List ByteArray) (cur : List UInt8) (r : List ByteArray), i ≤ l.length → out.length ≤ i →
        Ev (fun k => flatironref01_Split.l0 k (B l) (out ++ if keepP cur then [B cur] else []) (B []) ((i + 1 : Nat) : Int)) r →
        Ev (fun k => flatironref01_Split.j1 k (B l) out (B cur) (i : Int) false) r := by
      intro i out cur r hi ho h
      refine Ev.step (fun k => by rw [flatironref01_Split.j1]) ?_
      rw [wrap_succ i (by omega), B_toList, B_nil]
      refine Ev.neg (by simp) (Ev.ite (fun e => ?_) (fun e => Ev.ite (fun e2 => ?_) (fun e2 => ?_)))
      · rw [show keepP cur = false by simp [keepP, e]] at h
        simpa using h
      · rw [show keepP cur = false by simp [keepP, e2]] at h
        simpa using h
      · rw [show keepP cur = true by simp [keepP, e, e2]] at h
        refine Ev.pos (by omega) (by simpa using h)
    refine upto_ind ?_ ?_
    · intro out cur ho hc
      refine Ev.step (fun k => by rw [flatironref01_Split.l0]) ?_
      rw [B_size]
      refine Ev.pos (by omega) (Ev.neg (by omega) ?_)
      refine jf _ _ _ _ (Nat.le_refl _) ho ?_
      refine Ev.step (fun k => by rw [flatironref01_Split.l0]) ?_
      rw [B_size]
      refine Ev.neg (by omega) (Ev.of ?_)
      rw [List.drop_length]
      rw [segA_nil]
      by_cases h : keepP cur <;> simp [h]
    · intro i hi ih out cur ho hc
      refine Ev.step (fun k => by rw [flatironref01_Split.l0]) ?_
      rw [B_size, bt_B l i hi]
      refine Ev.pos (by omega) (Ev.pos (by omega) (Ev.pos (by omega) ?_))
      have hd := drop_get l i hi
      by_cases h : l[i] = 47
      · rw [show (((l[i].toNat : Nat) : Int) != 47) = false by rw [h]; rfl]
        refine jf _ _ _ _ (by omega) ho ?_
        refine Ev.eq (ih _ _ (by split <;> simp <;> omega) (by simp)) ?_
        rw [hd]
        rw [segA_cons, if_pos h, List.append_assoc]
        by_cases hk : keepP cur <;> simp [hk]
      · have hb : (((l[i].toNat : Nat) : Int) != 47) = true := by
          rw [bne_iff_ne]; intro e; exact h (Eq.mp (u8_num l[i] 47 (by decide)) e)
        rw [hb]
        refine Ev.step (fun k => by rw [flatironref01_Split.j1]) ?_
        rw [wrap_succ i (by omega), B_size, B_size, B_extract]
        rw [show ((i : Nat) : Int).toNat = i from by omega, show ((i + 1 : Nat) : Int).toNat = i + 1 from by omega, one_at l i hi, B_append]
        refine Ev.pos rfl (Ev.pos (by omega) (Ev.pos (by omega) (Ev.pos (by omega) (Ev.pos (by omega) ?_))))
        refine Ev.eq (ih _ _ (by omega) (by simp; omega)) ?_
        rw [hd]
        rw [segA_cons, if_neg h]
  exact Ev.congr (fun k => by rw [flatironref01_Split.f]; rfl) (Ev.eq (key 0 (by omega) [] [] (by simp) (by simp)) (by simp [partsS]))

/-- The text of parts. -/
def textS (xs : List (List UInt8)) : List UInt8 := if xs = [] then [46] else Lib.join xs [47]
def szS (xs : List (List UInt8)) : Nat := (xs.map fun x => x.length + 1).sum
theorem szS_nil : szS [] = 0 := rfl
theorem szS_cons (x : List UInt8) (r : List (List UInt8)) : szS (x :: r) = x.length + 1 + szS r := by simp [szS]
theorem szS_append (a b : List (List UInt8)) : szS (a ++ b) = szS a + szS b := by simp [szS]
theorem szS_len (a : List (List UInt8)) : a.length ≤ szS a := by
  induction a with
  | nil => simp
  | cons x r ih => rw [szS_cons, List.length_cons]; omega
theorem szS_take (a : List (List UInt8)) (n : Nat) : szS (a.take n) ≤ szS a := by
  conv => rhs; rw [← List.take_append_drop n a, szS_append]
  omega
theorem szS_filter (p : List UInt8 → Bool) (a : List (List UInt8)) : szS (a.filter p) ≤ szS a := by
  induction a with
  | nil => simp
  | cons x r ih => rw [List.filter_cons, szS_cons]; split <;> (try simp only [szS_cons]) <;> omega
theorem szS_segA (l : List UInt8) : ∀ cur, szS (segA cur l) = cur.length + l.length + 1 := by
  induction l with
  | nil => intro cur; simp [segA, szS]
  | cons b l ih =>
    intro cur
    rw [segA_cons]
    split
    · rw [szS_cons, ih]; simp; omega
    · rw [ih]; simp; omega
theorem szS_parts (l : List UInt8) : szS (partsS l) ≤ l.length + 1 := by
  have := szS_filter keepP (segA [] l)
  rw [szS_segA] at this
  unfold partsS; simpa using this
theorem tail_cons (x : List UInt8) (r : List (List UInt8)) : Lib.joinTail [47] (x :: r) = 47 :: (x ++ Lib.joinTail [47] r) := by simp [Lib.joinTail]
theorem tail_len (r : List (List UInt8)) : (Lib.joinTail [47] r).length = szS r := by
  induction r with
  | nil => rfl
  | cons x r ih => rw [szS_cons, ← ih]; simp [Lib.joinTail]; omega
theorem join_le (xs : List (List UInt8)) : (Lib.join xs [47]).length ≤ szS xs := by
  cases xs with
  | nil => simp [Lib.join_nil]
  | cons x r => rw [Lib.join_cons, List.length_append, tail_len, szS_cons]; omega
theorem text_le (xs : List (List UInt8)) : (textS xs).length ≤ szS xs + 1 := by
  unfold textS
  split
  · simp
  · have := join_le xs; omega

theorem text_eq (xs : List (List UInt8)) (h : szS xs < 140737488355328) : path_text.f (xs.map B) = some (B (textS xs)) := by
  unfold path_text.f textS
  have h1 := szS_len xs
  have h2 := join_le xs
  rw [List.length_map]
  have e : (xs.map B).map (fun x : ByteArray => x.data.toList) = xs := by
    rw [List.map_map]
    conv => rhs; rw [← List.map_id xs]
    apply List.map_congr_left
    intro a _; exact B_data a
  by_cases hx : xs = []
  · rw [if_pos (by simp [hx]), if_pos hx]; rfl
  · have : 0 < xs.length := List.length_pos_iff.2 hx
    rw [if_neg (by omega), if_neg hx]
    unfold strings_Join.f
    rw [List.length_map, e, if_pos ⟨by omega, by show (Lib.join xs [47]).length ≤ _; omega⟩]
    unfold joined
    rw [e]; rfl

theorem refText_ev (xs : List (List UInt8)) (h : szS xs < 140737488355328) (hne : ∀ x ∈ xs, x ≠ []) : Ev (fun k => flatironref01_Text.f k (xs.map B)) (B (textS xs)) := by
  have hl := szS_len xs
  have key : ∀ i, i ≤ xs.length → 0 < i → ∀ cur : List UInt8, cur ≠ [] → cur.length + szS (xs.drop i) < 140737488355328 + 1 →
      Ev (fun k => flatironref01_Text.l0 k (xs.map B) (B cur) (i : Int)) (B (cur ++ Lib.joinTail [47] (xs.drop i))) := by
    refine upto_ind ?_ ?_
    · intro h0 cur hc hs
      refine Ev.step (fun k => by rw [flatironref01_Text.l0]) ?_
      rw [B_toList]
      refine Ev.neg (by simp) (Ev.neg hc (Ev.of ?_))
      simp [Lib.joinTail]
    · intro i hi ih h0 cur hc hs
      refine Ev.step (fun k => by rw [flatironref01_Text.l0]) ?_
      rw [drop_get xs i hi, szS_cons] at hs
      rw [rdOf_get _ _ _ (by simpa using hi), List.getElem_map, wrap_succ i (by omega), B_size, B_size, B_lit [47], B_append, B_append]
      refine Ev.pos (by simp; omega) (Ev.pos (by omega) (Ev.pos (by omega) (Ev.pos (by omega) (Ev.pos (by omega) ?_))))
      refine Ev.eq (ih (by omega) _ (by simp) (by simp; omega)) ?_
      rw [drop_get xs i hi, tail_cons]
      simp
  refine Ev.congr (fun k => by rw [flatironref01_Text.f]) ?_
  cases xs with
  | nil =>
    refine Ev.step (fun k => by rw [flatironref01_Text.l0]) ?_
    refine Ev.neg (by simp) (Ev.pos (by rw [B_nil, B_toList]) (Ev.of ?_))
    rfl
  | cons x r =>
    rw [szS_cons] at h
    refine Ev.step (fun k => by rw [flatironref01_Text.l0]) ?_
    rw [show (0 : Int) = ((0 : Nat) : Int) from rfl, rdOf_get _ _ _ (by simp), wrap_succ 0 (by omega)]
    simp only [List.map_cons, List.getElem_cons_zero]
    rw [B_size, B_nil, B_append]
    refine Ev.pos (by simp <;> omega) (Ev.neg (by omega) (Ev.pos (by omega) (Ev.pos (by rw [B_size]; simp <;> omega) ?_)))
    have := key 1 (by simp) (by omega) ([] ++ x) (by simpa using hne x (by simp)) (by simp; omega)
    simp only [List.map_cons] at this
    refine Ev.eq this ?_
    unfold textS
    rw [if_neg (by simp), Lib.join_cons]; first | done | rfl | simp
end Go.Proofs.YtcadgnaejjgdnaaDoor.X
