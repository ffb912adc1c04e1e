/- words.Unique, slices.Contains, slices.Equal at []string and the reference's Join, as plain functions on lists. -/
import Derived.Test.YtcadgnaejjgdnaaPCutR
namespace Go.Proofs.Ytcadgnaejjgdnaa.X
open Go.RowKit Go.Proofs.YtcadgnaejjgdnaaW.PrintWords Go.Proofs.YtcadgnaejjgdnaaW.PrintLast Go.Proofs.YtcadgnaejjgdnaaW.PrintMore Go.Proofs.Ytcadgnaejjgdnaa.XW04
set_option linter.unusedSimpArgs false

theorem toList_inj (a b : ByteArray) : (a.toList = b.toList) = (a = b) := by
  apply propext
  rw [ByteArray.toList_eq, ByteArray.toList_eq]
  exact ⟨data_eq, fun h => h ▸ rfl⟩

theorem Contains_ev (l : List ByteArray) (x : ByteArray) (hl : l.length < 4611686018427387904) : Ev (fun k => slices_Contains_string_string.f k l x) (decide (x ∈ l)) := by
  have key : ∀ i, i ≤ l.length → ∃ r : Int, Ev (fun k => slices_Index_string_string.l0 k l x (l.length : Int) (i : Int)) r ∧ (r ≥ 0 ↔ x ∈ l.drop i) := by
    refine upto_ind ?_ ?_
    · refine ⟨-1, Ev.step (fun k => by rw [slices_Index_string_string.l0]) (Ev.neg (by omega) (Ev.ret _)), ?_⟩
      simp
    · intro i hi ih
      by_cases h : x = l[i]
      · refine ⟨(i : Int), Ev.step (fun k => by rw [slices_Index_string_string.l0]) (Ev.pos (by omega) (Ev.pos (by omega) (Ev.pos (by omega) (Ev.pos ?_ (Ev.ret _))))), ?_⟩
        · rw [toList_inj, rdOf_get _ _ _ hi]; exact h
        · rw [mem_drop_iff l i hi]; exact ⟨fun _ => .inl h, fun _ => by omega⟩
      · obtain ⟨r, h1, h2⟩ := ih
        refine ⟨r, Ev.step (fun k => by rw [slices_Index_string_string.l0]) (Ev.pos (by omega) (Ev.pos (by omega) (Ev.pos (by omega) (Ev.neg ?_ ?_)))), ?_⟩
        · rw [toList_inj, rdOf_get _ _ _ hi]; exact h
        · rw [wrap_succ i (by omega)]; exact h1
        · rw [mem_drop_iff l i hi, h2]; simp [h]
  obtain ⟨r, h1, h2⟩ := key 0 (by omega)
  refine Ev.congr (fun k => by rw [slices_Contains_string_string.f]) ?_
  refine Ev.bind (Ev.congr (fun k => by rw [slices_Index_string_string.f]; rfl) h1) (Ev.of ?_)
  rw [decide_eq_decide.2 h2]; rfl

theorem Equal_ev (l m : List ByteArray) (hl : l.length < 4611686018427387904) : Ev (fun k => slices_Equal_string_string.f k l m) (decide (l = m)) := by
  refine Ev.congr (fun k => by rw [slices_Equal_string_string.f]) ?_
  refine Ev.ite (fun h => ?_) (fun h => ?_)
  · have h' : l.length = m.length := by omega
    have key : ∀ i, i ≤ l.length → Ev (fun k => slices_Equal_string_string.l0 k l m (l.length : Int) (i : Int)) (decide (l.drop i = m.drop i)) := by
      refine upto_ind ?_ ?_
      · refine Ev.step (fun k => by rw [slices_Equal_string_string.l0]) (Ev.neg (by omega) (Ev.of ?_))
        rw [List.drop_length, h', List.drop_length]; simp
      · intro i hi ih
        refine Ev.step (fun k => by rw [slices_Equal_string_string.l0]) (Ev.pos (by omega) (Ev.pos (by omega) (Ev.pos (by omega) (Ev.pos (by omega) ?_))))
        rw [rdOf_get _ _ _ hi, rdOf_get _ _ _ (h' ▸ hi), wrap_succ i (by omega)]
        refine Ev.iff (toList_inj _ _) (fun e => ?_) (fun e => ?_)
        · refine Ev.eq ih (decide_eq_decide.2 ?_)
          rw [drop_eq_iff l m i hi (h' ▸ hi)]
          simp [e]
        · refine Ev.of ?_
          rw [decide_eq_false (fun h => e ((drop_eq_iff l m i hi (h' ▸ hi)).1 h).1)]
    exact key 0 (by omega)
  · refine Ev.of ?_
    rw [decide_eq_false (fun e => h (by rw [e]))]

/-- Each of some words once, where it stands first, behind those that are out already. -/
def uniqTo : List ByteArray → List ByteArray → List ByteArray
  | out, [] => out
  | out, w :: r => if w ∈ out then uniqTo out r else uniqTo (out ++ [w]) r
def uniq (l : List ByteArray) : List ByteArray := uniqTo [] l

theorem Unique_ev (l : List ByteArray) (hl : l.length < 8796093022208) : Ev (fun k => words_Unique.f k l) (uniq l) := by
  have key : ∀ i, i ≤ l.length → ∀ out : List ByteArray, out.length ≤ i → Ev (fun k => words_Unique.l0 k out l (l.length : Int) (i : Int)) (uniqTo out (l.drop i)) := by
    refine upto_ind ?_ ?_
    · intro out ho
      refine Ev.step (fun k => by rw [words_Unique.l0]) (Ev.neg (by omega) (Ev.of ?_))
      rw [List.drop_length]; rfl
    · intro i hi ih out ho
      refine Ev.step (fun k => by rw [words_Unique.l0]) (Ev.pos (by omega) (Ev.pos (by omega) (Ev.pos (by omega) ?_)))
      rw [rdOf_get _ _ _ hi, wrap_succ i (by omega)]
      refine Ev.bind (Contains_ev out l[i] (by omega)) ?_
      have e : uniqTo out (l.drop i) = if l[i] ∈ out then uniqTo out (l.drop (i + 1)) else uniqTo (out ++ [l[i]]) (l.drop (i + 1)) := by
        conv => lhs; rw [drop_get l i hi, uniqTo]
      rw [e]
      by_cases h : l[i] ∈ out
      · rw [if_pos h, decide_eq_true h]
        exact Ev.pos rfl (ih out (by omega))
      · rw [if_neg h, decide_eq_false h]
        exact Ev.neg (by simp) (Ev.pos (by omega) (ih _ (by simp; omega)))
  exact Ev.congr (fun k => by rw [words_Unique.f]; rfl) (key 0 (by omega) [] (by simp))

theorem bytesOf_B (l : List UInt8) : bytesOf (B l) = numsOf l := by unfold bytesOf numsOf; rw [B_data]
theorem strOf_nums (l : List UInt8) : strOfNums (numsOf l) = B l := by
  unfold strOfNums numsOf B
  rw [List.map_map, List.map_congr_left (g := id) (fun c _ => by simp), List.map_id]

def lensOf (l : List ByteArray) : Nat := (l.map (·.size)).sum
theorem lensOf_drop (l : List ByteArray) (i : Nat) (h : i < l.length) : lensOf (l.drop i) = l[i].size + lensOf (l.drop (i + 1)) := by
  unfold lensOf; conv => lhs; rw [drop_get l i h, List.map_cons, List.sum_cons]

def joinFrom : Nat → List ByteArray → List UInt8
  | _, [] => []
  | i, x :: r => (if i > 0 then [32] else []) ++ x.data.toList ++ joinFrom (i + 1) r
theorem joinFrom_pos (r : List ByteArray) : ∀ i, joinFrom (i + 1) r = Lib.joinTail [32] (r.map (·.data.toList)) := by
  induction r with
  | nil => intro i; rfl
  | cons x r ih =>
    intro i
    rw [joinFrom, ih (i + 1)]
    simp [Lib.joinTail]
theorem joinFrom_zero (l : List ByteArray) : joinFrom 0 l = Lib.join (l.map (·.data.toList)) [32] := by
  cases l with
  | nil => rfl
  | cons x r => rw [joinFrom, joinFrom_pos r 0, List.map_cons, Lib.join_cons]; simp
theorem join_len (l : List ByteArray) : (Lib.join (l.map (·.data.toList)) [32]).length ≤ lensOf l + l.length := by
  rw [← joinFrom_zero]
  have : ∀ (r : List ByteArray) (i : Nat), (joinFrom i r).length ≤ lensOf r + r.length := by
    intro r
    induction r with
    | nil => intro i; simp [joinFrom]
    | cons x r ih =>
      intro i
      have := ih (i + 1)
      have hx : x.data.toList.length = x.size := Array.length_toList
      simp only [joinFrom, List.length_append, lensOf, List.map_cons, List.sum_cons, List.length_cons, hx] at this ⊢
      have : (if i > 0 then [32] else ([] : List UInt8)).length ≤ 1 := by split <;> simp
      unfold lensOf at *
      omega
  exact this l 0

theorem refJoin_ev (l : List ByteArray) (hl : lensOf l + l.length < 140737488355328) : Ev (fun k => flatironref04_Join.f k l) (joined l (B [32])) := by
  have key : ∀ i, i ≤ l.length → ∀ acc : List UInt8, acc.length + lensOf (l.drop i) + (l.length - i) < 140737488355328 → Ev (fun k => flatironref04_Join.l0 k l (numsOf acc) (i : Int)) (B (acc ++ joinFrom i (l.drop i))) := by
    refine upto_ind ?_ ?_
    · intro acc _
      refine Ev.step (fun k => by rw [flatironref04_Join.l0]) (Ev.neg (by omega) (Ev.of ?_))
      rw [List.drop_length, strOf_nums]; simp [joinFrom]
    · intro i hi ih acc ha
      rw [lensOf_drop l i hi] at ha
      obtain ⟨x, hx, hxl⟩ := ex_B l[i]
      have e : joinFrom i (l.drop i) = (if i > 0 then [32] else []) ++ x ++ joinFrom (i + 1) (l.drop (i + 1)) := by
        conv => lhs; rw [drop_get l i hi, joinFrom, hx, B_data]
      rw [e]
      refine Ev.step (fun k => by rw [flatironref04_Join.l0]) (Ev.pos (by omega) ?_)
      rw [rdOf_get _ _ _ hi, wrap_succ i (by omega), hx, bytesOf_B, B_size]
      rw [hx, B_size] at ha
      refine Ev.ite (fun h => ?_) (fun h => ?_)
      · rw [if_pos (by omega)]
        have hn : numsOf acc ++ [32] = numsOf (acc ++ [32]) := by simp [numsOf]
        rw [hn]
        refine Ev.pos (by rw [numsOf_len]; omega) (Ev.bind' rfl (Ev.pos (by omega) (Ev.pos (by rw [numsOf_len]; simp; omega) ?_)))
        have hn2 : numsOf (acc ++ [32]) ++ numsOf x = numsOf (acc ++ [32] ++ x) := by simp [numsOf]
        rw [hn2]
        refine Ev.eq (ih (acc ++ [32] ++ x) (by simp; omega)) ?_
        simp
      · rw [if_neg (by omega)]
        have hn2 : numsOf acc ++ numsOf x = numsOf (acc ++ x) := by simp [numsOf]
        refine Ev.pos (by omega) (Ev.pos (by rw [numsOf_len]; omega) ?_)
        rw [hn2]
        refine Ev.eq (ih (acc ++ x) (by simp; omega)) ?_
        simp
  refine Ev.eq (Ev.congr (fun k => by rw [flatironref04_Join.f]; rfl) (key 0 (by omega) [] (by simp; omega))) ?_
  rw [List.drop_zero, joinFrom_zero]; rfl
end Go.Proofs.Ytcadgnaejjgdnaa.X
