/- The reference's order (a merge sort of places by the words there) and its Unique: it is the plain uniq. -/
import Derived.Test.YtcadgnaejjgdnaaPLists
import Derived.Sort.Walk0
namespace Go.Proofs.Ytcadgnaejjgdnaa.X
open Go.RowKit Go.Proofs.YtcadgnaejjgdnaaW.PrintWords Go.Proofs.YtcadgnaejjgdnaaW.PrintLast Go.Proofs.YtcadgnaejjgdnaaW.PrintMore Go.Proofs.Ytcadgnaejjgdnaa.XW04
set_option linter.unusedSimpArgs false

def wd (l : List ByteArray) (i : Nat) : List UInt8 := (l.getD i ByteArray.empty).data.toList
def leP (l : List ByteArray) (i j : Nat) : Bool := decide (wd l i < wd l j) || (decide (wd l i = wd l j) && decide (i ≤ j))
theorem leP_iff (l : List ByteArray) (i j : Nat) : leP l i j = true ↔ wd l i < wd l j ∨ wd l i = wd l j ∧ i ≤ j := by simp [leP]
theorem leP_trans (l : List ByteArray) (a b c : Nat) (h1 : leP l a b = true) (h2 : leP l b c = true) : leP l a c = true := by
  rw [leP_iff] at *
  rcases h1 with h1 | ⟨h1, h1'⟩ <;> rcases h2 with h2 | ⟨h2, h2'⟩
  · exact .inl (List.lt_trans h1 h2)
  · exact .inl (h2 ▸ h1)
  · exact .inl (h1 ▸ h2)
  · exact .inr ⟨h1.trans h2, by omega⟩
theorem leP_total (l : List ByteArray) (a b : Nat) : (leP l a b || leP l b a) = true := by
  rw [Bool.or_eq_true, leP_iff, leP_iff]
  by_cases h1 : wd l a < wd l b
  · exact .inl (.inl h1)
  · by_cases h2 : wd l b < wd l a
    · exact .inr (.inl h2)
    · have e : wd l a = wd l b := List.le_antisymm h2 h1
      rcases Nat.le_total a b with h | h
      · exact .inl (.inr ⟨e, h⟩)
      · exact .inr (.inr ⟨e.symm, h⟩)

def ints (l : List Nat) : List Int := l.map fun (i : Nat) => (i : Int)
theorem ints_len (l : List Nat) : (ints l).length = l.length := by simp [ints]
theorem ints_app (a b : List Nat) : ints a ++ ints b = ints (a ++ b) := by simp [ints]
theorem ints_cons (x : Nat) (a : List Nat) : ints (x :: a) = (x : Int) :: ints a := rfl
theorem rd_zero (x : Int) (a : List Int) : rd (x :: a) 0 = x := rfl
theorem wd_rd (l : List ByteArray) (x : Nat) (h : x < l.length) : (rdOf ByteArray.empty l (x : Int)).toList = wd l x := by
  rw [rdOf_get _ _ _ h, ByteArray.toList_eq, wd]; simp [h]

theorem merge_ev (l : List ByteArray) (n : Nat) : ∀ a b out : List Nat, a.length + b.length = n → (∀ x ∈ a, x < l.length) → (∀ x ∈ b, x < l.length) → (∀ x ∈ a, ∀ y ∈ b, x ≤ y) → out.length + n < 17592186044416 →
    Ev (fun k => flatironref04_order.l0 k l (ints a) (ints b) (ints out)) (ints (out ++ a.merge b (leP l))) := by
  induction n with
  | zero =>
    intro a b out hn _ _ _ ho
    obtain rfl : a = [] := List.eq_nil_of_length_eq_zero (by omega)
    obtain rfl : b = [] := List.eq_nil_of_length_eq_zero (by omega)
    refine Ev.step (fun k => by rw [flatironref04_order.l0]) ?_
    refine Ev.neg (by simp [ints]) ?_
    refine Ev.step (fun k => by rw [flatironref04_order.j1]) ?_
    refine Ev.neg (by simp) (Ev.pos (by simp [ints]; omega) (Ev.bind' rfl (Ev.pos (by simp [ints]; omega) (Ev.of ?_))))
    simp [ints]
  | succ n ih =>
    intro a b out hn ha hb hab ho
    have stop : a = [] ∨ b = [] → Ev (fun k => flatironref04_order.j1 k l (ints a) (ints b) (ints out) false) (ints (out ++ a.merge b (leP l))) := by
      intro h
      refine Ev.step (fun k => by rw [flatironref04_order.j1]) ?_
      refine Ev.neg (by simp) (Ev.pos (by simp [ints]; omega) (Ev.bind' rfl (Ev.pos (by simp [ints]; omega) (Ev.of ?_))))
      rcases h with rfl | rfl
      · simp [ints]
      · simp [ints]
    refine Ev.step (fun k => by rw [flatironref04_order.l0]) ?_
    match a, b, ha, hb, hab, hn, stop with
    | [], b, _, _, _, _, stop => exact Ev.neg (by simp [ints]) (stop (.inl rfl))
    | x :: a, [], _, _, _, _, stop =>
      refine Ev.pos (by simp [ints]) ?_
      rw [decide_eq_false (by simp [ints])]
      exact stop (.inr rfl)
    | x :: a, y :: b, ha, hb, hab, hn, _ =>
      have hx := ha x (by simp)
      have hy := hb y (by simp)
      refine Ev.pos (by simp [ints]) ?_
      rw [decide_eq_true (by simp [ints])]
      have hxy := hab x (by simp) y (by simp)
      refine Ev.step (fun k => by rw [flatironref04_order.j1]) ?_
      rw [ints_cons, ints_cons, rd_zero, rd_zero, wd_rd l x hx, wd_rd l y hy, Proofs.bytesLess_eq]
      have l1 : 0 < (((x : Int) :: ints a).length : Int) := by simp
      have l2 : 0 < (((y : Int) :: ints b).length : Int) := by simp
      have hlo : (ints out).length < 17592186044416 := by rw [ints_len]; omega
      refine Ev.pos rfl (Ev.pos l1 (Ev.pos (by omega) (Ev.pos (by omega) (Ev.pos l2 (Ev.pos (by omega) (Ev.pos (by omega) ?_))))))
      simp only [List.length_cons] at hn
      have left : leP l x y = true → Ev (fun k => if (ints out).length < 17592186044416 then (if 1 ≤ (((x : Int) :: ints a).length : Int) then (flatironref04_order.l0 k l (((x : Int) :: ints a).drop (1 : Int).toNat) ((y : Int) :: ints b) (ints out ++ [(x : Int)])) else none) else none) (ints (out ++ (x :: a).merge (y :: b) (leP l))) := by
        intro h
        refine Ev.pos hlo (Ev.pos (by omega) ?_)
        rw [List.cons_merge_cons, if_pos h]
        have := ih a (y :: b) (out ++ [x]) (by simp; omega) (fun z hz => ha z (by simp [hz])) hb (fun z hz => hab z (by simp [hz])) (by simp; omega)
        have e : ints (out ++ [x]) = ints out ++ [(x : Int)] := by simp [ints]
        rw [e] at this
        refine Ev.eq this ?_
        simp
      have right : leP l x y = false → Ev (fun k => if (ints out).length < 17592186044416 then (if 1 ≤ (((y : Int) :: ints b).length : Int) then (flatironref04_order.l0 k l ((x : Int) :: ints a) (((y : Int) :: ints b).drop (1 : Int).toNat) (ints out ++ [(y : Int)])) else none) else none) (ints (out ++ (x :: a).merge (y :: b) (leP l))) := by
        intro h
        refine Ev.pos hlo (Ev.pos (by omega) ?_)
        rw [List.cons_merge_cons, if_neg (by simp [h])]
        have := ih (x :: a) b (out ++ [y]) (by simp; omega) ha (fun z hz => hb z (by simp [hz])) (fun z hz w hw => hab z hz w (by simp [hw])) (by simp; omega)
        have e : ints (out ++ [y]) = ints out ++ [(y : Int)] := by simp [ints]
        rw [e] at this
        refine Ev.eq this ?_
        simp
      refine Ev.ite (fun h => left ?_) (fun h => Ev.ite (fun h' => left ?_) (fun h' => right ?_))
      · rw [leP_iff]; exact .inl (of_decide_eq_true h)
      · rw [leP_iff]; exact .inr ⟨h', hxy⟩
      · rw [Bool.eq_false_iff, Ne, leP_iff]
        rintro (h3 | h3)
        · exact h (decide_eq_true h3)
        · exact h' h3.1

theorem order_ev (l : List ByteArray) (hl : l.length < 17592186044416) (n : Nat) : ∀ a b : Nat, a ≤ b → b ≤ l.length → b - a ≤ n →
    ∃ r : List Nat, Ev (fun k => flatironref04_order.f k l (a : Int) (b : Int)) (ints r) ∧ r.Pairwise (fun i j => leP l i j = true) ∧ r.Perm (List.range' a (b - a)) := by
  induction n with
  | zero =>
    intro a b hab hb hn
    obtain rfl : b = a := by omega
    refine ⟨[], Ev.step (fun k => by rw [flatironref04_order.f]) ?_, List.Pairwise.nil, by simp⟩
    rw [wrap_sub _ _ hab (by omega)]
    exact Ev.pos (by omega) (Ev.pos rfl (Ev.of rfl))
  | succ n ih =>
    intro a b hab hb hn
    by_cases h0 : b - a < 2
    · by_cases h1 : a = b
      · subst h1
        refine ⟨[], Ev.step (fun k => by rw [flatironref04_order.f]) ?_, List.Pairwise.nil, by simp⟩
        rw [wrap_sub _ _ hab (by omega)]
        exact Ev.pos (by omega) (Ev.pos rfl (Ev.of rfl))
      · obtain rfl : b = a + 1 := by omega
        refine ⟨[a], Ev.step (fun k => by rw [flatironref04_order.f]) ?_, by simp, by simp [List.range']⟩
        rw [wrap_sub _ _ hab (by omega)]
        exact Ev.pos (by omega) (Ev.neg (by omega) (Ev.of rfl))
    · have hm : wrap64 (Int.tdiv (wrap64 ((a : Int) + (b : Int))) 2) = (((a + b) / 2 : Nat) : Int) := by
        rw [wrap_add a b (by omega), show (2 : Int) = ((2 : Nat) : Int) from rfl, ← Int.ofNat_tdiv]
        unfold wrap64; omega
      obtain ⟨r1, e1, p1, q1⟩ := ih a ((a + b) / 2) (by omega) (by omega) (by omega)
      obtain ⟨r2, e2, p2, q2⟩ := ih ((a + b) / 2) b (by omega) (by omega) (by omega)
      have m1 : ∀ x ∈ r1, a ≤ x ∧ x < (a + b) / 2 := fun x hx => by have := q1.mem_iff.1 hx; rw [List.mem_range'_1] at this; omega
      have m2 : ∀ x ∈ r2, (a + b) / 2 ≤ x ∧ x < b := fun x hx => by have := q2.mem_iff.1 hx; rw [List.mem_range'_1] at this; omega
      have n1 : r1.length = (a + b) / 2 - a := by rw [q1.length_eq]; simp
      have n2 : r2.length = b - (a + b) / 2 := by rw [q2.length_eq]; simp
      have e3 := merge_ev l (r1.length + r2.length) r1 r2 [] rfl (fun x hx => by have := m1 x hx; omega) (fun x hx => by have := m2 x hx; omega) (fun x hx y hy => by have := m1 x hx; have := m2 y hy; omega) (by simp; omega)
      refine ⟨r1.merge r2 (leP l), Ev.step (fun k => by rw [flatironref04_order.f]) ?_, List.pairwise_merge (leP_trans l) (leP_total l) _ _ p1 p2, ?_⟩
      · rw [wrap_sub _ _ hab (by omega), hm]
        refine Ev.neg (by omega) (Ev.bind e1 (Ev.bind e2 ?_))
        exact e3
      · refine (List.merge_perm_append (leP l)).trans ((q1.append q2).trans ?_)
        have : List.range' a (b - a) = List.range' a ((a + b) / 2 - a) ++ List.range' ((a + b) / 2) (b - (a + b) / 2) := by
          have := List.range'_append_1 (s := a) (m := (a + b) / 2 - a) (n := b - (a + b) / 2)
          rw [show a + ((a + b) / 2 - a) = (a + b) / 2 from by omega, show (a + b) / 2 - a + (b - (a + b) / 2) = b - a from by omega] at this
          exact this.symm
        rw [this]
end Go.Proofs.Ytcadgnaejjgdnaa.X
