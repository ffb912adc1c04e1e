/- What an answer with rounds comes to (Ev), and strings as lists of bytes (B). Plain Lean; no program. -/
import Derived.Test.YtmpheeanjjfddaaDoorWMore
namespace Go.Proofs.YtmpheeanjjfddaaDoor.X
open Go.RowKit Go.Proofs.YtmpheeanjjfddaaDoorW.PrintWords Go.Proofs.YtmpheeanjjfddaaDoorW.PrintLast Go.Proofs.YtmpheeanjjfddaaDoorW.PrintMore

/-- With enough rounds the answer is r. -/
def Ev {α : Type} (g : Nat → Option α) (r : α) : Prop := ∃ K, ∀ k, K ≤ k → g k = some r
theorem Ev.ret {α : Type} (r : α) : Ev (fun _ => some r) r := ⟨0, fun _ _ => rfl⟩
theorem Ev.of {α : Type} {x : Option α} {r : α} (h : x = some r) : Ev (fun _ => x) r := ⟨0, fun _ _ => h⟩
theorem Ev.step {α : Type} {g g' : Nat → Option α} {r : α} (h : ∀ k, g (k + 1) = g' k) (e : Ev g' r) : Ev g r := by
  obtain ⟨K, hK⟩ := e
  refine ⟨K + 1, fun k hk => ?_⟩
  obtain ⟨m, rfl⟩ : ∃ m, k = m + 1 := ⟨k - 1, by omega⟩
  rw [h]
  exact hK m (by omega)
theorem Ev.bind {α β : Type} {g : Nat → Option α} {f : Nat → α → Option β} {a : α} {b : β} (h : Ev g a) (h' : Ev (fun k => f k a) b) : Ev (fun k => (g k).bind (f k)) b := by
  obtain ⟨K, hK⟩ := h
  obtain ⟨L, hL⟩ := h'
  refine ⟨max K L, fun k hk => ?_⟩
  show (g k).bind (f k) = some b
  rw [hK k (by omega)]
  exact hL k (by omega)
theorem Ev.bind' {α β : Type} {x : Option α} {f : Nat → α → Option β} {a : α} {b : β} (h : x = some a) (h' : Ev (fun k => f k a) b) : Ev (fun k => x.bind (f k)) b := by
  rw [h]; exact h'
theorem Ev.congr {α : Type} {g g' : Nat → Option α} {r : α} (h : ∀ k, g k = g' k) (e : Ev g' r) : Ev g r := by
  obtain ⟨K, hK⟩ := e
  exact ⟨K, fun k hk => (h k).trans (hK k hk)⟩
theorem Ev.ite {α : Type} {c : Prop} [Decidable c] {g g' : Nat → Option α} {r : α} (h : c → Ev g r) (h' : ¬ c → Ev g' r) : Ev (fun k => if c then g k else g' k) r := by
  by_cases hc : c
  · simp only [if_pos hc]; exact h hc
  · simp only [if_neg hc]; exact h' hc
theorem Ev.iff {α : Type} {c d : Prop} [Decidable c] {g g' : Nat → Option α} {r : α} (e : c = d) (h : d → Ev g r) (h' : ¬ d → Ev g' r) : Ev (fun k => if c then g k else g' k) r :=
  Ev.ite (fun hc => h (e ▸ hc)) (fun hc => h' (e ▸ hc))
theorem Ev.pos {α : Type} {c : Prop} [Decidable c] {g g' : Nat → Option α} {r : α} (hc : c) (h : Ev g r) : Ev (fun k => if c then g k else g' k) r := by
  simp only [if_pos hc]; exact h
theorem Ev.neg {α : Type} {c : Prop} [Decidable c] {g g' : Nat → Option α} {r : α} (hc : ¬ c) (h : Ev g' r) : Ev (fun k => if c then g k else g' k) r := by
  simp only [if_neg hc]; exact h
theorem Ev.get {α : Type} {g : Nat → Option α} {r : α} (e : Ev g r) : ∃ k, g k = some r := by
  obtain ⟨K, hK⟩ := e
  exact ⟨K, hK K (Nat.le_refl _)⟩
theorem Ev.eq {α : Type} {g : Nat → Option α} {r r' : α} (e : Ev g r) (h : r = r') : Ev g r' := h ▸ e

/-- A list of bytes as a string. -/
def B (l : List UInt8) : ByteArray := ⟨l.toArray⟩
theorem B_data (l : List UInt8) : (B l).data.toList = l := by simp [B]
theorem B_toList (l : List UInt8) : (B l).toList = l := by rw [ByteArray.toList_eq, B_data]
theorem B_of (s : ByteArray) : B s.data.toList = s := by cases s; simp [B]
theorem B_size (l : List UInt8) : (B l).size = l.length := by simp [B, ByteArray.size]
theorem B_inj {a b : List UInt8} (h : B a = B b) : a = b := by rw [← B_data a, h, B_data]
theorem B_eq (a b : List UInt8) : (B a = B b) = (a = b) := propext ⟨B_inj, fun h => h ▸ rfl⟩
theorem data_eq {a b : ByteArray} (h : a.data.toList = b.data.toList) : a = b := by rw [← B_of a, ← B_of b, h]
theorem B_append (a b : List UInt8) : B a ++ B b = B (a ++ b) := data_eq (by rw [B_data, ByteArray.data_append, Array.toList_append, B_data, B_data])
theorem B_extract (l : List UInt8) (i j : Nat) : (B l).extract i j = B ((l.take j).drop i) := by
  apply data_eq
  rw [B_data]
  simp only [B, ByteArray.data_extract, Array.toList_extract, List.extract_eq_take_drop, List.drop_take]
theorem B_nil : (⟨#[]⟩ : ByteArray) = B [] := rfl
theorem B_lit (l : List UInt8) : (⟨l.toArray⟩ : ByteArray) = B l := rfl
theorem ex_B (s : ByteArray) : ∃ l, s = B l ∧ l.length = s.size := ⟨s.data.toList, (B_of s).symm, Array.length_toList⟩

theorem bt_B (l : List UInt8) (i : Nat) (h : i < l.length) : bt (B l) (i : Int) = (l[i].toNat : Int) := by
  have h' : ((i : Int)).toNat < (B l).size := by rw [B_size]; simpa using h
  rw [← bt_at (B l) i h']
  simp [B, ByteArray.getElem_eq_getElem_data]
theorem u8_toNat_eq (a b : UInt8) : ((a.toNat : Int) = (b.toNat : Int)) = (a = b) := by
  apply propext
  constructor
  · intro h; exact UInt8.toNat_inj.1 (by omega)
  · rintro rfl; rfl
theorem u8_num (a : UInt8) (n : Nat) (hn : n < 256) : ((a.toNat : Int) = (n : Int)) = (a = UInt8.ofNat n) := by
  apply propext
  constructor
  · intro h
    apply UInt8.toNat_inj.1
    rw [UInt8.toNat_ofNat']
    omega
  · rintro rfl
    rw [UInt8.toNat_ofNat']
    omega
theorem u8_back (c : UInt8) : ((c.toNat : Int)).toNat.toUInt8 = c := by
  apply UInt8.toNat_inj.1
  simp
theorem wrap_succ (n : Nat) (h : n < 4611686018427387904) : wrap64 ((n : Int) + 1) = ((n + 1 : Nat) : Int) := by unfold wrap64; omega
theorem wrap_pred (n : Nat) (h0 : 0 < n) (h : n < 4611686018427387904) : wrap64 ((n : Int) - 1) = ((n - 1 : Nat) : Int) := by unfold wrap64; omega
theorem wrap_add (n m : Nat) (h : n + m < 4611686018427387904) : wrap64 ((n : Int) + (m : Int)) = ((n + m : Nat) : Int) := by unfold wrap64; omega
theorem wrap_sub (n m : Nat) (h0 : m ≤ n) (h : n < 4611686018427387904) : wrap64 ((n : Int) - (m : Int)) = ((n - m : Nat) : Int) := by unfold wrap64; omega
theorem drop_get {α : Type} (l : List α) (i : Nat) (h : i < l.length) : l.drop i = l[i] :: l.drop (i + 1) := List.drop_eq_getElem_cons h
theorem mem_drop_iff {α : Type} (l : List α) (i : Nat) (h : i < l.length) (c : α) : c ∈ l.drop i ↔ c = l[i] ∨ c ∈ l.drop (i + 1) := by
  conv => lhs; rw [drop_get l i h, List.mem_cons]
theorem drop_eq_iff {α : Type} (l m : List α) (i : Nat) (h : i < l.length) (h' : i < m.length) : l.drop i = m.drop i ↔ l[i] = m[i] ∧ l.drop (i + 1) = m.drop (i + 1) := by
  conv => lhs; rw [drop_get l i h, drop_get m i h', List.cons.injEq]
instance baLaw : LawfulBEq ByteArray where
  eq_of_beq := by
    intro a b h
    have h' : (a.data == b.data) = true := h
    have := eq_of_beq h'
    cases a; cases b; simp_all
  rfl := by intro a; show (a.data == a.data) = true; simp
theorem one_at {α : Type} (l : List α) (i : Nat) (h : i < l.length) : (l.take (i + 1)).drop i = [l[i]] := by
  have e : l.take (i + 1) = l.take i ++ [l[i]] := by rw [List.take_succ_eq_append_getElem h]
  rw [e, List.drop_append_of_le_length (by simp; omega)]
  simp
/-- Rounds over the places of a list: from its end backwards. -/
theorem upto_ind {n : Nat} {P : Nat → Prop} (hend : P n) (hstep : ∀ i, i < n → P (i + 1) → P i) : ∀ i, i ≤ n → P i := by
  intro i hi
  obtain ⟨d, hd⟩ : ∃ d, d = n - i := ⟨_, rfl⟩
  induction d generalizing i with
  | zero => have : i = n := by omega
            exact this ▸ hend
  | succ d ih => exact hstep i (by omega) (ih (i + 1) (by omega) (by omega))
/-- Two cells of a block, stored twice. -/
theorem set2_again (w : World) (b : Nat) (x y z t : Value) :
    (((w.setCell ⟨b, 0, none⟩ x).setCell ⟨b, 1, none⟩ y).setCell ⟨b, 0, none⟩ z).setCell ⟨b, 1, none⟩ t = (w.setCell ⟨b, 0, none⟩ z).setCell ⟨b, 1, none⟩ t := by
  simp only [World.setCell, Option.isSome_none, Bool.false_eq_true, if_false]
  congr 1
  apply Array.ext_getElem?
  intro i
  simp only [Array.getElem?_modify]
  by_cases h : b = i
  · simp only [if_pos h]
    cases w.heap[i]? with
    | none => rfl
    | some o =>
      cases o <;> simp
      apply Array.ext_getElem?
      intro j
      simp only [Array.getElem?_setIfInBounds, Array.size_setIfInBounds]
      by_cases h0 : 0 = j
      · subst h0; simp
      · by_cases h1 : 1 = j
        · subst h1; simp
        · simp [h0, h1]
  · simp only [if_neg h]

theorem cell4_1 (w : World) (b : Nat) (x y z t : Value) (h : (w.cell? ⟨b, 1, none⟩).isSome = true) :
    ((((w.setCell ⟨b, 0, none⟩ x).setCell ⟨b, 1, none⟩ y).setCell ⟨b, 0, none⟩ z).setCell ⟨b, 1, none⟩ t).cell? ⟨b, 1, none⟩ = some t := by
  obtain ⟨v, hv⟩ := Option.isSome_iff_exists.1 h
  obtain ⟨v1, h1⟩ := cell?_setCell_some (p := ⟨b, 0, none⟩) (x := x) hv
  obtain ⟨v2, h2⟩ := cell?_setCell_some (p := ⟨b, 1, none⟩) (x := y) h1
  obtain ⟨v3, h3⟩ := cell?_setCell_some (p := ⟨b, 0, none⟩) (x := z) h2
  exact World.cell?_setCell_same _ _ _ h3

theorem cell4_1d (w : World) (b n : Nat) (x y z t : Value) (h : (w.cell? ⟨b, 1, none⟩).isSome = true) :
    (((((w.setCell ⟨b, 0, none⟩ x).setCell ⟨b, 1, none⟩ y).drewN n).setCell ⟨b, 0, none⟩ z).setCell ⟨b, 1, none⟩ t).cell? ⟨b, 1, none⟩ = some t := by
  obtain ⟨v, hv⟩ := Option.isSome_iff_exists.1 h
  obtain ⟨v1, h1⟩ := cell?_setCell_some (p := ⟨b, 0, none⟩) (x := x) hv
  obtain ⟨v2, h2⟩ := cell?_setCell_some (p := ⟨b, 1, none⟩) (x := y) h1
  have h2' : (((w.setCell ⟨b, 0, none⟩ x).setCell ⟨b, 1, none⟩ y).drewN n).cell? ⟨b, 1, none⟩ = some v2 := h2
  obtain ⟨v3, h3⟩ := cell?_setCell_some (p := ⟨b, 0, none⟩) (x := z) h2'
  exact World.cell?_setCell_same _ _ _ h3

theorem rdOf_get {α : Type} (d : α) (l : List α) (i : Nat) (h : i < l.length) : rdOf d l (i : Int) = l[i] := by simp [rdOf, h]
theorem rd_get (l : List Int) (i : Nat) (h : i < l.length) : rd l (i : Int) = l[i] := by simp [rd, h]
end Go.Proofs.YtmpheeanjjfddaaDoor.X
