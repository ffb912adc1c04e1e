/- A slice of strings that came in, as a law's row reads it: its cells, and its length by the row's weight. -/
import Derived.SizedLaws
import Derived.ChangeSlices
import Derived.SliceStrings
import Derived.ProofKit
import Derived.Test.YtmpheeanjjfddaaDoorWMore
namespace Go.Proofs.YtmpheeanjjfddaaDoor.X
open Go.RowKit Go.ChangeShapes Go.WideShapes Go.Proofs.YtmpheeanjjfddaaDoorW.PrintWords

theorem add_cell (x : Addr) (i : Nat) (w : World) (v : Value) (h : w.cell? (x.add i) = some v) : w.cell? (x.add (i * 1 + 0)) = some v := by simpa using h

theorem mem_weightsAll {H : Type} {P : Program} {e : TypeId} {y : ByteArray} : ∀ {l : List ByteArray}, y ∈ l → y.size ∈ DataW.weightsAll P e (strs (H := H) l)
  | x :: r, h => by
    have e1 : strs (H := H) (x :: r) = .lit (.string x.data.toList) :: strs r := rfl
    rw [e1]
    simp only [DataW.weightsAll, DataW.weights]
    rcases List.mem_cons.1 h with rfl | h
    · exact List.mem_append_left _ (List.mem_singleton.2 (by rw [Array.length_toList]; rfl))
    · exact List.mem_append_right _ (mem_weightsAll h)

/-- What a slice of strings holds. -/
theorem strings_open {H : Type} {enc : TypeId × Value → H} {P : Program} {W : World} {base : Nat} {spare : Nat → Bool} {held : Bool} {t e : TypeId} {a : Option Addr} {len cap : Nat} {d : DataW H} {ps : List MemPlace} {ts : List TypeId} {ds : List (DataW H)} {j : Nat}
    (hsz : (DataW.weightsEach P ts ds).all (· ≤ reachBytes) = true) (ht : ts[j]? = some t) (hd : ds[j]? = some d) (hu : P.underlying t = some (.slice e)) (he : P.underlying e = some .string) (hc : P.cellsOf e = 1) {B : Nat} (hB : P.bytesOf e = B)
    (h : DataW.Trod enc P W base spare held t (.slice a len cap) d ps) :
    ∃ l : List ByteArray, len = l.length ∧ Kd.C Kd.string W a l.length l ∧ l.length ≤ cap ∧ l.length * B ≤ 140737488351232 ∧ ∀ x ∈ l, x.size ≤ 140737488351232 := by
  obtain ⟨fuel, hf⟩ := h
  rcases open_strings hu he hc hf with ⟨hcs, _⟩ | ⟨x, l, c, ss, hcs, _, hl, hm, hz, hx, hcell, hwz⟩
  · simp [Value.cells] at hcs
    obtain ⟨rfl, rfl, rfl⟩ := hcs
    exact ⟨[], rfl, ⟨rfl, by simp, fun h => by simp at h⟩, Nat.le_refl _, by simp, by simp⟩
  · simp [Value.cells] at hcs
    obtain ⟨rfl, rfl, rfl⟩ := hcs
    have hle : len ≤ ss.length := by
      rw [hz]; split
      · exact hl
      · exact Nat.le_refl _
    have hlen : (ss.take len).length = len := by simp; omega
    obtain ⟨hx, _⟩ := Prod.mk.inj hx
    subst hx
    have z := sized_slice hsz ht hd hu
    rw [hB] at z
    have h1 : (strs (H := H) (ss.take len)).length + (strs (H := H) (ss.drop len)).length = ss.length := by
      simp [strs]; omega
    rw [h1] at z
    unfold maxLen at hm
    refine ⟨ss.take len, hlen.symm, ⟨rfl, by omega, fun _ => ⟨x, rfl, fun j p hj => ⟨[.string p], rfl, rfl, fun i u hi => ?_⟩⟩⟩, by omega, by rw [hlen]; exact Nat.le_trans (Nat.mul_le_mul_right _ hle) z, fun y hy => ?_⟩
    rotate_left
    · have hm := DataW.weights_mem_each ht hd (P := P) y.size (by
        simp only [DataW.weights, hu]
        exact List.mem_cons_of_mem _ (List.mem_append_left _ (mem_weightsAll hy)))
      have := List.all_eq_true.1 hsz _ hm
      exact of_decide_eq_true this
    have hj' : j < (ss.take len).length := (List.getElem?_eq_some_iff.1 hj).1
    have hi0 : i = 0 := by
      have := (List.getElem?_eq_some_iff.1 hi).1
      simp at this; exact this
    subst hi0
    have hu' : u = .string p := by simpa using hi.symm
    subst hu'
    have hp : ss.getD j ByteArray.empty = p := by
      have h2 := (List.getElem?_eq_some_iff.1 hj).2
      rw [List.getElem_take] at h2
      rw [← h2]; simp [List.getD, show j < ss.length by omega]
    have := hcell j (by omega)
    rw [hp] at this
    exact add_cell x j W _ this
end Go.Proofs.YtmpheeanjjfddaaDoor.X
