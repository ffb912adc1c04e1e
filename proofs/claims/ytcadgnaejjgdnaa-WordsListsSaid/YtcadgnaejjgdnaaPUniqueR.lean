/- The reference's Unique is the plain uniq: of sorted places, one is a word's first unless the place ahead of it holds the same word. -/
import Derived.Test.YtcadgnaejjgdnaaPOrder
namespace Go.Proofs.Ytcadgnaejjgdnaa.X
open Go.RowKit Go.Proofs.YtcadgnaejjgdnaaW.PrintWords Go.Proofs.YtcadgnaejjgdnaaW.PrintLast Go.Proofs.YtcadgnaejjgdnaaW.PrintMore Go.Proofs.Ytcadgnaejjgdnaa.XW04
set_option linter.unusedSimpArgs false

structure Sorted (l : List ByteArray) (r : List Nat) : Prop where
  len : r.length = l.length
  lt : ∀ j, j < r.length → r.getD j 0 < l.length
  inj : ∀ i j, i < r.length → j < r.length → r.getD i 0 = r.getD j 0 → i = j
  onto : ∀ p, p < l.length → ∃ j, j < r.length ∧ r.getD j 0 = p
  le : ∀ i j, i < j → j < r.length → leP l (r.getD i 0) (r.getD j 0) = true

theorem getD_get {α : Type} (r : List α) (j : Nat) (d : α) (h : j < r.length) : r.getD j d = r[j] := by simp [h]

theorem sorted_of (l : List ByteArray) (r : List Nat) (hp : r.Pairwise (fun i j => leP l i j = true)) (hq : r.Perm (List.range' 0 l.length)) : Sorted l r := by
  have hlen : r.length = l.length := by rw [hq.length_eq]; simp
  have hnd : r.Nodup := hq.nodup_iff.2 (List.nodup_range' (s := 0) (n := l.length))
  refine ⟨hlen, fun j hj => ?_, fun i j hi hj e => ?_, fun p hp' => ?_, fun i j hij hj => ?_⟩
  · rw [getD_get _ _ _ hj]
    have := hq.mem_iff.1 (List.getElem_mem hj)
    rw [List.mem_range'_1] at this
    omega
  · rw [getD_get _ _ _ hi, getD_get _ _ _ hj] at e
    rcases Nat.lt_trichotomy i j with h | h | h
    · exact absurd e (List.pairwise_iff_getElem.1 hnd i j hi hj h)
    · exact h
    · exact absurd e.symm (List.pairwise_iff_getElem.1 hnd j i hj hi h)
  · have : p ∈ r := hq.mem_iff.2 (by rw [List.mem_range'_1]; omega)
    obtain ⟨j, hj, e⟩ := List.mem_iff_getElem.1 this
    exact ⟨j, hj, by rw [getD_get _ _ _ hj, e]⟩
  · rw [getD_get _ _ _ hj, getD_get _ _ _ (by omega)]
    exact List.pairwise_iff_getElem.1 hp i j (by omega) hj hij

def Marks (l : List ByteArray) (r : List Nat) (i : Nat) (A : List Bool) : Prop :=
  A.length = l.length ∧ ∀ p, p < l.length → (A.getD p false = true ↔ ∃ j, 1 ≤ j ∧ j < i ∧ r.getD j 0 = p ∧ wd l (r.getD j 0) = wd l (r.getD (j - 1) 0))

theorem marks_step {l : List ByteArray} {r : List Nat} (hs : Sorted l r) {i : Nat} (h1 : 1 ≤ i) (hi : i < r.length) {A : List Bool} (h : Marks l r i A) :
    Marks l r (i + 1) (A.set (r.getD i 0) (wd l (r.getD i 0) == wd l (r.getD (i - 1) 0))) := by
  refine ⟨by simpa using h.1, fun p hp => ?_⟩
  have hlt := hs.lt i hi
  by_cases e : r.getD i 0 = p
  · have : (A.set (r.getD i 0) (wd l (r.getD i 0) == wd l (r.getD (i - 1) 0))).getD p false = (wd l (r.getD i 0) == wd l (r.getD (i - 1) 0)) := by
      rw [List.getD_eq_getElem?_getD, e, List.getElem?_set_self (by rw [h.1]; exact hp)]; rfl
    rw [this]
    constructor
    · intro hb
      exact ⟨i, h1, by omega, e, by simpa using hb⟩
    · rintro ⟨j, _, hj2, hj3, hj4⟩
      have : j = i := hs.inj j i (by omega) hi (hj3.trans e.symm)
      subst this
      simpa using hj4
  · have : (A.set (r.getD i 0) (wd l (r.getD i 0) == wd l (r.getD (i - 1) 0))).getD p false = A.getD p false := by
      rw [List.getD_eq_getElem?_getD, List.getElem?_set_ne e, List.getD_eq_getElem?_getD]
    rw [this, h.2 p hp]
    constructor
    · rintro ⟨j, a, b, c, d⟩
      exact ⟨j, a, by omega, c, d⟩
    · rintro ⟨j, a, b, c, d⟩
      have : j ≠ i := fun hj => e (hj ▸ c)
      exact ⟨j, a, by omega, c, d⟩

theorem marks_end {l : List ByteArray} {r : List Nat} (hs : Sorted l r) {A : List Bool} (h : Marks l r r.length A) (p : Nat) (hp : p < l.length) :
    A.getD p false = true ↔ ∃ q, q < p ∧ wd l q = wd l p := by
  rw [h.2 p hp]
  constructor
  · rintro ⟨j, h1, h2, h3, h4⟩
    have hle := hs.le (j - 1) j (by omega) h2
    rw [leP_iff] at hle
    refine ⟨r.getD (j - 1) 0, ?_, by rw [← h3]; exact h4.symm⟩
    have hne : r.getD (j - 1) 0 ≠ r.getD j 0 := fun e => by have := hs.inj _ _ (by omega) h2 e; omega
    rcases hle with hle | hle
    · rw [h4] at hle; exact absurd hle (List.lt_irrefl _)
    · have := hle.2; rw [h3] at this hne; omega
  · rintro ⟨q, hq, he⟩
    obtain ⟨a, ha, ea⟩ := hs.onto q (by omega)
    obtain ⟨b, hb, eb⟩ := hs.onto p hp
    have hab : a < b := by
      rcases Nat.lt_trichotomy a b with h | h | h
      · exact h
      · subst h; omega
      · have := hs.le b a h ha
        rw [leP_iff, ea, eb] at this
        rcases this with this | this
        · rw [he] at this; exact absurd this (List.lt_irrefl _)
        · omega
    refine ⟨b, by omega, hb, eb, ?_⟩
    rw [eb]
    have h2 := hs.le (b - 1) b (by omega) hb
    rw [leP_iff, eb] at h2
    by_cases hab' : a = b - 1
    · rw [← hab', ea, he]
    · have h1 := hs.le a (b - 1) (by omega) (by omega)
      rw [leP_iff, ea] at h1
      rcases h1 with h1 | h1
      · rcases h2 with h2 | h2
        · have := List.lt_trans h1 h2; rw [he] at this; exact absurd this (List.lt_irrefl _)
        · rw [h2.1, he] at h1; exact absurd h1 (List.lt_irrefl _)
      · rw [← he, h1.1]

theorem wd_mem (l : List ByteArray) (i : Nat) (hi : i < l.length) : (∃ q, q < i ∧ wd l q = wd l i) ↔ l[i] ∈ l.take i := by
  constructor
  · rintro ⟨q, hq, e⟩
    have e' : l[q]'(by omega) = l[i] := by
      have h1 : wd l q = (l[q]'(by omega)).data.toList := by rw [wd, getD_get _ _ _ (by omega)]
      have h2 : wd l i = l[i].data.toList := by rw [wd, getD_get _ _ _ hi]
      exact data_eq (by rw [← h1, ← h2, e])
    rw [← e']
    exact List.mem_take_iff_getElem.2 ⟨q, by omega, rfl⟩
  · intro h
    obtain ⟨q, hq, e⟩ := List.mem_take_iff_getElem.1 h
    refine ⟨q, by omega, ?_⟩
    rw [wd, wd, getD_get _ _ _ (by omega), getD_get _ _ _ hi, e]

theorem rd_ints (r : List Nat) (i : Nat) (h : i < r.length) : rd (ints r) (i : Int) = ((r.getD i 0 : Nat) : Int) := by
  rw [rd_get _ _ (by rw [ints_len]; exact h), getD_get _ _ _ h]; simp [ints]

theorem refUnique_ev (l : List ByteArray) (hl : l.length < 8796093022208) : Ev (fun k => flatironref04_Unique.f k l) (uniq l) := by
  obtain ⟨r, e, hp, hq⟩ := order_ev l (by omega) l.length 0 l.length (by omega) (by omega) (by omega)
  have hs := sorted_of l r hp (by simpa using hq)
  have two : ∀ A : List Bool, Marks l r r.length A → Ev (fun k => flatironref04_Unique.l1 k l A [] 0) (uniq l) := by
    intro A hA
    have key : ∀ i, i ≤ l.length → ∀ out : List ByteArray, out.length ≤ i → (∀ x, x ∈ out ↔ x ∈ l.take i) → Ev (fun k => flatironref04_Unique.l1 k l A out (i : Int)) (uniqTo out (l.drop i)) := by
      refine upto_ind ?_ ?_
      · intro out ho hm
        refine Ev.step (fun k => by rw [flatironref04_Unique.l1]) ?_
        refine Ev.neg (by omega) (Ev.of ?_)
        rw [List.drop_length]; rfl
      · intro i hi ih out ho hm
        have hAl := hA.1
        refine Ev.step (fun k => by rw [flatironref04_Unique.l1]) ?_
        refine Ev.pos (by omega) (Ev.pos (by omega) (Ev.pos (by omega) ?_))
        have hr : rdOf false A (i : Int) = A.getD i false := by rw [rdOf_get _ _ _ (by omega), getD_get _ _ _ (by omega)]
        rw [hr, rdOf_get _ _ _ hi, wrap_succ i (by omega)]
        have hx : (A.getD i false = true) = (l[i] ∈ out) := propext ((marks_end hs hA i hi).trans ((wd_mem l i hi).trans (hm _).symm))
        have e : uniqTo out (l.drop i) = if l[i] ∈ out then uniqTo out (l.drop (i + 1)) else uniqTo (out ++ [l[i]]) (l.drop (i + 1)) := by
          conv => lhs; rw [drop_get l i hi, uniqTo]
        have ht : l.take (i + 1) = l.take i ++ [l[i]] := List.take_succ_eq_append_getElem hi
        rw [e]
        refine Ev.iff hx (fun h => ?_) (fun h => ?_)
        · rw [if_pos h]
          refine ih out (by omega) (fun x => ?_)
          rw [ht, List.mem_append, hm x]
          constructor
          · exact .inl
          · rintro (h' | h')
            · exact h'
            · rw [List.mem_singleton.1 h']; exact (hm _).1 h
        · rw [if_neg h]
          refine Ev.pos (by omega) (ih _ (by simp; omega) (fun x => ?_))
          rw [ht, List.mem_append, List.mem_append, hm x]
    exact key 0 (by omega) [] (by simp) (by simp)
  have one : ∀ i, i ≤ r.length → 1 ≤ i → ∀ A : List Bool, Marks l r i A → Ev (fun k => flatironref04_Unique.l0 k l (ints r) A (i : Int)) (uniq l) := by
    refine upto_ind ?_ ?_
    · intro _ A hA
      refine Ev.step (fun k => by rw [flatironref04_Unique.l0]) ?_
      exact Ev.neg (by rw [ints_len]; omega) (two A hA)
    · intro i hi ih h1 A hA
      have h3 := hs.lt i hi
      have h4 := hs.lt (i - 1) (by omega)
      have h5 := hA.1
      have h6 := hs.len
      refine Ev.step (fun k => by rw [flatironref04_Unique.l0]) ?_
      rw [wrap_pred i (by omega) (by omega), wrap_succ i (by omega), rd_ints r i hi, rd_ints r (i - 1) (by omega), wd_rd l _ h3, wd_rd l _ h4, ints_len]
      refine Ev.pos (by omega) (Ev.pos (by omega) (Ev.pos (by omega) (Ev.pos (by omega) (Ev.pos (by omega) (Ev.pos (by omega) (Ev.pos (by omega) (Ev.pos (by omega) (Ev.pos (by omega) ?_))))))))
      have := ih (by omega) _ (marks_step hs h1 hi hA)
      simpa using this
  refine Ev.congr (fun k => by rw [flatironref04_Unique.f]) ?_
  refine Ev.bind e (Ev.pos (by omega) (Ev.pos (by omega) ?_))
  have m0 : Marks l r 1 (List.replicate l.length false) := by
    refine ⟨by simp, fun p hp => ?_⟩
    constructor
    · intro h; simp [hp] at h
    · rintro ⟨j, a, b, _⟩; omega
  by_cases hz : l.length = 0
  · have hr : r.length = 0 := by rw [hs.len]; exact hz
    have m1 : Marks l r r.length (List.replicate l.length false) := ⟨by simp, fun p hp => by omega⟩
    refine Ev.step (fun k => by rw [flatironref04_Unique.l0]) ?_
    refine Ev.neg (by rw [ints_len]; omega) ?_
    exact two _ m1
  · have := one 1 (by rw [hs.len]; omega) (by omega) _ m0
    exact this
end Go.Proofs.Ytcadgnaejjgdnaa.X
