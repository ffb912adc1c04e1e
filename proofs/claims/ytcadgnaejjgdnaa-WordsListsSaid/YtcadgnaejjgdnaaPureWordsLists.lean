/- WordsLists answers true for every list of words (its pure side): the law lets go more than 60 words, or a word of more than 100 bytes. -/
import Derived.Test.YtcadgnaejjgdnaaPUniqueR
namespace Go.Proofs.Ytcadgnaejjgdnaa.X
open Go.RowKit Go.Proofs.YtcadgnaejjgdnaaW.PrintWords Go.Proofs.YtcadgnaejjgdnaaW.PrintLast Go.Proofs.YtcadgnaejjgdnaaW.PrintMore Go.Proofs.Ytcadgnaejjgdnaa.XW04
set_option linter.unusedSimpArgs false

theorem uniqTo_len (l : List ByteArray) : ∀ out, (uniqTo out l).length ≤ out.length + l.length := by
  induction l with
  | nil => intro out; simp [uniqTo]
  | cons x r ih =>
    intro out
    rw [uniqTo]
    split
    · have := ih out; simp; omega
    · have := ih (out ++ [x]); simp at this ⊢; omega
theorem uniqTo_nodup (l : List ByteArray) : ∀ out : List ByteArray, out.Nodup → (uniqTo out l).Nodup := by
  induction l with
  | nil => intro out h; exact h
  | cons x r ih =>
    intro out h
    rw [uniqTo]
    split
    · exact ih out h
    · rename_i hx
      refine ih _ (List.nodup_append.2 ⟨h, by simp, ?_⟩)
      intro a ha b hb
      rw [List.mem_singleton.1 hb]
      exact fun e => hx (e ▸ ha)
theorem uniqTo_same (m : List ByteArray) : ∀ out : List ByteArray, (out ++ m).Nodup → uniqTo out m = out ++ m := by
  induction m with
  | nil => intro out _; simp [uniqTo]
  | cons x r ih =>
    intro out h
    have hx : x ∉ out := by
      intro hx
      have := (List.nodup_append.1 h).2.2 x hx x (by simp)
      exact this rfl
    rw [uniqTo, if_neg hx, ih]
    · simp
    · simpa using h
theorem uniq_uniq (l : List ByteArray) : uniq (uniq l) = uniq l := by
  have := uniqTo_same (uniq l) [] (by rw [List.nil_append]; exact uniqTo_nodup l [] List.nodup_nil)
  exact this

theorem lensOf_le (l : List ByteArray) (h : ∀ x ∈ l, x.size ≤ 100) : lensOf l ≤ 100 * l.length := by
  unfold lensOf
  induction l with
  | nil => simp
  | cons x r ih =>
    have h1 := h x (by simp)
    have h2 := ih (fun y hy => h y (by simp [hy]))
    simp only [List.map_cons, List.sum_cons, List.length_cons]; omega

theorem WordsLists_ev (l : List ByteArray) : Ev (fun k => flatironlaw04_WordsLists.f k l) true := by
  refine Ev.congr (fun k => by rw [flatironlaw04_WordsLists.f]) ?_
  refine Ev.bind lives04_ev (Ev.pos rfl ?_)
  by_cases h60 : (l.length : Int) > 60
  · rw [decide_eq_true h60]
    refine Ev.step (fun k => by rw [flatironlaw04_WordsLists.j0]) ?_
    exact Ev.pos rfl (Ev.bind lives04_ev (Ev.ret _))
  · rw [decide_eq_false h60]
    refine Ev.step (fun k => by rw [flatironlaw04_WordsLists.j0]) ?_
    refine Ev.neg (by simp) ?_
    have key : ∀ i, i ≤ l.length → (∀ j (hj : j < l.length), j < i → l[j].size ≤ 100) → Ev (fun k => flatironlaw04_WordsLists.l0 k l l (l.length : Int) (i : Int)) true := by
      refine upto_ind ?_ ?_
      · intro hall
        have hall' : ∀ x ∈ l, x.size ≤ 100 := by
          intro x hx
          obtain ⟨j, hj, rfl⟩ := List.mem_iff_getElem.1 hx
          exact hall j hj hj
        have hle := lensOf_le l hall'
        have hj := join_len l
        refine Ev.step (fun k => by rw [flatironlaw04_WordsLists.l0]) ?_
        refine Ev.neg (by omega) ?_
        refine Ev.bind' (a := l) (by unfold slices_Clone_string.f; rw [if_pos (by omega)]) ?_
        refine Ev.bind (Unique_ev l (by omega)) (Ev.bind (Equal_ev l l (by omega)) ?_)
        refine Ev.pos (by simp) ?_
        refine Ev.bind' (words_Join_ev l (by omega) (by omega)) (Ev.bind (refJoin_ev l (by omega)) ?_)
        refine Ev.pos rfl (Ev.bind (refUnique_ev l (by omega)) ?_)
        have hu := uniqTo_len l []
        have hu' : (uniq l).length ≤ l.length := by simpa [uniq] using hu
        refine Ev.bind (Equal_ev _ _ (by omega)) (Ev.pos (by simp) ?_)
        refine Ev.bind (Unique_ev _ (by omega)) (Ev.bind (Equal_ev _ _ (by rw [uniq_uniq]; omega)) (Ev.of ?_))
        rw [uniq_uniq]; simp
      · intro i hi ih hall
        refine Ev.step (fun k => by rw [flatironlaw04_WordsLists.l0]) ?_
        rw [rdOf_get _ _ _ hi, wrap_succ i (by omega)]
        refine Ev.pos (by omega) (Ev.pos (by omega) (Ev.pos (by omega) (Ev.ite (fun _ => Ev.ret _) (fun h => ih ?_))))
        intro j hj hji
        by_cases e : j = i
        · subst e; omega
        · exact hall j hj (by omega)
    exact key 0 (by omega) (by intro j _ h; omega)
end Go.Proofs.Ytcadgnaejjgdnaa.X
namespace Go.Proofs.Ytcadgnaejjgdnaa.Pure
theorem WordsLists (l0 : List ByteArray) : ∃ k, XW04.flatironlaw04_WordsLists.f k l0 = some true := X.Ev.get (X.WordsLists_ev l0)
end Go.Proofs.Ytcadgnaejjgdnaa.Pure
