/- StemMatches and StemChanges answer true for all arguments (their pure sides); what is longer than the laws' own bounds they let go. -/
import Derived.Test.YtcadgnaejjgdnaaDoorPStem
namespace Go.Proofs.YtcadgnaejjgdnaaDoor.X
open Go.RowKit Go.Proofs.YtcadgnaejjgdnaaDoorW.PrintWords Go.Proofs.YtcadgnaejjgdnaaDoorW.PrintLast Go.Proofs.YtcadgnaejjgdnaaDoorW.PrintMore Go.Proofs.YtcadgnaejjgdnaaDoor.XW12
set_option linter.unusedSimpArgs false
set_option linter.unusedVariables false

theorem sum3 (a b c : Nat) (ha : a ≤ 140737488351232) (hb : b ≤ 140737488351232) (hc : c ≤ 140737488351232) : wrap64 (wrap64 ((a : Int) + (b : Int)) + (c : Int)) = ((a + b + c : Nat) : Int) := by
  rw [wrap_add a b (by omega), wrap_add (a + b) c (by omega)]

theorem StemMatches_ev (p word s : List UInt8) (h0 : p.length ≤ 140737488351232) (h1 : word.length ≤ 140737488351232) (h2 : s.length ≤ 140737488351232) :
    Ev (fun k => flatironlaw12_StemMatches.f k (B p) (B word) (B s)) true := by
  refine Ev.congr (fun k => by rw [flatironlaw12_StemMatches.f]) ?_
  refine Ev.bind' lives12 (Ev.pos rfl ?_)
  rw [B_size, B_size, B_size, sum3 _ _ _ h0 h1 h2]
  by_cases hb : ((p.length + word.length + s.length : Nat) : Int) > 2000
  · rw [decide_eq_true hb]
    refine Ev.step (fun k => by rw [flatironlaw12_StemMatches.j0]) ?_
    exact Ev.pos rfl (Ev.bind' lives12 (Ev.ret _))
  · rw [decide_eq_false hb]
    refine Ev.step (fun k => by rw [flatironlaw12_StemMatches.j0]) ?_
    refine Ev.neg (by simp) (Ev.bind' (Match_eq p word (by omega) (by omega)) (Ev.bind (refMatch_ev p word (by omega) (by omega)) ?_))
    refine Ev.pos rfl (Ev.neg (by simp) ?_)
    refine Ev.bind' (Has_eq p (by omega)) (Ev.bind (At_ev p (by omega)) ?_)
    have e : decide (posI (pos 37 p) ≥ 0) = (pos 37 p).isSome := by
      rw [Bool.eq_iff_iff]; simp [posI_ge]
    refine Ev.neg (by rw [e]; simp) ?_
    refine Ev.bind' (Put_eq p s (by omega) (by omega)) (Ev.bind (refPut_ev p s (by omega) (by omega)) (Ev.pos rfl ?_))
    have hl := matchS_len p word
    refine Ev.ite (fun hm => ?_) (fun _ => Ev.ret _)
    refine Ev.bind' (Put_eq p (matchS p word).1 (by omega) (by omega)) (Ev.of ?_)
    have hm' : (matchS p word).2 = true := hm
    have : putS p (matchS p word).1 = word := by
      by_cases hp : (pos 37 p).isSome = true
      · exact put_match hm' hp
      · have hn : pos 37 p = none := by simpa using hp
        rw [put_none hn]
        unfold matchS at hm'
        rw [hn] at hm'
        simpa using hm'
    rw [B_toList, B_toList, this]; simp

theorem All_ev (l : List ByteArray) (a b : List UInt8) (hl : l.length ≤ 60) (hs : ∀ x ∈ l, x.size ≤ 100) (ha : a.length < 4000000) (hb : b.length < 4000000) :
    Ev (fun k => stem_All.f k l (B a) (B b)) (l.map fun w => B (changeS w.data.toList a b)) := by
  have key : ∀ i, i ≤ l.length → ∀ out : List ByteArray, out.length ≤ i → Ev (fun k => stem_All.l0 k (B a) (B b) out l (l.length : Int) (i : Int)) (out ++ (l.drop i).map fun w => B (changeS w.data.toList a b)) := by
    refine upto_ind ?_ ?_
    · intro out ho
      refine Ev.step (fun k => by rw [stem_All.l0]) ?_
      refine Ev.neg (by omega) (Ev.of ?_)
      rw [List.drop_length]; simp
    · intro i hi ih out ho
      refine Ev.step (fun k => by rw [stem_All.l0]) ?_
      rw [rdOf_get _ _ _ hi, wrap_succ i (by omega)]
      refine Ev.pos (by omega) (Ev.pos (by omega) (Ev.pos (by omega) ?_))
      have hx := hs l[i] (List.getElem_mem hi)
      obtain ⟨x, hxe, hxl⟩ := ex_B l[i]
      have hxd : l[i].data.toList = x := by rw [hxe, B_data]
      rw [hxe]
      refine Ev.bind' (Change_eq x a b (by omega) ha hb) (Ev.pos (by omega) ?_)
      refine Ev.eq (ih _ (by simp; omega)) ?_
      have : (l.drop i).map (fun w => B (changeS w.data.toList a b)) = B (changeS x a b) :: (l.drop (i + 1)).map (fun w => B (changeS w.data.toList a b)) := by
        conv => lhs; rw [drop_get l i hi, List.map_cons, hxd]
      rw [this]; simp
  exact Ev.congr (fun k => by rw [stem_All.f]; rfl) (key 0 (by omega) [] (by simp))

theorem StemChanges_ev (l : List ByteArray) (a b : List UInt8) (h1 : a.length ≤ 140737488351232) (h2 : b.length ≤ 140737488351232) :
    Ev (fun k => flatironlaw12_StemChanges.f k l (B a) (B b)) true := by
  refine Ev.congr (fun k => by rw [flatironlaw12_StemChanges.f]) ?_
  refine Ev.bind' lives12 (Ev.pos rfl ?_)
  have big : Ev (fun k => flatironlaw12_StemChanges.j0 k l (B a) (B b) true) true := by
    refine Ev.step (fun k => by rw [flatironlaw12_StemChanges.j0]) ?_
    exact Ev.pos rfl (Ev.bind' lives12 (Ev.ret _))
  refine Ev.ite (fun _ => big) (fun h60 => ?_)
  rw [B_size, B_size, wrap_add _ _ (by omega)]
  by_cases hb : ((a.length + b.length : Nat) : Int) > 400
  · rw [decide_eq_true hb]; exact big
  · rw [decide_eq_false hb]
    refine Ev.step (fun k => by rw [flatironlaw12_StemChanges.j0]) ?_
    refine Ev.neg (by simp) ?_
    have key : ∀ i, i ≤ l.length → (∀ j (hj : j < l.length), j < i → l[j].size ≤ 100) → Ev (fun k => flatironlaw12_StemChanges.l0 k l (B a) (B b) l (l.length : Int) (i : Int)) true := by
      refine upto_ind ?_ ?_
      · intro hall
        have hall' : ∀ x ∈ l, x.size ≤ 100 := by
          intro x hx
          obtain ⟨j, hj, rfl⟩ := List.mem_iff_getElem.1 hx
          exact hall j hj hj
        refine Ev.step (fun k => by rw [flatironlaw12_StemChanges.l0]) ?_
        refine Ev.neg (by omega) (Ev.bind (All_ev l a b (by omega) hall' (by omega) (by omega)) ?_)
        refine Ev.pos (by simp) ?_
        have two : ∀ i, i ≤ l.length → Ev (fun k => flatironlaw12_StemChanges.l1 k (B a) (B b) (l.map fun w => B (changeS w.data.toList a b)) l (l.length : Int) (i : Int)) true := by
          refine upto_ind ?_ ?_
          · refine Ev.step (fun k => by rw [flatironlaw12_StemChanges.l1]) ?_
            exact Ev.neg (by omega) (Ev.ret _)
          · intro i hi ih
            refine Ev.step (fun k => by rw [flatironlaw12_StemChanges.l1]) ?_
            have hx := hall' l[i] (List.getElem_mem hi)
            obtain ⟨x, hxe, hxl⟩ := ex_B l[i]
            have hxd : l[i].data.toList = x := by rw [hxe, B_data]
            have hm : (l.map fun w => B (changeS w.data.toList a b))[i]'(by simpa using hi) = B (changeS x a b) := by rw [List.getElem_map, hxd]
            rw [rdOf_get _ _ _ hi, rdOf_get _ _ _ (by simpa using hi), wrap_succ i (by omega), hm, hxe]
            refine Ev.pos (by omega) (Ev.pos (by omega) (Ev.pos (by omega) (Ev.pos (by simp; omega) ?_)))
            refine Ev.bind (refChange_ev x a b (by omega) (by omega) (by omega)) (Ev.pos rfl ?_)
            exact Ev.bind' (Change_eq x a b (by omega) (by omega) (by omega)) (Ev.pos rfl ih)
        exact two 0 (by omega)
      · intro i hi ih hall
        refine Ev.step (fun k => by rw [flatironlaw12_StemChanges.l0]) ?_
        rw [rdOf_get _ _ _ hi, wrap_succ i (by omega)]
        refine Ev.pos (by omega) (Ev.pos (by omega) (Ev.pos (by omega) (Ev.ite (fun _ => Ev.ret _) (fun h => ih ?_))))
        intro j hj hji
        by_cases e : j = i
        · subst e; omega
        · exact hall j hj (by omega)
    exact key 0 (by omega) (by intro j _ h; omega)
end Go.Proofs.YtcadgnaejjgdnaaDoor.X
namespace Go.Proofs.YtcadgnaejjgdnaaDoor.Pure
theorem StemMatches (a0 a1 a2 : ByteArray) (h0 : a0.size ≤ 140737488351232) (h1 : a1.size ≤ 140737488351232) (h2 : a2.size ≤ 140737488351232) : ∃ k, XW12.flatironlaw12_StemMatches.f k a0 a1 a2 = some true := by
  obtain ⟨p, rfl, hp⟩ := X.ex_B a0
  obtain ⟨w, rfl, hw⟩ := X.ex_B a1
  obtain ⟨s, rfl, hs⟩ := X.ex_B a2
  exact X.Ev.get (X.StemMatches_ev p w s (by omega) (by omega) (by omega))
theorem StemChanges (l0 : List ByteArray) (a1 a2 : ByteArray) (_h0 : l0.length * 16 ≤ 140737488351232) (h1 : a1.size ≤ 140737488351232) (h2 : a2.size ≤ 140737488351232) : ∃ k, XW12.flatironlaw12_StemChanges.f k l0 a1 a2 = some true := by
  obtain ⟨p, rfl, hp⟩ := X.ex_B a1
  obtain ⟨w, rfl, hw⟩ := X.ex_B a2
  exact X.Ev.get (X.StemChanges_ev l0 p w (by omega) (by omega))
end Go.Proofs.YtcadgnaejjgdnaaDoor.Pure
