/- GlobMatches answers true for every pattern and every text; no condition: a longer pattern than 24 bytes, or a longer text than 40, is let go by the law itself. -/
import Derived.Test.YtgpabkdmagifjaaDoorPGlobD
namespace Go.Proofs.YtgpabkdmagifjaaDoor.X
open Go.RowKit Go.Proofs.YtgpabkdmagifjaaDoorW.PrintWords Go.Proofs.YtgpabkdmagifjaaDoorW.PrintLast Go.Proofs.YtgpabkdmagifjaaDoorW.PrintMore Go.Proofs.YtgpabkdmagifjaaDoor.XW02
set_option linter.unusedSimpArgs false
set_option linter.unusedVariables false
set_option maxRecDepth 100000

theorem lives02 : flatironlaw02_lives.f 100 = some true := by kernel_rfl
theorem Ev.mono {α : Type} {g : Nat → Option α} {K : Nat} {r : α} (hm : ∀ k, LeO (g k) (g (k + 1))) (h : g K = some r) : Ev g r := by
  refine ⟨K, fun k hk => ?_⟩
  obtain ⟨d, rfl⟩ : ∃ d, k = K + d := ⟨k - K, by omega⟩
  clear hk
  induction d with
  | zero => exact h
  | succ d ih => exact hm _ _ ih
theorem lives02_ev : Ev (fun k => flatironlaw02_lives.f k) true := Ev.mono flatironlaw02_lives.mono lives02

def isM (b : UInt8) : Bool := decide (b = 42) || decide (b = 63) || decide (b = 91) || decide (b = 92)
theorem isM_contains (b : UInt8) : ([42, 63, 91, 92] : List UInt8).contains b = isM b := by
  unfold isM
  rw [Bool.eq_iff_iff]
  simp [or_assoc]
theorem indexAny_any (cs : List UInt8) : ∀ l : List UInt8, decide (0 ≤ Lib.indexAny l cs) = l.any (cs.contains ·) := by
  intro l
  induction l with
  | nil => simp [Lib.indexAny]
  | cons b l ih =>
    rw [List.any_cons, Lib.indexAny]
    cases hc : cs.contains b with
    | true => simp
    | false =>
      rw [Bool.false_or, ← ih]
      have hg := Lib.indexAny_ge cs l
      by_cases e : Lib.indexAny l cs = -1
      · simp [e]
      · have h1 : 0 ≤ Lib.indexAny l cs := by omega
        have h2 : (Lib.indexAny l cs == -1) = false := by simpa using e
        simp [h2, h1]
        omega
theorem magic_eq (p : List UInt8) (hp : p.length < 4294967281) : glob_Magic.f (B p) = some (p.any isM) := by
  unfold glob_Magic.f strings_ContainsAny.f strings_IndexAny.f
  rw [if_pos ⟨by rw [B_size]; omega, by decide, by decide⟩, B_data]
  simp only [Option.map_some, Option.bind_some]
  rw [indexAny_any]
  congr 2
  funext b
  exact isM_contains b

theorem parse_plain : ∀ p : List UInt8, p.any isM = false → parse p = p.map (fun b => (⟨3, B [b]⟩ : S133)) := by
  intro p
  induction p with
  | nil => intro _; rw [parse_nil]; rfl
  | cons b r ih =>
    intro h
    rw [List.any_cons, Bool.or_eq_false_iff] at h
    obtain ⟨h1, h2⟩ := h
    have hp : plc b r = (⟨3, B [b]⟩, 0) := by
      unfold isM at h1
      simp only [Bool.or_eq_false_iff, decide_eq_false_iff_not] at h1
      unfold plc
      rw [if_neg h1.1.1.1, if_neg h1.1.1.2, if_neg h1.1.2, if_neg h1.2]
    rw [parse_cons, hp]
    simp only [List.drop_zero, List.map_cons]
    rw [ih h2]
theorem mt_plain : ∀ p s : List UInt8, mtB (p.map (fun b => (⟨3, B [b]⟩ : S133))) s = (p == s) := by
  intro p
  induction p with
  | nil => intro s; rw [List.map_nil, Bool.eq_iff_iff, mt_nil, beq_iff_eq]; exact eq_comm
  | cons b r ih =>
    intro s
    rw [List.map_cons]
    cases s with
    | nil => rw [mt_one_nil _ _ (show ¬ (3 : Int) = 0 by decide)]; rfl
    | cons c t =>
      rw [mt_one _ _ _ _ (show ¬ (3 : Int) = 0 by decide), ih t]
      have : stS ⟨3, B [b]⟩ c = (b == c) := by simp [stS, B_data]
      rw [this]
      rfl

theorem law02_loop (p s : List UInt8) (hp : p.length < 4294967281) (hs : s.length < 4294967281) : ∀ i, i ≤ p.length → ∀ acc : Bool, (acc || (p.drop i).any isM) = p.any isM →
    Ev (fun k => flatironlaw02_GlobMatches.l0 k (B p) (B s) acc (p.length : Int) (i : Int)) true := by
  refine upto_ind ?_ ?_
  · intro acc hacc
    rw [List.drop_length, List.any_nil, Bool.or_false] at hacc
    refine Ev.step (fun k => by rw [flatironlaw02_GlobMatches.l0]) ?_
    refine Ev.neg (by omega) ?_
    refine Ev.bind (match_ev p s hp hs) ?_
    refine Ev.bind (refMatch_ev p s hp hs) ?_
    refine Ev.pos (by simp) ?_
    refine Ev.bind (Ev.of (magic_eq p hp)) ?_
    rw [hacc]
    refine Ev.pos (by simp) ?_
    refine Ev.ite (fun _ => Ev.ret _) (fun h => ?_)
    refine Ev.bind (match_ev p s hp hs) ?_
    refine Ev.eq (Ev.ret _) ?_
    rw [B_toList, B_toList, parse_plain p (by simpa using h), mt_plain]
    simp
  · intro i hi ih acc hacc
    have hd : (p.drop i).any isM = (isM p[i] || (p.drop (i + 1)).any isM) := by rw [drop_get p i hi, List.any_cons]
    rw [← wrap_succ i (by omega)] at ih
    refine Ev.step (fun k => by rw [flatironlaw02_GlobMatches.l0]) ?_
    refine Ev.pos (by omega) ?_
    have yes : isM p[i] = true → Ev (fun k => flatironlaw02_GlobMatches.l0 k (B p) (B s) true (p.length : Int) (wrap64 ((i : Int) + 1))) true := by
      intro h
      refine ih true ?_
      rw [← hacc, hd, h]
      simp
    cases acc with
    | true => exact Ev.pos rfl (ih true (by rw [← hacc]; simp))
    | false =>
      rw [Bool.false_or] at hacc
      refine Ev.neg (by simp) ?_
      refine Ev.pos (by omega) ?_
      refine Ev.pos (by rw [B_size]; omega) ?_
      refine Ev.iff (show (bt (B p) (i : Int) = 42) = (p[i] = 42) from btEq p i 42 hi (by decide)) (fun h => yes (by simp [isM, h])) (fun h42 => ?_)
      refine Ev.iff (show (bt (B p) (i : Int) = 63) = (p[i] = 63) from btEq p i 63 hi (by decide)) (fun h => yes (by simp [isM, h])) (fun h63 => ?_)
      refine Ev.iff (show (bt (B p) (i : Int) = 91) = (p[i] = 91) from btEq p i 91 hi (by decide)) (fun h => yes (by simp [isM, h])) (fun h91 => ?_)
      rw [bt_B p i hi, show ((p[i].toNat : Int) == 92) = decide (p[i] = 92) from beqU p[i] 92 (by decide)]
      refine ih _ ?_
      rw [← hacc, hd]
      simp [isM, h42, h63, h91]

theorem GlobMatches_pure (a0 a1 : ByteArray) (_ : a0.size ≤ 140737488351232) (_ : a1.size ≤ 140737488351232) : ∃ k, flatironlaw02_GlobMatches.f k a0 a1 = some true := by
  refine Ev.get ?_
  obtain ⟨p, rfl, hp⟩ := ex_B a0
  obtain ⟨s, rfl, hs⟩ := ex_B a1
  refine Ev.congr (fun k => by rw [flatironlaw02_GlobMatches.f]) ?_
  refine Ev.bind lives02_ev ?_
  refine Ev.pos rfl ?_
  have big : Ev (fun k => flatironlaw02_GlobMatches.j0 k (B p) (B s) true) true := by
    refine Ev.step (fun k => by rw [flatironlaw02_GlobMatches.j0]) ?_
    exact Ev.pos rfl (Ev.bind lives02_ev (Ev.ret _))
  rw [B_size]
  refine Ev.ite (fun _ => big) (fun h => ?_)
  by_cases h2 : ((B s).size : Int) > 40
  · rw [decide_eq_true h2]; exact big
  · rw [decide_eq_false h2]
    rw [B_size] at h2
    refine Ev.step (fun k => by rw [flatironlaw02_GlobMatches.j0]) ?_
    refine Ev.neg (by simp) ?_
    rw [B_size]
    exact law02_loop p s (by omega) (by omega) 0 (by omega) false (by simp)
end Go.Proofs.YtgpabkdmagifjaaDoor.X
namespace Go.Proofs.YtgpabkdmagifjaaDoor.Pure
theorem GlobMatches (a0 a1 : ByteArray) (h0 : a0.size ≤ 140737488351232) (h1 : a1.size ≤ 140737488351232) : ∃ k, XW02.flatironlaw02_GlobMatches.f k a0 a1 = some true := X.GlobMatches_pure a0 a1 h0 h1
end Go.Proofs.YtgpabkdmagifjaaDoor.Pure
