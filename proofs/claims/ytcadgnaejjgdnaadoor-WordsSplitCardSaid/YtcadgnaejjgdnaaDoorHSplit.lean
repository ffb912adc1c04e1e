/- words.Split: the words of a text: as a plain function, with its contract; of a text of fewer than 4294967281 bytes. -/
import Derived.Maps.AppendAt
import Derived.Test.YtcadgnaejjgdnaaDoorHEach
import Derived.Test.YtcadgnaejjgdnaaDoorHStr
namespace Go.Proofs.YtcadgnaejjgdnaaDoor.X
open Go.RowKit Go.Shelf Go.Proofs.YtcadgnaejjgdnaaDoorW.PrintWords
attribute [local go_sem] Oper.semAt_some

def words_Split.f (a0 : ByteArray) : Option (List ByteArray) := if a0.size < 4294967281 then some ((eachS a0.data.toList).map (·.2)) else none

theorem info_str : (Tryd.prog.info? 9).map (fun i => (i.zero, i.size, i.bytes)) = some (some (.string ⟨#[]⟩), 1, 16) := by kernel_rfl

theorem ownsRow_lower {w : World} {b b' : Nat} {e : TypeId} {size n : Nat} {v : Value} {xs : List Value} (h : w.ownsRow b e size v n xs) (hb : b' ≤ b) : w.ownsRow b' e size v n xs := by
  obtain ⟨h1, h2⟩ := h
  refine ⟨h1, ?_⟩
  rcases h2 with h2 | ⟨g, cap, cur, hv, hg, hr⟩
  · exact .inl h2
  · exact .inr ⟨g, cap, cur, hv, Nat.le_trans hb hg, hr⟩
theorem ownsRow_block {w : World} {b : Nat} {e : TypeId} {size n : Nat} {v : Value} {xs : List Value} {k : Nat} (h : w.ownsRow b e size v n xs) (hk : k < b) : some k ≠ v.ownBlock := by
  rcases h.2 with ⟨rfl, _⟩ | ⟨g, cap, cur, rfl, hg, _⟩
  · intro e; cases e
  · intro e; have := Option.some.inj e; simp at this; omega

set_option maxRecDepth 100000 in
set_option maxHeartbeats 2000000 in
theorem words_Split.calls (a0 : ByteArray) (r : List ByteArray) (w : World) (h : words_Split.f a0 = some r) :
    Calls Tryd.prog 22 #[.string a0] w fun e w' => ∃ v0_ : Value, e = .returned (v0_) ∧ Kd.R Kd.string 9 w' w.heap.size (fun _ => True) v0_ r ∧ Below w.heap.size w w' := by
  unfold words_Split.f at h
  by_cases hsz : a0.size < 4294967281
  case neg => rw [if_neg hsz] at h; exact absurd h (by simp)
  rw [if_pos hsz] at h
  obtain rfl := Option.some.inj h
  clear h
  obtain ⟨l, rfl, hl⟩ := ex_B a0
  rw [B_data]
  have hle := eachS_le l
  rw [B_size] at hsz
  clear hl
  obtain ⟨N, hN⟩ : ∃ N, N = (eachS l).length := ⟨_, rfl⟩
  obtain ⟨i0, hi, hz0, hz1, hz2⟩ := info_parts info_str
  refine (callsIn_wide (n := 9)).1 ?_
  refine callsIn_of_wp_marks Tryd.func22 rfl trivial ?_ rfl
  simp only [Tryd.ntmps22, List.size_toArray, List.length_cons, List.length_nil, Nat.reduceAdd, Nat.reduceSub, Array.replicate_succ, Array.replicate_zero, List.push_toArray, List.append_toArray, List.nil_append, List.cons_append]
  gi_wp2_with (refine ⟨trivial, ?_⟩; gi_at_call 20; refine (each_made _ _ _).mono ?_; rintro e w' ⟨rfl, rfl⟩)
  have bO := Boxed.new w 29 (.slice none 0 0)
  have bN := Boxed.new (w.alloc (.cells #[.slice none 0 0] 29)) 9 (.string (B l))
  rw [World.size_alloc] at bN
  have hB0 : Below w.heap.size w ((w.alloc (.cells #[.slice none 0 0] 29)).alloc (.cells #[.string (B l)] 9)) := ((Below.refl _ w).alloc (Nat.le_refl _) _).alloc (by simp) _
  refine wpIn_rangeFunc_ownG rfl (by omega) (gf := 46) (lb := #[.pointer (some ⟨w.heap.size + 1, 0, none⟩)]) rfl trivial (enters_of Tryd.func46 (by kernel_rfl) rfl)
    (each_stops (9 - 1) (by omega) (w.heap.size + 1) l (by omega) _ (by simp) bN.cell) Kc.t (Kc.b (by simp)) (Below.refl _ _) (fun _ => rfl)
    (fun (pre : List (Nat × ByteArray)) W => (∃ v, Boxed W w.heap.size 29 v ∧ W.ownsRow (w.heap.size + 2) 9 1 v pre.length (pre.map fun x => Value.string x.2) ∧ True) ∧ Boxed W (w.heap.size + 1) 9 (.string (B l)) ∧ Below w.heap.size w W)
    (fun _ _ _ => False)
    (OwnFrom.and (Own.from (holdsRow_own (w.heap.size + 2) w.heap.size 29 9 1 (fun pre : List (Nat × ByteArray) => pre.length) (fun pre => pre.map fun x : Nat × ByteArray => Value.string x.2) (fun _ _ => True)) _) (OwnFrom.and (Own.from (boxed_own (w.heap.size + 1) 9 (fun _ => .string (B l))) _) (ownFrom_below (Nat.le_refl _) (by simp; omega))))
    (fun _ _ _ _ _ hs _ _ => hs)
    ⟨⟨_, bO.alloc _, World.ownsRow_nil _ _ _ _, trivial⟩, bN, hB0⟩
    (fun x => { tmps := #[.string (B l), undef, .slice none 0 0, .pointer (some ⟨w.heap.size, 0, none⟩), undef, .string x.2, .string (B l), .func (.func 46) #[] #[.pointer (some ⟨w.heap.size + 1, 0, none⟩)], .int .i64 (x.1 : Int), .string x.2, undef, undef, undef, undef, undef], defers := [] }) ?assign ?body ?done ?stop
  case assign =>
    intro l x W K hK
    gi_wp2
    exact hK
  case body =>
    rintro lo pre x W ⟨⟨v, hv, hrow, _⟩, hbs, hB⟩ hlt
    have hc := hv.cell
    have hlt' : pre.length + 1 ≤ 4294967282 := by omega
    gi_wp2_with (gi_at_builtin; refine wpListIn_append_own _ rfl _ _ 29 rfl (w.heap.size + 2) 9 i0 (.string ⟨#[]⟩) 1 16 Tryd.underlying29 hi hz0 hz1 hz2 rfl (by decide) _ _ _ rfl (hrow.alloc _) ⟨W.heap.size, 0, none⟩ 1 1 [.string x.2] rfl rfl (cell_one_new _ _ _) (by simp [Value.oneCell']) (by unfold maxLen; omega) (by omega) (by have := hbs.lt; simp; omega) ?_; intro v' w1 hown' hgrow _; obtain ⟨g', cap', rfl⟩ := ownsRow_succ hown'; obtain ⟨hv1, hv2, hr2, hk2, hb2⟩ := hv.appended (by decide) (ownsRow_lower hrow (by omega)) hB.size (Nat.le_refl _) (ownsRow_lower hown' (by omega)) hgrow; have hc1 := hv1.cell; have hf1 := hv1.frozen; have hs1 := (hbs.alloc _).kept hgrow (ownsRow_block hrow (by omega)))
    have hs2 := hs1.other (B' := w.heap.size) (by omega) (.slice (some ⟨g', 0, none⟩) (pre.length + 1) cap')
    refine ⟨hk2.from _, hs2.cell.trans hbs.cell.symm, ⟨_, hv2, ?_, trivial⟩, hs2, hB.trans hb2⟩
    have hr3 := hown'.kept (grownBy_setCell' w1 w.heap.size (.slice (some ⟨g', 0, none⟩) (pre.length + 1) cap')) (.inr (ownsRow_block hown' (by omega)).symm)
    simpa using hr3
  case done =>
    rintro D ys W hD rfl ⟨⟨v, hv, hrow, _⟩, hbs, hB⟩ hK
    have hc := hv.cell
    gi_wp2
    refine ⟨by simp, .inl ⟨_, _, rfl, run_takeDeferred hK, ?_⟩⟩
    refine ⟨_, results_tmp rfl _ _ _, v, rfl, ownsRow_R ?_, hB.trans (belowK_b (w := w) (Nat.le_refl _) W D _ _ (by simp at hD; omega) hK rfl rfl)⟩
    rw [List.length_map, List.map_map]
    exact ownsRow_lower (ownsRow_putObj hrow _ hK rfl) (show w.heap.size ≤ w.heap.size + 2 by omega)
  case stop =>
    rintro D c pre W _ _ h _
    exact h.elim
end Go.Proofs.YtcadgnaejjgdnaaDoor.X
