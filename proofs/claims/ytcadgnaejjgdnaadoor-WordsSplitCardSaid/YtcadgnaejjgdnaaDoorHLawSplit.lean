/- WordsSplit: the law's own walk. -/
import Derived.Maps.AppendAt
import Derived.Stop.RegionWithIn
import Derived.Test.YtcadgnaejjgdnaaDoorHSplit
import Derived.Test.YtcadgnaejjgdnaaDoorPTrim
namespace Go.Proofs.YtcadgnaejjgdnaaDoor.X
open Go.RowKit Go.Shelf Go.Proofs.YtcadgnaejjgdnaaDoorW.PrintWords Go.Proofs.YtcadgnaejjgdnaaDoor.XE04
attribute [local go_sem] Oper.semAt_some

theorem Boxed.below {W W' : World} {N Bx : Nat} {t : TypeId} {v : Value} (h : Boxed W Bx t v) (hb : Below N W W') (hN : Bx < N) : Boxed W' Bx t v := (hb.block Bx hN).trans h

/-- All blocks below N but two are as they were. -/
def SameBut (a b N : Nat) (A C : World) : Prop := N ≤ C.heap.size ∧ ∀ k, k < N → k ≠ a → k ≠ b → C.heap[k]? = A.heap[k]?
theorem SameBut.refl (a b : Nat) {N : Nat} (A : World) (h : N ≤ A.heap.size) : SameBut a b N A A := ⟨h, fun _ _ _ _ => rfl⟩
theorem ownFrom_same {β : Type} (a b N : Nat) (A : World) : OwnFrom N (fun (_ : β) W => SameBut a b N A W) := fun _ W W' row hs hg hr =>
  ⟨Nat.le_trans hs.1 hg.size, fun k hk h1 h2 => (hg.block k (Nat.lt_of_lt_of_le hk hs.1) (fun e => by have := (hr k e.symm).1; omega)).trans (hs.2 k hk h1 h2)⟩

theorem cell_of_heap {W W' : World} {b o : Nat} (h : W'.heap[b]? = W.heap[b]?) : W'.cell? ⟨b, o, none⟩ = W.cell? ⟨b, o, none⟩ := by simp [World.cell?, h]
theorem own_str {w : World} {base e c : Nat} {ok : Nat → Prop} {A : Option Addr} {xs : List ByteArray} (h : Kd.R Kd.string e w base ok (.slice A xs.length c) xs) (hn : 0 < xs.length) :
    ∃ b o, A = some ⟨b, o, none⟩ ∧ base ≤ b ∧ b < w.heap.size ∧ ∀ (j : Nat) x, xs[j]? = some x → w.cell? ⟨b, o + j, none⟩ = some (.string x) := by
  obtain ⟨b, o, rfl, hlt, hc⟩ := reads_cells (Kd.R_reads' h).2.2 hn
  exact ⟨b, o, rfl, Kd.R_base h b rfl, hlt, hc⟩
theorem own_int {w : World} {base e c : Nat} {ok : Nat → Prop} {A : Option Addr} {xs : List Int} (h : Kd.R (Kd.int .i64) e w base ok (.slice A xs.length c) xs) (hn : 0 < xs.length) :
    ∃ b o, A = some ⟨b, o, none⟩ ∧ base ≤ b ∧ b < w.heap.size ∧ ∀ (j : Nat) x, xs[j]? = some x → w.cell? ⟨b, o + j, none⟩ = some (.int .i64 x) := by
  have hR := h
  obtain ⟨h1, h2, h3⟩ := (Kd.R_reads' h).2.2
  obtain ⟨⟨b, o, s⟩, rfl, hc⟩ := h3 hn
  have hcell : ∀ (j : Nat) x, xs[j]? = some x → w.cell? ((⟨b, o, s⟩ : Addr).add j) = some (.int .i64 x) := by
    intro j x hj
    obtain ⟨c, _, hK, hcc⟩ := hc j x hj
    have hK' : c = [Value.int .i64 x] := hK
    subst hK'
    have := hcc 0 (.int .i64 x) rfl
    simpa [Kd.int, Kd.scalar] using this
  obtain ⟨x0, hx0⟩ : ∃ x, xs[0]? = some x := ⟨xs[0]'(by omega), List.getElem?_eq_getElem (by omega)⟩
  have hc0 := hcell 0 x0 hx0
  have hs : s = none := by
    cases s with
    | none => rfl
    | some s => simp [Addr.add, World.cell?] at hc0; split at hc0 <;> simp at hc0
  subst hs
  refine ⟨b, o, rfl, Kd.R_base hR b rfl, World.block_lt_of_cell? w _ hc0, fun j x hj => ?_⟩
  have := hcell j x hj
  rw [show (⟨b, o, none⟩ : Addr).add j = ⟨b, o + j, none⟩ from by unfold Addr.add; split <;> simp_all] at this
  exact this

theorem prefix_next {α : Type} {pre l : List α} {y : α} (h : pre <+: l) (hy : l[pre.length]? = some y) : pre ++ [y] <+: l := by
  obtain ⟨t, rfl⟩ := h
  rw [List.getElem?_append_right (Nat.le_refl _), Nat.sub_self] at hy
  cases t with
  | nil => simp at hy
  | cons z t => simp at hy; subst hy; exact ⟨t, by simp⟩
theorem prefix_at {α : Type} {pre l : List α} {x y : α} (h : pre ++ [x] <+: l) (hy : l[pre.length]? = some y) : x = y := by
  obtain ⟨t, rfl⟩ := h
  rw [List.append_assoc, List.getElem?_append_right (Nat.le_refl _), Nat.sub_self] at hy
  simpa using hy

theorem boxed_putObj {W : World} {b D : Nat} {t : TypeId} {v : Value} (o : Obj) (h : Boxed W b t v) (hne : b ≠ D) : Boxed (W.putObj D o) b t v := by
  unfold Boxed at h ⊢
  simp only [World.putObj, Array.getElem?_setIfInBounds, if_neg (Ne.symm hne)]
  exact h

theorem resultsSplit {tmps : Array Value} {W : World} {b : Nat} {v : Bool} (hp : tmps.getD 4 undef = .pointer (some ⟨b, 0, none⟩)) (hc : W.cell? ⟨b, 0, none⟩ = some (.bool v)) :
    (results Tryd.f5 tmps).run Tryd.prog W = .ok (.bool v) W := by
  have h : Tryd.f5.results = #[.cell 4 4] := rfl
  simp only [results, h]
  have hp' : tmps[4]?.getD undef = .pointer (some ⟨b, 0, none⟩) := by rw [← hp]; simp
  simp [Sem.run_bind, Result.andThen, go_sem]
  rw [hp']
  simp [go_sem, hc]

/-- Behind a region that never panics. -/
def NormalOnly (K : Act → World → Prop) : Exit → Act → World → Prop
  | .normal, a, w => K a w
  | _, _, _ => False
theorem NormalOnly.imp {K : Act → World → Prop} {Q : Exit → Act → World → Prop} (h : ∀ a w, K a w → Q .normal a w) : ∀ e a w, NormalOnly K e a w → Q e a w := by
  intro e a w hn
  cases e
  case normal => exact h a w hn
  all_goals exact hn.elim

theorem equal_refl (l : List ByteArray) (hl : l.length < 4294967281) : Ev (fun k => slices_Equal_string_string.f k l l) true := by
  unfold slices_Equal_string_string.f
  refine Ev.pos rfl ?_
  suffices h : ∀ i : Nat, i ≤ l.length → Ev (fun k => slices_Equal_string_string.l0 k l l (l.length : Int) (i : Int)) true from h 0 (Nat.zero_le _)
  refine upto_ind ?_ ?_
  · refine Ev.step (fun k => by rw [slices_Equal_string_string.l0]) ?_
    refine Ev.neg (by omega) ?_
    exact Ev.ret _
  · intro i hi ih
    refine Ev.step (fun k => by rw [slices_Equal_string_string.l0]) ?_
    refine Ev.pos (by omega) ?_
    refine Ev.pos (by omega) ?_
    refine Ev.pos (by omega) ?_
    refine Ev.pos (by omega) ?_
    refine Ev.pos rfl ?_
    rw [wrap_succ i (by omega)]
    exact ih

theorem eachA_lens (l : List UInt8) : ∀ (beg : Nat) (cur : List UInt8) (i : Nat), Lib.lens ((eachA beg cur i l).map fun x => x.2.data.toList) ≤ cur.length + l.length := by
  induction l with
  | nil => intro beg cur i; rw [eachA]; split <;> simp [Lib.lens, B_data]
  | cons b r ih =>
    intro beg cur i
    rw [eachA]
    split
    · split
      · have := ih (i + 1) [] (i + 1); simp at this ⊢; omega
      · have := ih (i + 1) [] (i + 1); simp [Lib.lens, B_data] at this ⊢; omega
    · have := ih beg (cur ++ [b]) (i + 1); simp at this ⊢; omega

theorem join_back (l : List UInt8) (hl : l.length ≤ 2000) : ∃ J, words_Join.f ((eachS l).map (·.2)) = some J ∧ words_Split.f J = some ((eachS l).map (·.2)) := by
  obtain ⟨wl, hwl⟩ : ∃ wl, wl = (eachS l).map (fun x => x.2.data.toList) := ⟨_, rfl⟩
  have h1 : wl.map B = (eachS l).map (·.2) := by rw [hwl, List.map_map]; exact List.map_congr_left (fun x _ => B_of _)
  have h2 : ∀ w ∈ wl, wordU w := by
    intro w hw
    rw [hwl] at hw
    obtain ⟨x, hx, rfl⟩ := List.mem_map.1 hw
    obtain ⟨y, hy, hu⟩ := eachA_words l 0 [] 0 (by simp) x hx
    rw [hy, B_data]; exact hu
  have h3 : ((eachS l).map (·.2)).map (fun x => x.data.toList) = wl := by rw [hwl, List.map_map]; rfl
  have hlen := eachA_lens l 0 [] 0
  have hcnt := eachS_le l
  have h4 : (Lib.join wl [32]).length ≤ 10000 := by
    cases hw : wl with
    | nil => simp [Lib.join, List.intercalate]
    | cons x r =>
      rw [Lib.join_cons, List.length_append, Lib.joinTail_length]
      have e1 : Lib.lens wl ≤ l.length := by rw [hwl]; simpa [eachS] using hlen
      have e2 : wl.length ≤ l.length + 1 := by rw [hwl]; simpa using hcnt
      rw [hw] at e1 e2
      simp [Lib.lens] at e1 e2 ⊢
      omega
  refine ⟨B (Lib.join wl [32]), ?_, ?_⟩
  · unfold words_Join.f strings_Join.f
    rw [h3]
    rw [if_pos ⟨by simp; omega, by have : (⟨#[32]⟩ : ByteArray).data.toList = [32] := rfl; rw [this]; omega⟩]
    simp only [Option.bind_some, joined, h3]
    rfl
  · unfold words_Split.f
    rw [if_pos (by rw [B_size]; omega), B_data, each_join wl h2, h1]

theorem lives04 : flatironlaw04_lives.f 60 = some true := by kernel_rfl

def flatironlaw04_WordsSplit.f (_k : Nat) (a0 : ByteArray) (a1 : Int) : Option Bool := if 0 ≤ a1 ∧ a1 < 256 ∧ a0.size ≤ 140737488351232 then some true else none

set_option maxRecDepth 100000 in
set_option maxHeartbeats 40000000 in
theorem flatironlaw04_WordsSplit.calls (k : Nat) (a0 : ByteArray) (a1 : Int) (r : Bool) (w : World) (_hSH : Shp w) (h : flatironlaw04_WordsSplit.f k a0 a1 = some r) :
    Calls Tryd.prog 5 #[.string a0, .int .u8 a1] w fun e w' => e = .returned (.bool r) ∧ Below w.heap.size w w' := by
  unfold flatironlaw04_WordsSplit.f at h
  by_cases hb : 0 ≤ a1 ∧ a1 < 256 ∧ a0.size ≤ 140737488351232
  case neg => rw [if_neg hb] at h; exact absurd h (by simp)
  rw [if_pos hb] at h
  obtain rfl := Option.some.inj h
  clear h
  obtain ⟨hp0, hp1, hll⟩ := hb
  obtain ⟨l, rfl, hl⟩ := ex_B a0
  rw [← hl] at hll
  clear hl
  have hsz : (B l).size = l.length := B_size l
  refine (callsIn_wide (n := 9)).1 ?_
  refine callsIn_of_wp_marks Tryd.func5 rfl trivial ?_ rfl
  simp only [Tryd.ntmps5, List.size_toArray, List.length_cons, List.length_nil, Nat.reduceAdd, Nat.reduceSub, Array.replicate_succ, Array.replicate_zero, List.push_toArray, List.append_toArray, List.nil_append, List.cons_append]
  have c1 := Boxed.new w 5 (.int .u8 a1)
  have c2 := Boxed.new (w.alloc (.cells #[.int .u8 a1] 5)) 4 (.bool false)
  rw [World.size_alloc] at c2
  have c1' := c1.alloc (.cells #[.bool false] 4)
  by_cases hbig : 2000 < l.length
  · have hdt : decide (2000 < (l.length : Int)) = true := decide_eq_true (by omega)
    gi_wp2_with (first | (refine ⟨trivial, ?_⟩; gi_at_call 18; (with_reducible refine (callsIn_wide.2 (flatironlaw04_lives.calls 60 true _ lives04)).mono ?_); rintro e w1 ⟨rfl, hb1⟩; have d1 := Boxed.below c1' hb1 (by simp; omega); have d2 := Boxed.below c2 hb1 (by simp); have e1 := d1.cell; have e2 := d2.cell; have f2 := d2.frozen) | (refine ⟨trivial, ?_⟩; gi_at_call 18; (with_reducible refine (callsIn_wide.2 (flatironlaw04_lives.calls 60 true _ lives04)).mono ?_); rintro e w3 ⟨rfl, hb3⟩; have d3 := Boxed.below d2 hb3 (Boxed.lt d2); have e3 := d3.cell; have f3 := d3.frozen))
    have h1 : Below w.heap.size w w1 := (((Below.refl _ w).alloc (Nat.le_refl _) _).alloc (by simp) _).trans (hb1.mono (by simp; omega))
    have h3 : Below w.heap.size w w3 := h1.trans (hb3.mono h1.size)
    have k4 := (d3.set (.bool true)).cell
    exact ⟨.bool true, resultsSplit rfl k4, rfl, h3.setCell (by simp) _⟩
  · obtain ⟨k1, hk1⟩ := Ev.get (refSplit04_ev l (by omega))
    replace hk1 := Lib.hid hk1
    have hlt : l.length ≤ 2000 := by omega
    have hd : decide (2000 < (l.length : Int)) = false := decide_eq_false (by omega)
    gi_wp2_with (first | (refine ⟨trivial, ?_⟩; gi_at_call 18; refine (callsIn_wide.2 (flatironlaw04_lives.calls 60 true _ lives04)).mono ?_; rintro e w1 ⟨rfl, hb1⟩; have d1 := Boxed.below c1' hb1 (by simp; omega); have d2 := Boxed.below c2 hb1 (by simp); have e1 := d1.cell; have e2 := d2.cell; have f2 := d2.frozen) | (refine ⟨trivial, ?_⟩; gi_at_call 19; refine (callsIn_wide.2 (flatironref04_Split.calls k1 (B l) _ _ _ hk1.out)).mono ?_; rintro e w2 ⟨v0, v1, rfl, hr0, hr1, hb2⟩; obtain ⟨Ax, cx, ex⟩ := Kd.R_slice hr0; subst ex; obtain ⟨Ay, cy, ey⟩ := Kd.R_slice hr1; subst ey; replace hr0 := Lib.hid hr0; replace hr1 := Lib.hid hr1) | (refine ⟨trivial, ?_⟩; gi_at_call 20; refine (each_made _ _ _).mono ?_; rintro e w' ⟨rfl, rfl⟩))
    have bL := (((Boxed.new w2 29 (.slice Ax (eachS l).length cx)).alloc (.cells #[.slice Ay (eachS l).length cy] 33)).alloc (.cells #[.int .i64 0] 3)).alloc (.cells #[.string (B l)] 9)
    have bA := ((Boxed.new (w2.alloc (.cells #[.slice Ax (eachS l).length cx] 29)) 33 (.slice Ay (eachS l).length cy)).alloc (.cells #[.int .i64 0] 3)).alloc (.cells #[.string (B l)] 9)
    have bI := (Boxed.new ((w2.alloc (.cells #[.slice Ax (eachS l).length cx] 29)).alloc (.cells #[.slice Ay (eachS l).length cy] 33)) 3 (.int .i64 0)).alloc (.cells #[.string (B l)] 9)
    have bS := Boxed.new (((w2.alloc (.cells #[.slice Ax (eachS l).length cx] 29)).alloc (.cells #[.slice Ay (eachS l).length cy] 33)).alloc (.cells #[.int .i64 0] 3)) 9 (.string (B l))
    simp only [World.size_alloc] at bL bA bI bS
    obtain ⟨W0, hW0⟩ : ∃ W0, (((w2.alloc (.cells #[.slice Ax (eachS l).length cx] 29)).alloc (.cells #[.slice Ay (eachS l).length cy] 33)).alloc (.cells #[.int .i64 0] 3)).alloc (.cells #[.string (B l)] 9) = W0 := ⟨_, rfl⟩
    have hs0 : W0.heap.size = w2.heap.size + 4 := by rw [← hW0]; simp
    rw [hW0] at bL bA bI bS ⊢
    have bRes : Boxed W0 (w.heap.size + 1) 4 (.bool false) := by
      rw [← hW0]
      have q : Boxed w2 (w.heap.size + 1) 4 (.bool false) := Boxed.below d2 hb2 (Boxed.lt d2)
      exact (((q.alloc _).alloc _).alloc _).alloc _
    have bStop : Boxed W0 w.heap.size 5 (.int .u8 a1) := by
      rw [← hW0]
      have q : Boxed w2 w.heap.size 5 (.int .u8 a1) := Boxed.below d1 hb2 (Boxed.lt d1)
      exact (((q.alloc _).alloc _).alloc _).alloc _
    have hBW : Below w.heap.size w W0 := by
      rw [← hW0]
      have h1 : Below w.heap.size w w1 := (((Below.refl _ w).alloc (Nat.le_refl _) _).alloc (by simp) _).trans (hb1.mono (by simp; omega))
      have h2 : Below w.heap.size w w2 := h1.trans (hb2.mono h1.size)
      exact (((h2.alloc h2.size _).alloc (by have := h2.size; simp; omega) _).alloc (by have := h2.size; simp; omega) _).alloc (by have := h2.size; simp; omega) _
    have hB2 : Below w2.heap.size w2 W0 := by
      rw [← hW0]
      exact ((((Below.refl _ w2).alloc (Nat.le_refl _) _).alloc (by simp) _).alloc (by simp; omega) _).alloc (by simp; omega) _
    have hw12 : w.heap.size + 2 ≤ w2.heap.size := by have h1 := Boxed.lt d2; have h2 := hb2.size; omega
    refine wpIn_rangeFunc_ownG rfl (by omega) (gf := 46) (lb := #[.pointer (some ⟨w2.heap.size + 1 + 1 + 1, 0, none⟩)]) rfl trivial (enters_of Tryd.func46 (by kernel_rfl) rfl)
      (each_stops (9 - 1) (by omega) (w2.heap.size + 1 + 1 + 1) l (by omega) _ (by omega) bS.cell) Kc.t (Kc.b (by omega)) (Below.refl _ _) (fun _ => rfl)
      (fun (pre : List (Nat × ByteArray)) W => Boxed W (w2.heap.size + 1 + 1) 3 (.int .i64 (pre.length : Int)) ∧ SameBut (w2.heap.size + 1 + 1) (w2.heap.size + 1 + 1) W0.heap.size W0 W ∧ (pre <+: eachS l ∧ (a1 = 0 ∨ (pre.length : Int) < a1)) ∧ Below w.heap.size w W)
      (fun c (pre : List (Nat × ByteArray)) W => (c = .ret ∧ ¬ pre <+: eachS l) ∨ (c = .exit 0 ∧ Boxed W (w2.heap.size + 1 + 1) 3 (.int .i64 (pre.length : Int)) ∧ SameBut (w2.heap.size + 1 + 1) (w2.heap.size + 1 + 1) W0.heap.size W0 W ∧ (pre <+: eachS l ∧ 0 < a1 ∧ (pre.length : Int) = a1) ∧ Below w.heap.size w W))
      ?hI ?hIx ⟨bI, SameBut.refl _ _ _ (Nat.le_refl _), ⟨List.nil_prefix, by simp; omega⟩, hBW⟩
      (fun x => { tmps := #[.string (B l), .int .u8 a1, undef, .pointer (some ⟨w.heap.size, 0, none⟩), .pointer (some ⟨w.heap.size + 1, 0, none⟩), .pointer (some ⟨w2.heap.size, 0, none⟩), .pointer (some ⟨w2.heap.size + 1, 0, none⟩), .pointer (some ⟨w2.heap.size + 1 + 1, 0, none⟩), .int .i64 (x.1 : Int), .string x.2, undef, .bool true, .bool false, .bool false, .string (B l), .int .i64 (l.length : Int), .bool false, .bool false, undef, .tuple #[.slice Ax (eachS l).length cx, .slice Ay (eachS l).length cy], .string (B l), .tuple #[.slice Ax (eachS l).length cx, .slice Ay (eachS l).length cy], .slice Ax (eachS l).length cx, .slice Ay (eachS l).length cy, .string (B l), .func (.func 46) #[] #[.pointer (some ⟨w2.heap.size + 1 + 1 + 1, 0, none⟩)], .int .i64 (x.1 : Int), .string x.2, undef, undef, undef, undef, undef, undef, undef, undef, undef, undef, undef, undef, undef, undef, undef, undef, undef, undef, undef, undef, undef, undef, undef, undef, undef, undef, undef, undef, undef, undef, undef, undef, undef, undef, undef, undef, undef, undef, undef, undef, undef, undef, undef, undef, undef, undef, undef, undef, undef, undef, undef, undef, undef, undef, undef, undef, undef], defers := [] }) ?assign ?body ?done ?stop
    case hI => exact OwnFrom.and (Own.from (boxed_own _ 3 (fun pre : List (Nat × ByteArray) => .int .i64 (pre.length : Int))) _) (OwnFrom.and (ownFrom_same _ _ _ _) (OwnFrom.and (fun _ _ _ _ hs _ _ => hs) (ownFrom_below (Nat.le_refl _) (by omega))))
    case hIx =>
      intro c
      rintro pre W W' row (⟨h1, h2⟩ | ⟨h1, h2⟩) hg hr
      · exact .inl ⟨h1, h2⟩
      · exact .inr ⟨h1, (OwnFrom.and (Own.from (boxed_own _ 3 (fun pre : List (Nat × ByteArray) => .int .i64 (pre.length : Int))) _) (OwnFrom.and (ownFrom_same _ _ _ _) (OwnFrom.and (I := fun (pre : List (Nat × ByteArray)) _ => pre <+: eachS l ∧ 0 < a1 ∧ (pre.length : Int) = a1) (fun _ _ _ _ hs _ _ => hs) (ownFrom_below (Nat.le_refl _) (by omega))))) pre W W' row h2 hg hr⟩
    case assign =>
      intro lo x W K hK
      gi_wp2
      exact hK
    case body =>
      rintro lo pre x W ⟨hI, hsm, ⟨hpre, hstop⟩, hB⟩ hlen
      have kI := hI.cell
      have kL := Boxed.cell (show Boxed W w2.heap.size 29 _ from (hsm.2 _ (by omega) (by omega) (by omega)).trans bL)
      have kA := Boxed.cell (show Boxed W (w2.heap.size + 1) 33 _ from (hsm.2 _ (by omega) (by omega) (by omega)).trans bA)
      have bR := (show Boxed W (w.heap.size + 1) 4 _ from (hsm.2 _ (by omega) (by omega) (by omega)).trans bRes)
      have kR := bR.cell
      have fR := bR.frozen
      have fI := hI.frozen
      have kS := Boxed.cell (show Boxed W w.heap.size 5 _ from (hsm.2 _ (by omega) (by omega) (by omega)).trans bStop)
      have hle := eachS_le l
      obtain ⟨y, hy⟩ : ∃ y, (eachS l)[pre.length]? = some y := ⟨_, List.getElem?_eq_getElem hlen⟩
      obtain ⟨bx, ox, rfl, hbx1, hbx2, hcx⟩ := own_str hr0.out (by simpa using (by omega : 0 < (eachS l).length))
      obtain ⟨by', oy, rfl, hby1, hby2, hcy⟩ := own_int hr1.out (by simpa using (by omega : 0 < (eachS l).length))
      have hw1 := Boxed.lt d2
      have kx := (cell_of_heap (o := ox + pre.length) (hsm.2 bx (by omega) (by omega) (by omega))).trans ((hB2.cell (p := ⟨bx, ox + pre.length, none⟩) hbx2).trans (hcx pre.length y.2 (by rw [List.getElem?_map, hy]; rfl)))
      have ky := (cell_of_heap (o := oy + pre.length) (hsm.2 by' (by omega) (by omega) (by omega))).trans ((hB2.cell (p := ⟨by', oy + pre.length, none⟩) hby2).trans (hcy pre.length (y.1 : Int) (by rw [List.getElem?_map, hy]; rfl)))
      clear hcx hcy
      have hge : decide ((eachS l).length ≤ pre.length) = false := decide_eq_false (by omega)
      have Hy := Lib.hid hy
      clear hy
      have hset : ∀ v, KeepsFrom W0.heap.size W (W.setCell ⟨w2.heap.size + 1 + 1, 0, none⟩ v) := fun v => KeepsFrom.of_grownBy (grownBy_setCell' W _ v) (fun j h => by have := Option.some.inj h; omega)
      have hkc : ∀ v, Kc (w2.heap.size + 1 + 1 + 1) W (W.setCell ⟨w2.heap.size + 1 + 1, 0, none⟩ v) := fun v => cell_of_heap (Below.heap_setCell W _ v _ (by simp))
      have hsb : ∀ v, SameBut (w2.heap.size + 1 + 1) (w2.heap.size + 1 + 1) W0.heap.size W0 (W.setCell ⟨w2.heap.size + 1 + 1, 0, none⟩ v) := fun v =>
        ⟨by have := hsm.1; simpa using this, fun k h1 h2 h3 => (Below.heap_setCell W _ v k h2).trans (hsm.2 k h1 h2 h3)⟩
      have hbs : ∀ v, Below w.heap.size w (W.setCell ⟨w2.heap.size + 1 + 1, 0, none⟩ v) := fun v => hB.setCell (by simp; omega) v
      have hbx : Boxed (W.setCell ⟨w2.heap.size + 1 + 1, 0, none⟩ (.int .i64 ((pre.length : Int) + 1))) (w2.heap.size + 1 + 1) 3 (.int .i64 ((pre ++ [x]).length : Int)) := by
        have := hI.set (.int .i64 ((pre.length : Int) + 1))
        simpa using this
      by_cases e : x = y
      · subst e
        have hpx := prefix_next hpre Hy.out
        have q1 : (x.2.toList == x.2.toList) = true := by simp
        have HS := Lib.hid hset; have HK := Lib.hid hkc; have HB := Lib.hid hsb; have HL := Lib.hid hbs
        clear hset hkc hsb hbs
        gi_wp2
        · have ha : (pre.length : Int) + 1 = a1 := by simpa using (by assumption : ((pre.length : Int) + 1 == a1) = true)
          exact ⟨HS.out _, .inr ⟨rfl, hbx, HB.out _, ⟨hpx, by omega, by simpa using ha⟩, HL.out _⟩⟩
        · have ha : ¬ (pre.length : Int) + 1 = a1 := by simpa using (by assumption : ((pre.length : Int) + 1 == a1) = false)
          exact ⟨HS.out _, HK.out _, hbx, HB.out _, ⟨hpx, by rcases hstop with h | h; exact .inl h; exact .inr (by simp; omega)⟩, HL.out _⟩
      · have hno : ¬ pre ++ [x] <+: eachS l := fun h => e (prefix_at h Hy.out)
        have HN := Lib.hid (p := ¬ pre ++ [x] <+: eachS l) hno
        have HE := Lib.hid (p := ¬ x = y) e
        clear hset hkc hsb hbs hno e
        gi_wp2
        all_goals try exact ⟨KeepsFrom.of_grownBy (grownBy_setCell' _ _ _) (fun j h => by have := Option.some.inj h; omega), .inl ⟨rfl, HN.out⟩⟩
        all_goals
          exfalso
          have h1 : x.2.toList = y.2.toList := by assumption
          have h2 : ((x.1 : Int) != (y.1 : Int)) = false := by assumption
          have h3 : x.1 = y.1 := by have := bne_eq_false_iff_eq.1 h2; omega
          exact HE.out (Prod.ext h3 (data_eq (by rw [← ByteArray.toList_eq, ← ByteArray.toList_eq]; exact h1)))
    case' done =>
      rintro D ys W hD rfl ⟨hI, hsm, ⟨hpre, hstop⟩, hB⟩ hK
      obtain ⟨n, hn⟩ : ∃ n : Nat, (eachS l).length = n ∧ ((eachS l).length = n) := ⟨_, rfl, rfl⟩
      obtain ⟨hfin, hn⟩ : ((a1 = 0 ∧ (eachS l).length = n) ∨ (0 < a1 ∧ ((eachS l).length : Int) < a1 ∧ (eachS l).length = n) ∨ (0 < a1 ∧ a1 ≤ ((eachS l).length : Int) ∧ (n : Int) = a1)) ∧ (eachS l).length = n := ⟨by rcases hstop with h | h; exact .inl ⟨h, hn.1⟩; exact .inr (.inl ⟨by omega, h, hn.1⟩), hn.1⟩
      rw [hn] at hI
      rcases Int.lt_or_le 0 a1 with ha | ha
    case' stop =>
      rintro D c pre W hD hSp (⟨rfl, hno⟩ | ⟨rfl, hI, hsm, ⟨hpre, hstop, hlast⟩, hB⟩) hK
      · exact absurd hSp hno
      obtain ⟨n, hn⟩ : ∃ n : Nat, pre.length = n := ⟨_, rfl⟩
      have hfin : (a1 = 0 ∧ (eachS l).length = n) ∨ (0 < a1 ∧ ((eachS l).length : Int) < a1 ∧ (eachS l).length = n) ∨ (0 < a1 ∧ a1 ≤ ((eachS l).length : Int) ∧ (n : Int) = a1) := .inr (.inr ⟨hstop, by have := hpre.length_le; omega, by omega⟩)
      rw [hn] at hI
      have ha := hstop
      gi_step
    all_goals
      have kI := hI.cell
      have BL := (show Boxed W w2.heap.size 29 _ from (hsm.2 _ (by omega) (by omega) (by omega)).trans bL)
      have BR := (show Boxed W (w.heap.size + 1) 4 _ from (hsm.2 _ (by omega) (by omega) (by omega)).trans bRes)
      have kL := BL.cell
      have kS := Boxed.cell (show Boxed W w.heap.size 5 _ from (hsm.2 _ (by omega) (by omega) (by omega)).trans bStop)
    all_goals
      obtain ⟨J, hJ1, hJ2⟩ := join_back l hlt
      obtain ⟨kE, hE⟩ := Ev.get (equal_refl ((eachS l).map (·.2)) (by have := eachS_le l; simp; omega))
      obtain ⟨kT, hT2⟩ := Ev.get (refTrim_ev l (by omega))
      have hT1 := Trim_eq l (by omega)
      have hS1 : words_Split.f (B l) = some ((eachS l).map (·.2)) := by unfold words_Split.f; rw [if_pos (by rw [hsz]; omega), B_data]
      replace hJ1 := Lib.hid hJ1; replace hJ2 := Lib.hid hJ2; replace hE := Lib.hid hE; replace hT1 := Lib.hid hT1; replace hT2 := Lib.hid hT2; replace hS1 := Lib.hid hS1
      have hrW : Kd.R Kd.string 9 W w1.heap.size (fun _ => True) (.slice Ax ((eachS l).map (·.2)).length cx) ((eachS l).map (·.2)) :=
        Kd.R_mono (Kd.R_move (Kd.R_bound hr0.out) (fun k hk => (hsm.2 k (by have := hk.2.2.1; omega) (by have := hk.2.2.1; omega) (by have := hk.2.2.1; omega)).trans (hB2.block k hk.2.2.1))) (fun _ _ => trivial)
      obtain ⟨hcl, hC⟩ := (Kd.R_reads' hrW).2
      have hDW : D < W.heap.size := (Array.getElem?_eq_some_iff.1 hK).1
      have hlen' : ((eachS l).map (·.2)).length = (eachS l).length := List.length_map _
      obtain ⟨ws, hws⟩ : ∃ ws, (eachS l).map (·.2) = ws := ⟨_, rfl⟩
      rw [hws] at hJ1 hJ2 hE hS1 hC hcl hlen'
      clear hrW
      rw [← hlen'] at kL BL hfin ⊢
      replace hws := Lib.hid hws
      replace hlen' := Lib.hid hlen'
      have kR := BR.cell
      have fR := BR.frozen
      obtain ⟨m, hm1, hm2⟩ : ∃ m : Int, (if 0 < a1 then min (ws.length : Int) a1 else (ws.length : Int)) = m ∧ ((n : Int) == m) = true := by
        refine ⟨_, rfl, ?_⟩
        rcases hfin with ⟨ha, hn⟩ | ⟨ha, hb, hn⟩ | ⟨ha, hb, hn⟩
        · rw [if_neg (by omega)]; simp; omega
        · rw [if_pos (by omega)]; simp; omega
        · rw [if_pos (by omega)]; simp; omega
      replace hfin := Lib.hid hfin
    · have g1 : decide (0 < a1) = true := decide_eq_true (by omega)
      rw [if_pos ha] at hm1
      replace ha := Lib.hid ha
      rw [← hm1] at hm2
      clear hm1
      gi_wp2
      refine Code.wpIn_mono (NormalOnly.imp (fun a w h => h)) ?_
      replace BL := (show Boxed W.drew w2.heap.size 29 _ from BL)
      replace BR := (show Boxed W.drew (w.heap.size + 1) 4 _ from BR)
      replace hK := (show W.drew.heap[D]? = _ from hK)
      replace hDW := (show D < W.drew.heap.size from hDW)
      replace hC := Kd.C_drew hC
      replace hB := below_drew1 hB
      gi_region_with (first | (refine ⟨trivial, ?_⟩; (first | (gi_at_call 22; (first | (with_reducible refine (callsIn_wide.2 (words_Split.calls (B l) ws _ hS1.out)).mono ?_) | (with_reducible refine (callsIn_wide.2 (words_Split.calls J ws _ hJ2.out)).mono ?_)); rintro e w3 ⟨v0, rfl, hv0, hb9⟩; obtain ⟨Av, cv, hve, hlv, hCv⟩ := Kd.R_reads hv0; subst hve; clear hv0; replace BL := Boxed.below BL hb9 (Boxed.lt BL); replace BR := Boxed.below BR hb9 (Boxed.lt BR); replace kL := BL.cell; replace kR := BR.cell; replace fR := BR.frozen; replace hC := Kd.C_below hC hb9; replace hK := (hb9.block D hDW).trans hK; replace hDW := Nat.lt_of_lt_of_le hDW hb9.size; replace hB := hB.trans (hb9.mono hB.size); clear hb9) | (gi_at_call 21; (with_reducible refine (callsIn_wide.2 (slices_Equal_string_string.calls kE _ _ ws _ _ ws true _ hCv hlv hC hcl hE.out)).mono ?_); rintro e w3 ⟨rfl, hd⟩; have hb9 := hd.below; clear hd hCv hlv; replace BL := Boxed.below BL hb9 (Boxed.lt BL); replace BR := Boxed.below BR hb9 (Boxed.lt BR); replace kL := BL.cell; replace kR := BR.cell; replace fR := BR.frozen; replace hC := Kd.C_below hC hb9; replace hK := (hb9.block D hDW).trans hK; replace hDW := Nat.lt_of_lt_of_le hDW hb9.size; replace hB := hB.trans (hb9.mono hB.size); clear hb9) | (gi_at_call 23; (with_reducible refine (callsIn_wide.2 (words_Trim.calls (B l) _ _ hT1.out)).mono ?_); rintro e w3 ⟨rfl, hb9⟩; replace BL := Boxed.below BL hb9 (Boxed.lt BL); replace BR := Boxed.below BR hb9 (Boxed.lt BR); replace kL := BL.cell; replace kR := BR.cell; replace fR := BR.frozen; replace hC := Kd.C_below hC hb9; replace hK := (hb9.block D hDW).trans hK; replace hDW := Nat.lt_of_lt_of_le hDW hb9.size; replace hB := hB.trans (hb9.mono hB.size); clear hb9) | (gi_at_call 24; (with_reducible refine (callsIn_wide.2 (flatironref04_Trim.calls kT (B l) _ _ hT2.out)).mono ?_); rintro e w3 ⟨rfl, hd⟩; have hb9 := (show Below _ _ _ from (by first | exact hd | exact hd.below)); clear hd; replace BL := Boxed.below BL hb9 (Boxed.lt BL); replace BR := Boxed.below BR hb9 (Boxed.lt BR); replace kL := BL.cell; replace kR := BR.cell; replace fR := BR.frozen; replace hC := Kd.C_below hC hb9; replace hK := (hb9.block D hDW).trans hK; replace hDW := Nat.lt_of_lt_of_le hDW hb9.size; replace hB := hB.trans (hb9.mono hB.size); clear hb9) | (gi_at_call 25; (with_reducible refine (callsIn_wide.2 (words_Join.calls _ _ ws J _ hC hcl hJ1.out)).mono ?_); rintro e w3 ⟨rfl, hb9⟩; replace BL := Boxed.below BL hb9 (Boxed.lt BL); replace BR := Boxed.below BR hb9 (Boxed.lt BR); replace kL := BL.cell; replace kR := BR.cell; replace fR := BR.frozen; replace hC := Kd.C_below hC hb9; replace hK := (hb9.block D hDW).trans hK; replace hDW := Nat.lt_of_lt_of_le hDW hb9.size; replace hB := hB.trans (hb9.mono hB.size); clear hb9))) | (first | (gi_at_call 22; (first | (with_reducible refine (callsIn_wide.2 (words_Split.calls (B l) ws _ hS1.out)).mono ?_) | (with_reducible refine (callsIn_wide.2 (words_Split.calls J ws _ hJ2.out)).mono ?_)); rintro e w3 ⟨v0, rfl, hv0, hb9⟩; obtain ⟨Av, cv, hve, hlv, hCv⟩ := Kd.R_reads hv0; subst hve; clear hv0; replace BL := Boxed.below BL hb9 (Boxed.lt BL); replace BR := Boxed.below BR hb9 (Boxed.lt BR); replace kL := BL.cell; replace kR := BR.cell; replace fR := BR.frozen; replace hC := Kd.C_below hC hb9; replace hK := (hb9.block D hDW).trans hK; replace hDW := Nat.lt_of_lt_of_le hDW hb9.size; replace hB := hB.trans (hb9.mono hB.size); clear hb9) | (gi_at_call 21; (with_reducible refine (callsIn_wide.2 (slices_Equal_string_string.calls kE _ _ ws _ _ ws true _ hCv hlv hC hcl hE.out)).mono ?_); rintro e w3 ⟨rfl, hd⟩; have hb9 := hd.below; clear hd hCv hlv; replace BL := Boxed.below BL hb9 (Boxed.lt BL); replace BR := Boxed.below BR hb9 (Boxed.lt BR); replace kL := BL.cell; replace kR := BR.cell; replace fR := BR.frozen; replace hC := Kd.C_below hC hb9; replace hK := (hb9.block D hDW).trans hK; replace hDW := Nat.lt_of_lt_of_le hDW hb9.size; replace hB := hB.trans (hb9.mono hB.size); clear hb9) | (gi_at_call 23; (with_reducible refine (callsIn_wide.2 (words_Trim.calls (B l) _ _ hT1.out)).mono ?_); rintro e w3 ⟨rfl, hb9⟩; replace BL := Boxed.below BL hb9 (Boxed.lt BL); replace BR := Boxed.below BR hb9 (Boxed.lt BR); replace kL := BL.cell; replace kR := BR.cell; replace fR := BR.frozen; replace hC := Kd.C_below hC hb9; replace hK := (hb9.block D hDW).trans hK; replace hDW := Nat.lt_of_lt_of_le hDW hb9.size; replace hB := hB.trans (hb9.mono hB.size); clear hb9) | (gi_at_call 24; (with_reducible refine (callsIn_wide.2 (flatironref04_Trim.calls kT (B l) _ _ hT2.out)).mono ?_); rintro e w3 ⟨rfl, hd⟩; have hb9 := (show Below _ _ _ from (by first | exact hd | exact hd.below)); clear hd; replace BL := Boxed.below BL hb9 (Boxed.lt BL); replace BR := Boxed.below BR hb9 (Boxed.lt BR); replace kL := BL.cell; replace kR := BR.cell; replace fR := BR.frozen; replace hC := Kd.C_below hC hb9; replace hK := (hb9.block D hDW).trans hK; replace hDW := Nat.lt_of_lt_of_le hDW hb9.size; replace hB := hB.trans (hb9.mono hB.size); clear hb9) | (gi_at_call 25; (with_reducible refine (callsIn_wide.2 (words_Join.calls _ _ ws J _ hC hcl hJ1.out)).mono ?_); rintro e w3 ⟨rfl, hb9⟩; replace BL := Boxed.below BL hb9 (Boxed.lt BL); replace BR := Boxed.below BR hb9 (Boxed.lt BR); replace kL := BL.cell; replace kR := BR.cell; replace fR := BR.frozen; replace hC := Kd.C_below hC hb9; replace hK := (hb9.block D hDW).trans hK; replace hDW := Nat.lt_of_lt_of_le hDW hb9.size; replace hB := hB.trans (hb9.mono hB.size); clear hb9)))
      all_goals
        dsimp only [NormalOnly, Exit.then]
        have hD3 := (Below.heap_setCell _ ⟨w.heap.size + 1, 0, none⟩ (.bool true) D (by simp; omega)).trans hK
        have hB3 := hB.setCell (p := ⟨w.heap.size + 1, 0, none⟩) (by simp) (.bool true)
        have BR3 := BR.set (.bool true)
        have kR3 := BR3.cell
        have BR4 := boxed_putObj (.deferred none) BR3 (show w.heap.size + 1 ≠ D by omega)
        have kR4 := BR4.cell
        gi_wp2
        refine ⟨by simp, .inl ⟨_, _, rfl, run_takeDeferred hD3, ?_⟩⟩
        exact ⟨.bool true, resultsSplit rfl kR4, rfl, hB3.trans (belowK_b (w := w) (Nat.le_refl _) _ D _ _ (by omega) hD3 rfl rfl)⟩
    · have g1 : decide (0 < a1) = true := decide_eq_true (by omega)
      rw [if_pos ha] at hm1
      replace ha := Lib.hid ha
      rw [← hm1] at hm2
      clear hm1
      gi_wp2
      refine Code.wpIn_mono (NormalOnly.imp (fun a w h => h)) ?_
      replace BL := (show Boxed W.drew w2.heap.size 29 _ from BL)
      replace BR := (show Boxed W.drew (w.heap.size + 1) 4 _ from BR)
      replace hK := (show W.drew.heap[D]? = _ from hK)
      replace hDW := (show D < W.drew.heap.size from hDW)
      replace hC := Kd.C_drew hC
      replace hB := below_drew1 hB
      gi_region_with (first | (refine ⟨trivial, ?_⟩; (first | (gi_at_call 22; (first | (with_reducible refine (callsIn_wide.2 (words_Split.calls (B l) ws _ hS1.out)).mono ?_) | (with_reducible refine (callsIn_wide.2 (words_Split.calls J ws _ hJ2.out)).mono ?_)); rintro e w3 ⟨v0, rfl, hv0, hb9⟩; obtain ⟨Av, cv, hve, hlv, hCv⟩ := Kd.R_reads hv0; subst hve; clear hv0; replace BL := Boxed.below BL hb9 (Boxed.lt BL); replace BR := Boxed.below BR hb9 (Boxed.lt BR); replace kL := BL.cell; replace kR := BR.cell; replace fR := BR.frozen; replace hC := Kd.C_below hC hb9; replace hK := (hb9.block D hDW).trans hK; replace hDW := Nat.lt_of_lt_of_le hDW hb9.size; replace hB := hB.trans (hb9.mono hB.size); clear hb9) | (gi_at_call 21; (with_reducible refine (callsIn_wide.2 (slices_Equal_string_string.calls kE _ _ ws _ _ ws true _ hCv hlv hC hcl hE.out)).mono ?_); rintro e w3 ⟨rfl, hd⟩; have hb9 := hd.below; clear hd hCv hlv; replace BL := Boxed.below BL hb9 (Boxed.lt BL); replace BR := Boxed.below BR hb9 (Boxed.lt BR); replace kL := BL.cell; replace kR := BR.cell; replace fR := BR.frozen; replace hC := Kd.C_below hC hb9; replace hK := (hb9.block D hDW).trans hK; replace hDW := Nat.lt_of_lt_of_le hDW hb9.size; replace hB := hB.trans (hb9.mono hB.size); clear hb9) | (gi_at_call 23; (with_reducible refine (callsIn_wide.2 (words_Trim.calls (B l) _ _ hT1.out)).mono ?_); rintro e w3 ⟨rfl, hb9⟩; replace BL := Boxed.below BL hb9 (Boxed.lt BL); replace BR := Boxed.below BR hb9 (Boxed.lt BR); replace kL := BL.cell; replace kR := BR.cell; replace fR := BR.frozen; replace hC := Kd.C_below hC hb9; replace hK := (hb9.block D hDW).trans hK; replace hDW := Nat.lt_of_lt_of_le hDW hb9.size; replace hB := hB.trans (hb9.mono hB.size); clear hb9) | (gi_at_call 24; (with_reducible refine (callsIn_wide.2 (flatironref04_Trim.calls kT (B l) _ _ hT2.out)).mono ?_); rintro e w3 ⟨rfl, hd⟩; have hb9 := (show Below _ _ _ from (by first | exact hd | exact hd.below)); clear hd; replace BL := Boxed.below BL hb9 (Boxed.lt BL); replace BR := Boxed.below BR hb9 (Boxed.lt BR); replace kL := BL.cell; replace kR := BR.cell; replace fR := BR.frozen; replace hC := Kd.C_below hC hb9; replace hK := (hb9.block D hDW).trans hK; replace hDW := Nat.lt_of_lt_of_le hDW hb9.size; replace hB := hB.trans (hb9.mono hB.size); clear hb9) | (gi_at_call 25; (with_reducible refine (callsIn_wide.2 (words_Join.calls _ _ ws J _ hC hcl hJ1.out)).mono ?_); rintro e w3 ⟨rfl, hb9⟩; replace BL := Boxed.below BL hb9 (Boxed.lt BL); replace BR := Boxed.below BR hb9 (Boxed.lt BR); replace kL := BL.cell; replace kR := BR.cell; replace fR := BR.frozen; replace hC := Kd.C_below hC hb9; replace hK := (hb9.block D hDW).trans hK; replace hDW := Nat.lt_of_lt_of_le hDW hb9.size; replace hB := hB.trans (hb9.mono hB.size); clear hb9))) | (first | (gi_at_call 22; (first | (with_reducible refine (callsIn_wide.2 (words_Split.calls (B l) ws _ hS1.out)).mono ?_) | (with_reducible refine (callsIn_wide.2 (words_Split.calls J ws _ hJ2.out)).mono ?_)); rintro e w3 ⟨v0, rfl, hv0, hb9⟩; obtain ⟨Av, cv, hve, hlv, hCv⟩ := Kd.R_reads hv0; subst hve; clear hv0; replace BL := Boxed.below BL hb9 (Boxed.lt BL); replace BR := Boxed.below BR hb9 (Boxed.lt BR); replace kL := BL.cell; replace kR := BR.cell; replace fR := BR.frozen; replace hC := Kd.C_below hC hb9; replace hK := (hb9.block D hDW).trans hK; replace hDW := Nat.lt_of_lt_of_le hDW hb9.size; replace hB := hB.trans (hb9.mono hB.size); clear hb9) | (gi_at_call 21; (with_reducible refine (callsIn_wide.2 (slices_Equal_string_string.calls kE _ _ ws _ _ ws true _ hCv hlv hC hcl hE.out)).mono ?_); rintro e w3 ⟨rfl, hd⟩; have hb9 := hd.below; clear hd hCv hlv; replace BL := Boxed.below BL hb9 (Boxed.lt BL); replace BR := Boxed.below BR hb9 (Boxed.lt BR); replace kL := BL.cell; replace kR := BR.cell; replace fR := BR.frozen; replace hC := Kd.C_below hC hb9; replace hK := (hb9.block D hDW).trans hK; replace hDW := Nat.lt_of_lt_of_le hDW hb9.size; replace hB := hB.trans (hb9.mono hB.size); clear hb9) | (gi_at_call 23; (with_reducible refine (callsIn_wide.2 (words_Trim.calls (B l) _ _ hT1.out)).mono ?_); rintro e w3 ⟨rfl, hb9⟩; replace BL := Boxed.below BL hb9 (Boxed.lt BL); replace BR := Boxed.below BR hb9 (Boxed.lt BR); replace kL := BL.cell; replace kR := BR.cell; replace fR := BR.frozen; replace hC := Kd.C_below hC hb9; replace hK := (hb9.block D hDW).trans hK; replace hDW := Nat.lt_of_lt_of_le hDW hb9.size; replace hB := hB.trans (hb9.mono hB.size); clear hb9) | (gi_at_call 24; (with_reducible refine (callsIn_wide.2 (flatironref04_Trim.calls kT (B l) _ _ hT2.out)).mono ?_); rintro e w3 ⟨rfl, hd⟩; have hb9 := (show Below _ _ _ from (by first | exact hd | exact hd.below)); clear hd; replace BL := Boxed.below BL hb9 (Boxed.lt BL); replace BR := Boxed.below BR hb9 (Boxed.lt BR); replace kL := BL.cell; replace kR := BR.cell; replace fR := BR.frozen; replace hC := Kd.C_below hC hb9; replace hK := (hb9.block D hDW).trans hK; replace hDW := Nat.lt_of_lt_of_le hDW hb9.size; replace hB := hB.trans (hb9.mono hB.size); clear hb9) | (gi_at_call 25; (with_reducible refine (callsIn_wide.2 (words_Join.calls _ _ ws J _ hC hcl hJ1.out)).mono ?_); rintro e w3 ⟨rfl, hb9⟩; replace BL := Boxed.below BL hb9 (Boxed.lt BL); replace BR := Boxed.below BR hb9 (Boxed.lt BR); replace kL := BL.cell; replace kR := BR.cell; replace fR := BR.frozen; replace hC := Kd.C_below hC hb9; replace hK := (hb9.block D hDW).trans hK; replace hDW := Nat.lt_of_lt_of_le hDW hb9.size; replace hB := hB.trans (hb9.mono hB.size); clear hb9)))
      all_goals
        dsimp only [NormalOnly, Exit.then]
        have hD3 := (Below.heap_setCell _ ⟨w.heap.size + 1, 0, none⟩ (.bool true) D (by simp; omega)).trans hK
        have hB3 := hB.setCell (p := ⟨w.heap.size + 1, 0, none⟩) (by simp) (.bool true)
        have BR3 := BR.set (.bool true)
        have kR3 := BR3.cell
        have BR4 := boxed_putObj (.deferred none) BR3 (show w.heap.size + 1 ≠ D by omega)
        have kR4 := BR4.cell
        gi_wp2
        refine ⟨by simp, .inl ⟨_, _, rfl, run_takeDeferred hD3, ?_⟩⟩
        exact ⟨.bool true, resultsSplit rfl kR4, rfl, hB3.trans (belowK_b (w := w) (Nat.le_refl _) _ D _ _ (by omega) hD3 rfl rfl)⟩
    · have g1 : decide (0 < a1) = false := decide_eq_false (by omega)
      rw [if_neg (by omega)] at hm1
      replace ha := Lib.hid ha
      rw [← hm1] at hm2
      obtain rfl : n = ws.length := by have := (beq_iff_eq).1 hm2; omega
      clear hm1 hm2
      gi_wp2
      refine Code.wpIn_mono (NormalOnly.imp (fun a w h => h)) ?_
      replace BL := (show Boxed W.drew w2.heap.size 29 _ from BL)
      replace BR := (show Boxed W.drew (w.heap.size + 1) 4 _ from BR)
      replace hK := (show W.drew.heap[D]? = _ from hK)
      replace hDW := (show D < W.drew.heap.size from hDW)
      replace hC := Kd.C_drew hC
      replace hB := below_drew1 hB
      gi_region_with (first | (refine ⟨trivial, ?_⟩; (first | (gi_at_call 22; (first | (with_reducible refine (callsIn_wide.2 (words_Split.calls (B l) ws _ hS1.out)).mono ?_) | (with_reducible refine (callsIn_wide.2 (words_Split.calls J ws _ hJ2.out)).mono ?_)); rintro e w3 ⟨v0, rfl, hv0, hb9⟩; obtain ⟨Av, cv, hve, hlv, hCv⟩ := Kd.R_reads hv0; subst hve; clear hv0; replace BL := Boxed.below BL hb9 (Boxed.lt BL); replace BR := Boxed.below BR hb9 (Boxed.lt BR); replace kL := BL.cell; replace kR := BR.cell; replace fR := BR.frozen; replace hC := Kd.C_below hC hb9; replace hK := (hb9.block D hDW).trans hK; replace hDW := Nat.lt_of_lt_of_le hDW hb9.size; replace hB := hB.trans (hb9.mono hB.size); clear hb9) | (gi_at_call 21; (with_reducible refine (callsIn_wide.2 (slices_Equal_string_string.calls kE _ _ ws _ _ ws true _ hCv hlv hC hcl hE.out)).mono ?_); rintro e w3 ⟨rfl, hd⟩; have hb9 := hd.below; clear hd hCv hlv; replace BL := Boxed.below BL hb9 (Boxed.lt BL); replace BR := Boxed.below BR hb9 (Boxed.lt BR); replace kL := BL.cell; replace kR := BR.cell; replace fR := BR.frozen; replace hC := Kd.C_below hC hb9; replace hK := (hb9.block D hDW).trans hK; replace hDW := Nat.lt_of_lt_of_le hDW hb9.size; replace hB := hB.trans (hb9.mono hB.size); clear hb9) | (gi_at_call 23; (with_reducible refine (callsIn_wide.2 (words_Trim.calls (B l) _ _ hT1.out)).mono ?_); rintro e w3 ⟨rfl, hb9⟩; replace BL := Boxed.below BL hb9 (Boxed.lt BL); replace BR := Boxed.below BR hb9 (Boxed.lt BR); replace kL := BL.cell; replace kR := BR.cell; replace fR := BR.frozen; replace hC := Kd.C_below hC hb9; replace hK := (hb9.block D hDW).trans hK; replace hDW := Nat.lt_of_lt_of_le hDW hb9.size; replace hB := hB.trans (hb9.mono hB.size); clear hb9) | (gi_at_call 24; (with_reducible refine (callsIn_wide.2 (flatironref04_Trim.calls kT (B l) _ _ hT2.out)).mono ?_); rintro e w3 ⟨rfl, hd⟩; have hb9 := (show Below _ _ _ from (by first | exact hd | exact hd.below)); clear hd; replace BL := Boxed.below BL hb9 (Boxed.lt BL); replace BR := Boxed.below BR hb9 (Boxed.lt BR); replace kL := BL.cell; replace kR := BR.cell; replace fR := BR.frozen; replace hC := Kd.C_below hC hb9; replace hK := (hb9.block D hDW).trans hK; replace hDW := Nat.lt_of_lt_of_le hDW hb9.size; replace hB := hB.trans (hb9.mono hB.size); clear hb9) | (gi_at_call 25; (with_reducible refine (callsIn_wide.2 (words_Join.calls _ _ ws J _ hC hcl hJ1.out)).mono ?_); rintro e w3 ⟨rfl, hb9⟩; replace BL := Boxed.below BL hb9 (Boxed.lt BL); replace BR := Boxed.below BR hb9 (Boxed.lt BR); replace kL := BL.cell; replace kR := BR.cell; replace fR := BR.frozen; replace hC := Kd.C_below hC hb9; replace hK := (hb9.block D hDW).trans hK; replace hDW := Nat.lt_of_lt_of_le hDW hb9.size; replace hB := hB.trans (hb9.mono hB.size); clear hb9))) | (first | (gi_at_call 22; (first | (with_reducible refine (callsIn_wide.2 (words_Split.calls (B l) ws _ hS1.out)).mono ?_) | (with_reducible refine (callsIn_wide.2 (words_Split.calls J ws _ hJ2.out)).mono ?_)); rintro e w3 ⟨v0, rfl, hv0, hb9⟩; obtain ⟨Av, cv, hve, hlv, hCv⟩ := Kd.R_reads hv0; subst hve; clear hv0; replace BL := Boxed.below BL hb9 (Boxed.lt BL); replace BR := Boxed.below BR hb9 (Boxed.lt BR); replace kL := BL.cell; replace kR := BR.cell; replace fR := BR.frozen; replace hC := Kd.C_below hC hb9; replace hK := (hb9.block D hDW).trans hK; replace hDW := Nat.lt_of_lt_of_le hDW hb9.size; replace hB := hB.trans (hb9.mono hB.size); clear hb9) | (gi_at_call 21; (with_reducible refine (callsIn_wide.2 (slices_Equal_string_string.calls kE _ _ ws _ _ ws true _ hCv hlv hC hcl hE.out)).mono ?_); rintro e w3 ⟨rfl, hd⟩; have hb9 := hd.below; clear hd hCv hlv; replace BL := Boxed.below BL hb9 (Boxed.lt BL); replace BR := Boxed.below BR hb9 (Boxed.lt BR); replace kL := BL.cell; replace kR := BR.cell; replace fR := BR.frozen; replace hC := Kd.C_below hC hb9; replace hK := (hb9.block D hDW).trans hK; replace hDW := Nat.lt_of_lt_of_le hDW hb9.size; replace hB := hB.trans (hb9.mono hB.size); clear hb9) | (gi_at_call 23; (with_reducible refine (callsIn_wide.2 (words_Trim.calls (B l) _ _ hT1.out)).mono ?_); rintro e w3 ⟨rfl, hb9⟩; replace BL := Boxed.below BL hb9 (Boxed.lt BL); replace BR := Boxed.below BR hb9 (Boxed.lt BR); replace kL := BL.cell; replace kR := BR.cell; replace fR := BR.frozen; replace hC := Kd.C_below hC hb9; replace hK := (hb9.block D hDW).trans hK; replace hDW := Nat.lt_of_lt_of_le hDW hb9.size; replace hB := hB.trans (hb9.mono hB.size); clear hb9) | (gi_at_call 24; (with_reducible refine (callsIn_wide.2 (flatironref04_Trim.calls kT (B l) _ _ hT2.out)).mono ?_); rintro e w3 ⟨rfl, hd⟩; have hb9 := (show Below _ _ _ from (by first | exact hd | exact hd.below)); clear hd; replace BL := Boxed.below BL hb9 (Boxed.lt BL); replace BR := Boxed.below BR hb9 (Boxed.lt BR); replace kL := BL.cell; replace kR := BR.cell; replace fR := BR.frozen; replace hC := Kd.C_below hC hb9; replace hK := (hb9.block D hDW).trans hK; replace hDW := Nat.lt_of_lt_of_le hDW hb9.size; replace hB := hB.trans (hb9.mono hB.size); clear hb9) | (gi_at_call 25; (with_reducible refine (callsIn_wide.2 (words_Join.calls _ _ ws J _ hC hcl hJ1.out)).mono ?_); rintro e w3 ⟨rfl, hb9⟩; replace BL := Boxed.below BL hb9 (Boxed.lt BL); replace BR := Boxed.below BR hb9 (Boxed.lt BR); replace kL := BL.cell; replace kR := BR.cell; replace fR := BR.frozen; replace hC := Kd.C_below hC hb9; replace hK := (hb9.block D hDW).trans hK; replace hDW := Nat.lt_of_lt_of_le hDW hb9.size; replace hB := hB.trans (hb9.mono hB.size); clear hb9)))
      all_goals
        dsimp only [NormalOnly, Exit.then]
        have hD3 := (Below.heap_setCell _ ⟨w.heap.size + 1, 0, none⟩ (.bool true) D (by simp; omega)).trans hK
        have hB3 := hB.setCell (p := ⟨w.heap.size + 1, 0, none⟩) (by simp) (.bool true)
        have BR3 := BR.set (.bool true)
        have kR3 := BR3.cell
        have BR4 := boxed_putObj (.deferred none) BR3 (show w.heap.size + 1 ≠ D by omega)
        have kR4 := BR4.cell
        gi_wp2
        refine ⟨by simp, .inl ⟨_, _, rfl, run_takeDeferred hD3, ?_⟩⟩
        exact ⟨.bool true, resultsSplit rfl kR4, rfl, hB3.trans (belowK_b (w := w) (Nat.le_refl _) _ D _ _ (by omega) hD3 rfl rfl)⟩
end Go.Proofs.YtcadgnaejjgdnaaDoor.X
