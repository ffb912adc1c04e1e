/- Operations that look at no world answer so: all of them. -/
import Derived.Test.YtmpheeanjjfddaaSOk1
namespace Go.Proofs.Ytmpheeanjjfddaa.SM
open Go Go.RowKit
set_option linter.unusedVariables false
set_option linter.unusedSimpArgs false
variable {P : Program} {E : Env} {tm : Tm} {a : Act} {o : Oper} {v : V}

theorem intE_ok {v : V} {K : IntKind → Int → Prop} {cv : Value} (h : intE v K) (hv : VR E v cv) : ∃ k n, cv = .int k n ∧ v = .int k n ∧ K k n := by
  cases v <;> simp only [intE] at h
  simp only [VR] at hv
  exact ⟨_, _, hv, rfl, h⟩
theorem strE_ok {v : V} {K : List UInt8 → Prop} {cv : Value} (h : strE v K) (hv : VR E v cv) : ∃ s, cv = .string (B s) ∧ v = .str s ∧ K s := by
  cases v <;> simp only [strE] at h
  simp only [VR] at hv
  exact ⟨_, hv, rfl, h⟩
theorem boolE_ok {v : V} {K : Bool → Prop} {cv : Value} (h : boolE v K) (hv : VR E v cv) : ∃ b, cv = .bool b ∧ v = .bool b ∧ K b := by
  cases v <;> simp only [boolE] at h
  simp only [VR] at hv
  exact ⟨_, hv, rfl, h⟩
theorem aggE_ok {v : V} {K : List V → Prop} {cv : Value} (h : aggE v K) (hv : VR E v cv) : ∃ cs l, cv = .agg cs ∧ v = .agg l ∧ VRs E l cs.toList ∧ K l := by
  cases v <;> simp only [aggE] at h
  simp only [VR] at hv
  obtain ⟨cs, h1, h2⟩ := hv
  exact ⟨cs, _, h1, rfl, h2, h⟩
theorem VRi {k : IntKind} {n : Int} : VR E (.int k n) (.int k n) := by simp only [VR]
theorem VRb {b : Bool} : VR E (.bool b) (.bool b) := by simp only [VR]
theorem VRt {s : List UInt8} : VR E (.str s) (.string (B s)) := by simp only [VR]
theorem elemE_ok {x : V} {K : List V → Prop} {cx : Value} (h : elemE x K) (hx : VR E x cx) : ∃ cs, K cs ∧ VRs E cs cx.cells.toList := by
  unfold elemE at h
  split at h
  · simp only [VR] at hx; obtain ⟨cs, rfl, hc⟩ := hx; exact ⟨_, h, by simpa [Value.cells] using hc⟩
  · exact h.elim
  · exact h.elim
  · rename_i h1 h2 h3
    refine ⟨_, h, ?_⟩
    have : oneV x = true := by cases x <;> first | rfl | exact absurd rfl (h1 _) | exact absurd rfl h2 | exact absurd rfl (h3 _)
    rw [(cells1 this hx).1]; exact VRs_cons hx VRs_nil
/-- What an operation on two values comes to. -/
def Bin2 (P : Program) (E : Env) (op : BinOp) (t : TypeId) (x y : Operand) (cx cy : Value) (v : V) : Prop :=
  ∃ cv, VR E v cv ∧ ∀ w, (eqGuard op t x y cx cy).run P w = .ok () w ∧ (binOp op t cx cy).run P w = .ok cv w
theorem guard_int (op : BinOp) (t : TypeId) (x y : Operand) (k j : IntKind) (m n : Int) (w : World) : (eqGuard op t x y (.int k m) (.int j n)).run P w = .ok () w := by unfold eqGuard; cases op <;> simp
theorem guard_str (op : BinOp) (t : TypeId) (x y : Operand) (s r : ByteArray) (w : World) : (eqGuard op t x y (.string s) (.string r)).run P w = .ok () w := by unfold eqGuard; cases op <;> simp
theorem guard_bool (op : BinOp) (t : TypeId) (x y : Operand) (s r : Bool) (w : World) : (eqGuard op t x y (.bool s) (.bool r)).run P w = .ok () w := by unfold eqGuard; cases op <;> simp
theorem beqI (a b : Int) : (a == b) = decide (a = b) := by rw [Bool.eq_iff_iff]; simp
theorem bneI (a b : Int) : (a != b) = !decide (a = b) := by rw [bne, beqI]
theorem intOp_ok {op : BinOp} {k : IntKind} {m n : Int} {K : V → Prop} (h : intOp op k m n K) (t : TypeId) (x y : Operand) : ∃ v, K v ∧ Bin2 P E op t x y (.int k m) (.int k n) v := by
  cases op <;> simp only [intOp] at h
  case quo =>
    obtain ⟨h0, h⟩ := h
    exact ⟨_, h, _, VRi, fun w => ⟨guard_int _ _ _ _ _ _ _ _ _, by simp [binOp, Op.intDiv, h0]⟩⟩
  case rem =>
    obtain ⟨h0, h⟩ := h
    exact ⟨_, h, _, VRi, fun w => ⟨guard_int _ _ _ _ _ _ _ _ _, by simp [binOp, Op.intDiv, h0]⟩⟩
  all_goals first
    | exact ⟨_, h, _, VRi, fun w => ⟨guard_int _ _ _ _ _ _ _ _ _, by simp [binOp, Op.intArith, Op.intBits]⟩⟩
    | exact ⟨_, h, _, VRb, fun w => ⟨guard_int _ _ _ _ _ _ _ _ _, by simp [binOp, Op.intCmp, beqI, bneI]⟩⟩
    | exact h.elim
theorem shiftOp_ok {op : BinOp} {k j : IntKind} {m n : Int} {K : V → Prop} (h : shiftOp op k m n K) (t : TypeId) (x y : Operand) : ∃ v, K v ∧ Bin2 P E op t x y (.int k m) (.int j n) v := by
  cases op <;> simp only [shiftOp] at h
  all_goals
    obtain ⟨h0, h⟩ := h
    have h1 : ¬ n < 0 := by omega
    exact ⟨_, h, _, VRi, fun w => ⟨guard_int _ _ _ _ _ _ _ _ _, by simp [binOp, Op.shift, h1]⟩⟩
theorem beqL (a b : List UInt8) : (a == b) = decide (a = b) := by rw [Bool.eq_iff_iff]; simp
theorem strOp_ok {op : BinOp} {s r : List UInt8} {K : V → Prop} (h : strOp op s r K) (t : TypeId) (x y : Operand) : ∃ v, K v ∧ Bin2 P E op t x y (.string (B s)) (.string (B r)) v := by
  cases op <;> simp only [strOp] at h
  case add =>
    obtain ⟨h0, h⟩ := h
    refine ⟨_, h, _, VRt, fun w => ⟨guard_str _ _ _ _ _ _ _, ?_⟩⟩
    have h1 : ¬ ((((B s).size + (B r).size : Nat) : Int) > IntKind.i64.max) := by
      rw [B_size, B_size]
      have : IntKind.i64.max = 9223372036854775807 := by decide
      omega
    simp only [binOp, Op.stringOp, if_neg h1, B_append, Sem.run_pure]
  case eql => exact ⟨_, h, _, VRb, fun w => ⟨guard_str _ _ _ _ _ _ _, by simp [binOp, Op.stringOp, B_toList, beqL]⟩⟩
  case neq => exact ⟨_, h, _, VRb, fun w => ⟨guard_str _ _ _ _ _ _ _, by simp [binOp, Op.stringOp, B_toList, beqL]⟩⟩
  case lss => exact ⟨_, h, _, VRb, fun w => ⟨guard_str _ _ _ _ _ _ _, by simp [binOp, Op.stringOp, B_toList, less_eq]⟩⟩
  case geq => exact ⟨_, h, _, VRb, fun w => ⟨guard_str _ _ _ _ _ _ _, by simp [binOp, Op.stringOp, B_toList, less_eq]; rw [Bool.eq_iff_iff]; simp⟩⟩
  case leq =>
    refine ⟨_, h, _, VRb, fun w => ⟨guard_str _ _ _ _ _ _ _, ?_⟩⟩
    have e : (decide (s < r) || decide (s = r)) = decide (s ≤ r) := by
      rw [Bool.eq_iff_iff]; simp only [Bool.or_eq_true, decide_eq_true_eq]
      constructor
      · rintro (h | rfl)
        · exact List.le_of_lt h
        · exact List.le_refl _
      · intro h
        by_cases hs : s = r
        · exact .inr hs
        · exact .inl (lt_of_not (List.not_lt.2 h) (Ne.symm hs))
    simp only [binOp, Op.stringOp, B_toList, less_eq, beqL, e, Sem.run_pure]
  case gtr =>
    refine ⟨_, h, _, VRb, fun w => ⟨guard_str _ _ _ _ _ _ _, ?_⟩⟩
    have e : (!(decide (s < r) || decide (s = r))) = decide (r < s) := by
      rw [Bool.eq_iff_iff]; simp only [Bool.not_eq_true', Bool.or_eq_false_iff, decide_eq_false_iff_not, decide_eq_true_eq]
      constructor
      · rintro ⟨h1, h2⟩; exact lt_of_not h1 h2
      · intro h
        exact ⟨fun h2 => List.lt_irrefl _ (List.lt_trans h h2), fun he => by subst he; exact List.lt_irrefl _ h⟩
    simp only [binOp, Op.stringOp, B_toList, less_eq, beqL, e, Sem.run_pure]
theorem binE_ok {op : BinOp} {t : TypeId} {x y : Operand} {K : V → Prop} (htm : TR E tm a) (h : binE P op t x y (ev tm x) (ev tm y) K) : ∃ v, K v ∧ Bin2 P E op t x y (a.eval x) (a.eval y) v := by
  have hx := ev_ok htm x
  have hy := ev_ok htm y
  unfold binE at h
  split at h
  · obtain ⟨k, m, e1, _, h⟩ := intE_ok h hx
    obtain ⟨j, n, e2, _, h⟩ := intE_ok h hy
    rw [e1, e2]; exact shiftOp_ok h t x y
  · split at h
    · obtain ⟨k, m, e1, _, h⟩ := intE_ok h hx
      obtain ⟨j, n, e2, _, h⟩ := intE_ok h hy
      split at h
      · rename_i hkj
        obtain rfl := of_decide_eq_true hkj
        rw [e1, e2]; exact intOp_ok h t x y
      · exact h.elim
    · obtain ⟨s, e1, _, h⟩ := strE_ok h hx
      obtain ⟨r, e2, _, h⟩ := strE_ok h hy
      rw [e1, e2]; exact strOp_ok h t x y
    · rename_i hs
      obtain ⟨p, e1, _, h⟩ := boolE_ok h hx
      obtain ⟨q, e2, _, h⟩ := boolE_ok h hy
      have hu : P.underlying t = some .bool := by
        unfold sortT at hs
        split at hs <;> first | assumption | cases hs
      have he : ∀ d w, (Op.equalIn (d + 1) t (.bool p) (.bool q)).run P w = .ok (p == q) w := fun d w => by simp [Op.equalIn, run_underlying hu]
      have he : ∀ w, (Op.equal t (.bool p) (.bool q)).run P w = .ok (p == q) w := fun w => he 9999 w
      rw [e1, e2]
      split at h
      · exact ⟨_, h, _, VRb, fun w => ⟨guard_bool _ _ _ _ _ _ _, by simp [binOp, he w]⟩⟩
      · exact ⟨_, h, _, VRb, fun w => ⟨guard_bool _ _ _ _ _ _ _, by simp [binOp, he w]⟩⟩
      · exact h.elim
    · split at h
      · obtain ⟨r, h, hs⟩ := sameE_ok (b := .any) (c := .any) htm h
        exact ⟨_, h, _, VRb, fun w => ⟨(hs w).1 _, (hs w).2.1⟩⟩
      · obtain ⟨r, h, hs⟩ := sameE_ok (b := .any) (c := .any) htm h
        exact ⟨_, h, _, VRb, fun w => ⟨(hs w).1 _, (hs w).2.2⟩⟩
      · exact h.elim
theorem unE_ok {op : UnOp} {v : V} {K : V → Prop} {cv : Value} (h : unE op v K) (hv : VR E v cv) : ∃ u, K u ∧ ∃ cu, VR E u cu ∧ ∀ w, (Op.unary op cv).run P w = .ok cu w := by
  unfold unE at h
  split at h
  · obtain ⟨b, rfl, _, h⟩ := boolE_ok h hv
    exact ⟨_, h, _, VRb, fun w => by simp [Op.unary]⟩
  · obtain ⟨k, n, rfl, _, h⟩ := intE_ok h hv
    exact ⟨_, h, _, VRi, fun w => by simp [Op.unary, Op.intArith]⟩
  · exact h.elim
theorem convE_ok {s d : TypeId} {v : V} {K : V → Prop} {cv : Value} (h : convE P s d v K) (hv : VR E v cv) : ∃ u, K u ∧ ∃ cu, VR E u cu ∧ ∀ w, (convert s d cv).run P w = .ok cu w := by
  unfold convE at h
  split at h
  · rename_i hs hd
    obtain ⟨k, n, rfl, _, h⟩ := intE_ok h hv
    exact ⟨_, h, _, VRi, fun w => by simp [convert, run_underlying hs, run_underlying hd, Conv.intToInt]⟩
  · rename_i hs hd
    obtain ⟨r, rfl, _, h⟩ := strE_ok h hv
    exact ⟨_, h, .string (B r), by simp only [VR], fun w => by simp [convert, run_underlying hs, run_underlying hd]⟩
  · rename_i hs hd
    obtain ⟨k, n, rfl, _, h⟩ := intE_ok h hv
    exact ⟨_, h, .string (Utf8.encode n), by simp only [VR, B_of], fun w => by simp [convert, run_underlying hs, run_underlying hd, Conv.intToString]⟩
  · exact h.elim

/-! slices -/
theorem lenE_ok {v : V} {K : Nat → Prop} {cv : Value} (h : lenE v K) (hv : VR E v cv) : ∃ n, K n ∧ ∃ ad c, cv = .slice ad n c ∧ n ≤ c ∧ (ad = none → c = 0) := by
  cases v <;> simp only [lenE] at h <;> simp only [VR] at hv
  · exact ⟨_, h, ⟨none, 0, hv, Nat.le_refl _, fun _ => rfl⟩⟩
  · obtain ⟨ad, rfl⟩ := hv
    exact ⟨_, h, ⟨_, 0, rfl, Nat.le_refl _, fun _ => rfl⟩⟩
  · obtain ⟨ad, c, vals, rfl, h1, h2, _, h4⟩ := hv
    rw [← VRs_length _ _ h4] at h
    exact ⟨_, h, ⟨_, _, rfl, h1, h2⟩⟩
  · obtain ⟨b, N, c, vals, rfl, h1, _, h4, _⟩ := hv
    rw [← VRs_length _ _ h4] at h
    exact ⟨_, h, ⟨_, _, rfl, h1, fun h => by cases h⟩⟩
  · obtain ⟨b, N, c, _, rfl, h1, _⟩ := hv
    exact ⟨_, h, ⟨_, _, rfl, h1, fun h => by cases h⟩⟩
theorem flat_get {sz : Nat} : ∀ (vals : List Value) (i : Nat) (x : Value), (∀ v ∈ vals, v.cells.size = sz) → vals[i]? = some x → ∃ rest, (flat vals).drop (i * sz) = x.cells.toList ++ rest ∧ i * sz ≤ (flat vals).length
  | [], i, x, _, h => by simp at h
  | y :: r, 0, x, hs, h => by simp at h; subst h; exact ⟨flat r, by simp [flat], by simp⟩
  | y :: r, i + 1, x, hs, h => by
    obtain ⟨rest, h1, h2⟩ := flat_get r i x (fun v hv => hs v (by simp [hv])) (by simpa using h)
    have hy : y.cells.toList.length = sz := by simpa using hs y (by simp)
    refine ⟨rest, ?_, ?_⟩
    · show (y.cells.toList ++ flat r).drop ((i + 1) * sz) = _
      rw [Nat.add_mul, Nat.one_mul, Nat.add_comm, ← List.drop_drop, List.drop_append_of_le_length (by omega), List.drop_of_length_le (l := y.cells.toList) (by omega), List.nil_append, h1]
    · show (i + 1) * sz ≤ (y.cells.toList ++ flat r).length
      rw [List.length_append, hy, Nat.add_mul]; omega
theorem At_drop {b o n : Nat} {vs rest : List Value} {us : List Value} (h : At E b o us) (hd : us.drop n = vs ++ rest) (hn : n ≤ us.length) : At E b (o + n) vs := by
  obtain ⟨fs, r, hb, ho, hf⟩ := h
  refine ⟨fs, rest ++ r, hb, ?_, ?_⟩
  · have := congrArg List.length hf
    simp at this; omega
  · rw [← List.drop_drop, hf, List.drop_append_of_le_length hn, hd, List.append_assoc]
theorem idxE_ok {t e : TypeId} {v : V} {i : Int} {sz : Nat} {K : V → Prop} {cv : Value} (hu : P.underlying t = some (.slice e)) (hs : sizeA P e = some sz) (h : idxE sz v i K) (hv : VR E v cv) (k : IntKind) :
    ∃ u, K u ∧ ∃ cu, VR E u cu ∧ ∀ w, (Instr.indexAt t cv (.int k i)).run P w = .ok cu w := by
  have row : ∀ (l : List V) (vals : List Value) (ad : Option Addr) (c : Nat), 0 ≤ i ∧ optP l[i.toNat]? (fun x => elemE x fun cs => K (.vptr cs)) → Row E sz ad vals → VRs E l vals → cv = .slice ad vals.length c →
      ∃ u, K u ∧ ∃ cu, VR E u cu ∧ ∀ w, (Instr.indexAt t cv (.int k i)).run P w = .ok cu w := by
    rintro l vals ad c ⟨h0, h⟩ hr hl rfl
    obtain ⟨x, hx, h⟩ := (optP_iff _ _).1 h
    obtain ⟨cx, hcx, hvx⟩ := VRs_get _ _ hl _ _ hx
    have hne : vals ≠ [] := by rintro rfl; simp at hcx
    obtain ⟨b, o, rfl, hat⟩ := hr.2 hne
    obtain ⟨rest, hd, hle⟩ := flat_get vals _ _ (fun v hv => (hr.1 v hv).1) hcx
    have hlt : i.toNat < vals.length := (List.getElem?_eq_some_iff.1 hcx).1
    obtain ⟨cs, h, hcs⟩ := elemE_ok h hvx
    refine ⟨_, h, .pointer (some ⟨b, o + i.toNat * sz, none⟩), ?_, fun w => ?_⟩
    · simp only [VR]
      exact ⟨b, _, cx.cells.toList, rfl, At_drop hat hd hle, hcs⟩
    · have h1 : (0 : Int) ≤ i ∧ i < (vals.length : Int) := ⟨h0, by omega⟩
      simp [Instr.indexAt, asIntOf, run_underlying hu, h1, run_sizeOf hs, addr_add]
  cases v <;> simp only [idxE] at h <;> simp only [VR] at hv
  · obtain ⟨ad, c, vals, rfl, h1, h2, h3, h4⟩ := hv
    obtain ⟨rfl, h⟩ := h
    exact row _ vals _ _ h h3 h4 rfl
  · obtain ⟨b, N, c, vals, rfl, h1, h3, h4, _⟩ := hv
    obtain ⟨rfl, h⟩ := h
    exact row _ vals _ _ h h3 h4 rfl
  · obtain ⟨b, N, c, hG, rfl, _, _⟩ := hv
    obtain ⟨rfl, h0, h1, h⟩ := h
    refine ⟨_, h, _, by simp only [VR]; exact ⟨b, N, hG, rfl⟩, fun w => ?_⟩
    have h1 := And.intro h0 h1
    simp [Instr.indexAt, asIntOf, run_underlying hu, h1, run_sizeOf hs, addr_add]
end Go.Proofs.Ytmpheeanjjfddaa.SM
