/- The small machine's operations that look at no world answer as the model's do: all of them. -/
import Derived.Test.YtmpheeanjjfddaaDoorAMPure2
namespace Go.Proofs.YtmpheeanjjfddaaDoor.AM
open Go
set_option linter.unusedVariables false
set_option linter.unusedSimpArgs false
variable {P : Program} {E : Env} {tm : Tm} {a : Act} {o : Oper} {v : AV}

theorem asNat_ok {x : Operand} {n : Nat} (htm : TR E tm a) (h : (ev tm x).bind asNatA = some n) : ∃ k, a.eval x = .int k (n : Int) := by
  obtain ⟨y, hy, hn⟩ := Option.bind_eq_some_iff.1 h
  have hv := ev_ok htm hy
  unfold asNatA at hn
  split at hn
  · cases hn
    simp only [VR] at hv
    exact ⟨_, hv⟩
  · cases hn
def cmpV : BinOp → Int → Int → Option Bool
  | .eql, x, y => some (x == y)
  | .neq, x, y => some (x != y)
  | .lss, x, y => some (decide (x < y))
  | .leq, x, y => some (decide (x ≤ y))
  | .gtr, x, y => some (decide (x > y))
  | .geq, x, y => some (decide (x ≥ y))
  | _, _, _ => none
/-- What is taken as known is so. -/
def AsmOK (r : Nat → ByteArray) (A : Asm) : Prop := ∀ op a b v, (op, a, b, v) ∈ A → cmpV op (den r a) (den r b) = some v
theorem se_eq : ∀ (a b : SE), SE.beq a b = true → a = b
  | .len a, b, h => by cases b <;> simp [SE.beq] at h; subst h; rfl
  | .num a, b, h => by cases b <;> simp [SE.beq, intEq_eq] at h; subst h; rfl
  | .add a c, b, h => by
    cases b <;> simp [SE.beq] at h
    rw [se_eq a _ h.1, se_eq c _ h.2]
theorem look_ok {op : BinOp} {a b : SE} {v : Bool} : ∀ (A : Asm), look op a b A = some v → (op, a, b, v) ∈ A
  | [], h => by simp [look] at h
  | (o, x, y, r) :: m, h => by
    simp only [look] at h
    split at h
    · rename_i hc
      cases h
      simp only [Bool.and_eq_true, decide_eq_true_eq] at hc
      obtain ⟨⟨rfl, h1⟩, h2⟩ := hc
      rw [se_eq _ _ h1, se_eq _ _ h2]
      exact List.mem_cons_self
    · exact List.mem_cons_of_mem _ (look_ok m h)
theorem toSE_ok {x : AV} {e : SE} {cx : Value} (h : toSE x = some e) (hx : VR E x cx) : cx = .int .i64 (den E.r e) := by
  unfold toSE at h
  split at h
  · cases h; simpa only [VR] using hx
  · cases h; simp only [VR] at hx; subst hx; rfl
  · cases h
theorem symA_ok {A : Asm} (hA : AsmOK E.r A) {op : BinOp} {x y v : AV} {cx cy : Value} (h : symA A op x y = some v) (hx : VR E x cx) (hy : VR E y cy) (t : TypeId) (ox oy : Operand) :
    ∃ cv, VR E v cv ∧ ∀ w, (eqGuard op t ox oy cx cy).run P w = .ok () w ∧ (binOp op t cx cy).run P w = .ok cv w := by
  unfold symA at h
  split at h
  · split at h
    · rename_i a b ha hb
      have e1 := toSE_ok ha hx
      have e2 := toSE_ok hb hy
      subst e1 e2
      have hg : ∀ w, (eqGuard op t ox oy (.int .i64 (den E.r a)) (.int .i64 (den E.r b))).run P w = .ok () w := by
        intro w; unfold eqGuard; cases op <;> simp
      have hcmp : ∀ r, look op a b A = some r → cmpV op (den E.r a) (den E.r b) = some r := fun r hr => hA _ _ _ _ (look_ok A hr)
      split at h
      · cases h
        exact ⟨.int .i64 (den E.r (.add a b)), by simp only [VR], fun w => ⟨hg w, by simp [binOp, Op.intArith, den]⟩⟩
      all_goals first
        | (obtain ⟨r, hr, rfl⟩ := Option.map_eq_some_iff.1 h
           have hc := hcmp r hr
           simp only [cmpV, Option.some.injEq] at hc
           exact ⟨.bool r, by simp only [VR], fun w => ⟨hg w, by rw [← hc]; simp [binOp, Op.intCmp]⟩⟩)
        | cases h
    · cases h
  · cases h
theorem BS_size (l : List Nat) : (BS l).size = l.length := by show (l.map UInt8.ofNat).toArray.size = _; simp
theorem addr_add (b o n : Nat) : (⟨b, o, none⟩ : Addr).add n = ⟨b, o + n, none⟩ := by unfold Addr.add; split <;> simp_all
theorem part_ok {t : TypeId} {off : Nat} {l : List AV} {cs : Array Value} (hl : VRs E l cs.toList) {v : AV}
    (h : partA P t l off = some v) : ∃ cv, VR E v cv ∧ ∀ w, (part t cs off).run P w = .ok cv w := by
  unfold partA at h
  split at h
  · rename_i hag
    split at h
    · rename_i k hk
      split at h
      · rename_i hle
        cases h
        have hlen := VRs_length _ _ hl
        refine ⟨.agg (cs.extract off (off + k)), ?_, fun w => ?_⟩
        · simp only [VR]
          refine ⟨_, rfl, ?_⟩
          rw [Array.toList_extract, List.extract_eq_take_drop, show off + k - off = k by omega]
          exact VRs_take _ (VRs_drop _ hl)
        · simp only [part, Sem.run_bind, run_isAgg hag, Result.andThen_ok, if_true, run_sizeOf hk, Sem.run_pure]
      · cases h
    · cases h
  · rename_i hag
    obtain ⟨cv, hcv, hvv⟩ := VRs_get _ _ hl _ _ h
    exact ⟨cv, hvv, fun w => run_part1 hag (by simpa using hcv) w⟩
  · cases h

theorem slice_ok {t e : TypeId} {x : AV} {cx : Value} {lo hi : Option Operand} {l h' sz : Nat} (htm : TR E tm a) (hu : P.underlying t = some (.slice e)) (hsz : sizeA P e = some sz)
    (hx : VR E x cx) (hk : (∃ n off len, x = .sl n off len sz ∧ boundA tm len hi = some h') ∨ (x = .nilsl ∧ boundA tm 0 hi = some h')) (hl : boundA tm 0 lo = some l) {v : AV} (h : resliceA x l h' = some v) :
    ∃ cv, VR E v cv ∧ ∀ w, (Instr.sliceAt t cx (lo.map a.eval) (hi.map a.eval) none).run P w = .ok cv w := by
  have hbd : ∀ (w : World) (n c : Nat), l ≤ h' → h' ≤ c → boundA tm n hi = some h' → (Instr.sliceBounds true n c (lo.map a.eval) (hi.map a.eval) none).run P w = .ok (l, h', c) w := by
    intro w n c h1 h2 hhi
    have e1 : ∀ (f : Nat × Nat × Nat → Prop), True := fun _ => trivial
    cases hi with
    | none =>
      simp only [boundA, Option.some.injEq] at hhi
      subst hhi
      cases lo with
      | none => simp only [boundA, Option.some.injEq] at hl; subst hl; simp [Instr.sliceBounds]
      | some lo =>
        obtain ⟨k, hk⟩ := asNat_ok htm hl
        simp only [Instr.sliceBounds, Option.map_none, Option.map_some, hk, Sem.run_bind, Sem.run_pure, Result.andThen_ok, Option.isSome_none, Bool.false_eq_true, if_false, run_sliceBound (P := P) w k (l : Int) n _ (by omega) (by omega), Int.toNat_natCast]
    | some hi =>
      obtain ⟨k, hk⟩ := asNat_ok htm hhi
      cases lo with
      | none =>
        simp only [boundA, Option.some.injEq] at hl; subst hl
        simp only [Instr.sliceBounds, Option.map_none, Option.map_some, hk, Sem.run_bind, Sem.run_pure, Result.andThen_ok, Option.isSome_none, Bool.false_eq_true, if_false, if_true, run_sliceBound (P := P) w k (h' : Int) c _ (by omega) (by omega), Int.toNat_natCast]
      | some lo =>
        obtain ⟨k2, hk2⟩ := asNat_ok htm hl
        simp only [Instr.sliceBounds, Option.map_none, Option.map_some, hk, hk2, Sem.run_bind, Sem.run_pure, Result.andThen_ok, Option.isSome_none, Bool.false_eq_true, if_false, if_true, run_sliceBound (P := P) w k (h' : Int) c _ (by omega) (by omega), run_sliceBound (P := P) w k2 (l : Int) h' _ (by omega) (by omega), Int.toNat_natCast]
  rcases hk with ⟨n, off, len, rfl, hhi⟩ | ⟨rfl, hhi⟩
  · simp only [resliceA] at h
    split at h
    · rename_i hb
      simp only [VR] at hx
      obtain ⟨b, N, c, hG, rfl, hlc, hN⟩ := hx
      have hrun : ∀ w, (Instr.sliceAt t (.slice (some ⟨b, off, none⟩) len c) (lo.map a.eval) (hi.map a.eval) none).run P w = .ok (.slice (if c = l then some ⟨b, off, none⟩ else some ⟨b, off + l * sz, none⟩) (h' - l) (c - l)) w := by
        intro w
        simp only [Instr.sliceAt, Instr.slice, Sem.run_bind, run_underlying hu, Result.andThen_ok, hbd w len c hb.1 (by omega) hhi, run_sizeOf hsz, Sem.run_pure, Option.map_some, addr_add]
      split at h
      · rename_i hz
        cases h
        refine ⟨_, ?_, hrun⟩
        simp only [VR]
        rw [show h' - l = 0 by omega]
        split
        · exact ⟨_, _, rfl⟩
        · exact ⟨_, _, rfl⟩
      · rename_i hz
        cases h
        refine ⟨_, ?_, hrun⟩
        have hcl : (if c = l then (some ⟨b, off, none⟩ : Option Addr) else some ⟨b, off + l * sz, none⟩) = some ⟨b, off + l * sz, none⟩ := by
          split
          · rename_i hcl
            have : l = 0 := by
              by_cases h0 : l = 0
              · exact h0
              · exact absurd ⟨by omega, by omega⟩ hz
            subst this; simp
          · rfl
        simp only [VR]
        refine ⟨b, N, c - l, hG, by rw [hcl], by omega, ?_⟩
        have : l * sz + (c - l) * sz = c * sz := by rw [← Nat.add_mul, show l + (c - l) = c by omega]
        omega
    · cases h
  · simp only [resliceA] at h
    split at h
    · rename_i hb
      cases h
      obtain ⟨rfl, rfl⟩ := hb
      simp only [VR] at hx
      subst hx
      refine ⟨.slice none 0 0, by simp only [VR], fun w => ?_⟩
      simp only [Instr.sliceAt, Instr.slice, Sem.run_bind, run_underlying hu, Result.andThen_ok, hbd w 0 0 (Nat.le_refl _) (Nat.le_refl _) hhi, run_sizeOf hsz, Sem.run_pure, Option.map_none, ite_self, Nat.sub_self]
    · cases h

set_option maxHeartbeats 1000000 in
theorem pureA_ok {A : Asm} (hA : AsmOK E.r A) (htm : TR E tm a) (h : pureA P A tm o = some v) : Yl P E a o v := by
  obtain ⟨dst, op, type, pos, after, guard⟩ := o
  have hrest : (∀ cs b, op ≠ .select cs b) → restA P tm ⟨dst, op, type, pos, after, guard⟩ = some v → Yl P E a ⟨dst, op, type, pos, after, guard⟩ v :=
    fun hs h => rest_ok htm hs h
  cases op
  case move x => simp only [pureA] at h; exact ⟨_, ev_ok htm h, fun w => by simp [execOp]⟩
  case assign x => simp only [pureA] at h; exact ⟨_, ev_ok htm h, fun w => by simp [execOp]⟩
  case pick c x y =>
    simp only [pureA] at h
    split at h
    · rename_i hc
      have hcv := ev_ok htm hc
      simp only [VR] at hcv
      exact ⟨_, ev_ok htm h, fun w => by simp [execOp, hcv, asBool]⟩
    · rename_i hc
      have hcv := ev_ok htm hc
      simp only [VR] at hcv
      exact ⟨_, ev_ok htm h, fun w => by simp [execOp, hcv, asBool]⟩
    · cases h
  case build t parts =>
    simp only [pureA] at h
    split at h
    · rename_i l hl
      have hp := evParts_ok htm _ _ hl
      obtain ⟨cv, hcv, hr⟩ := buildA_ok (cparts := parts.map fun (i, x) => (i, a.eval x)) (by simpa using hp) h
      exact ⟨cv, hcv, fun w => by simp [execOp, hr]⟩
    · cases h
  case nilCheck x =>
    simp only [pureA] at h
    split at h
    · rename_i n off hx
      cases h
      have hv := ev_ok htm hx
      have hv' := hv
      simp only [VR] at hv'
      obtain ⟨b, N, _, he⟩ := hv'
      refine ⟨_, hv, fun w => ?_⟩
      simp [execOp, he]
    · rename_i t y hx
      cases h
      have hv := ev_ok htm hx
      have hv' := hv
      simp only [VR] at hv'
      obtain ⟨y', he, _⟩ := hv'
      refine ⟨_, hv, fun w => ?_⟩
      simp [execOp, he]
    · cases h
  case makeInterface t x =>
    simp only [pureA] at h
    split at h
    · cases h
    · rename_i d y hd hu hx
      cases h
      refine ⟨.iface t (a.eval x), by simp only [VR]; exact ⟨_, rfl, ev_ok htm hx⟩, fun w => ?_⟩
      simp only [execOp, Sem.run_bind, Instr.makeInterface, run_underlying hu, Result.andThen_ok]
      first
        | rfl
        | (split
           · rename_i ms; exact absurd rfl (hd ms)
           · rfl)
    · cases h
  case makeFunc fn as cs =>
    simp only [pureA] at h
    split at h
    · rename_i l1 l2 h1 h2
      cases h
      refine ⟨.func fn (as.map a.eval) (cs.map a.eval), ?_, fun w => by simp [execOp, Instr.makeFunc]⟩
      simp only [VR]
      exact ⟨_, _, rfl, by simpa using evs_ok htm _ _ h1, by simpa using evs_ok htm _ _ h2⟩
    · cases h
  case fieldAddr t x i =>
    simp only [pureA] at h
    split at h
    · rename_i fields n off hu hx
      split at h
      · rename_i f hf
        split at h
        · rename_i k hk
          cases h
          have hv := ev_ok htm hx
          simp only [VR] at hv
          obtain ⟨b, N, hb, he⟩ := hv
          refine ⟨.pointer (some ⟨b, off + f.offset, none⟩), by simp only [VR]; exact ⟨b, N, hb, rfl⟩, fun w => ?_⟩
          simp [execOp, Instr.fieldAt, run_underlying hu, hf, he, Instr.sureAddr, fieldPlace, run_sizeOf hk, addr_add]
        · cases h
      · cases h
    · cases h
  case field t x i =>
    simp only [pureA] at h
    split at h
    · rename_i fields cs hu hx
      split at h
      · rename_i f hf
        have hv := ev_ok htm hx
        simp only [VR] at hv
        obtain ⟨ccs, he, hcs⟩ := hv
        obtain ⟨cv, hcv, hr⟩ := part_ok hcs h
        refine ⟨cv, hcv, fun w => ?_⟩
        simp [execOp, Instr.field, run_underlying hu, hf, he, asAgg, hr]
      · cases h
    · cases h
  case indexAddr t x i =>
    simp only [pureA] at h
    split at h
    · rename_i e n off len sz k hu hx hi
      split at h
      · rename_i hb
        cases h
        obtain ⟨hlt, hsz⟩ := hb
        have hv := ev_ok htm hx
        simp only [VR] at hv
        obtain ⟨b, N, c, hb, he, _⟩ := hv
        obtain ⟨kd, hk⟩ := asNat_ok htm hi
        refine ⟨.pointer (some ⟨b, off + k * sz, none⟩), by simp only [VR]; exact ⟨b, N, hb, rfl⟩, fun w => ?_⟩
        have h0 : (0 : Int) ≤ (k : Int) ∧ (k : Int) < (len : Int) := ⟨by omega, by omega⟩
        simp [execOp, Instr.indexAt, hk, asIntOf, he, run_underlying hu, h0, run_sizeOf hsz, addr_add]
        omega
      · cases h
    · cases h
  case slice t x lo hi mx =>
    cases mx with
    | some m => exact hrest (by simp) (by simpa only [pureA] using h)
    | none =>
      simp only [pureA] at h
      split at h
      · rename_i e y hu hx
        split at h
        · rename_i len hlen
          split at h
          · rename_i l h' hl hh
            split at h
            · rename_i n off len' sz
              split at h
              · rename_i hsz
                simp only [lenA, Option.some.injEq] at hlen
                subst hlen
                obtain ⟨cv, hcv, hr⟩ := slice_ok htm hu hsz (ev_ok htm hx) (.inl ⟨n, off, len', rfl, hh⟩) hl h
                exact ⟨cv, hcv, fun w => by simp [execOp, hr]⟩
              · cases h
            · split at h
              · rename_i hsz
                obtain ⟨sz, hsz⟩ := Option.isSome_iff_exists.1 hsz
                simp only [lenA, Option.some.injEq] at hlen
                subst hlen
                obtain ⟨cv, hcv, hr⟩ := slice_ok htm hu hsz (ev_ok htm hx) (.inr ⟨rfl, hh⟩) hl h
                exact ⟨cv, hcv, fun w => by simp [execOp, hr]⟩
              · cases h
            · cases h
          · cases h
        · cases h
      · exact hrest (by simp) h
  case extract x i =>
    simp only [pureA] at h
    split at h
    · rename_i vs hx
      have hv := ev_ok htm hx
      simp only [VR] at hv
      obtain ⟨cs, he, hcs⟩ := hv
      obtain ⟨cv, hcv, hvv⟩ := VRs_get _ _ hcs _ _ h
      refine ⟨cv, hvv, fun w => ?_⟩
      have : cs[i]? = some cv := by simpa using hcv
      simp [execOp, Instr.extract, he, this]
    · cases h
  case binOp op t x y yt =>
    simp only [pureA] at h
    split at h
    · rename_i v' hv'
      cases h
      split at hv'
      · rename_i b c hb hc
        obtain ⟨cv, hcv, hrun⟩ := symA_ok (P := P) hA hv' (ev_ok htm hb) (ev_ok htm hc) t x y
        exact ⟨cv, hcv, fun w => by simp [execOp, (hrun w).1, (hrun w).2]⟩
      · cases hv'
    split at h
    · rename_i b c hb hc hsy
      split at h
      · rename_i r hr
        cases h
        have hs := sameA_ok (E := E) hr (ev_ok htm hb) (ev_ok htm hc)
        exact ⟨.bool r, by simp only [VR], fun w => by simp [execOp, (hs w).1, (hs w).2.1]⟩
      · exact hrest (by simp) h
    · rename_i b c hb hc hsy
      split at h
      · rename_i r hr
        cases h
        have hs := sameA_ok (E := E) hr (ev_ok htm hb) (ev_ok htm hc)
        exact ⟨.bool !r, by simp only [VR], fun w => by simp [execOp, (hs w).1, (hs w).2.2]⟩
      · exact hrest (by simp) h
    · exact hrest (by simp) h
  case call c =>
    obtain ⟨callee, args, argTypes⟩ := c
    cases callee with
    | value f => simp [pureA] at h
    | invoke r m => simp [pureA] at h
    | builtin b =>
      cases b
      case len =>
        simp only [pureA] at h
        split at h
        · rename_i i hy
          have hys := evs_ok htm _ _ hy
          simp only [VRs] at hys
          obtain ⟨cy, m, hm, hvy, rfl⟩ := hys
          have hargs' : args.map a.eval = #[cy] := by rw [← Array.toList_inj]; simpa using hm
          split at h
          · rename_i ht
            cases h
            obtain ⟨t, ht1, ht2⟩ := Option.bind_eq_some_iff.1 ht
            simp only [VR] at hvy
            subst hvy
            refine ⟨.int .i64 ((E.r i).size : Nat), by simp only [VR]; rfl, fun w => ?_⟩
            simp [execOp, resolve, hargs', invoke, builtin, Builtin.len_, ht1, run_underlying ht2, goInt]
          · cases h
        · rename_i y hny hy
          have hys := evs_ok htm _ _ hy
          simp only [VRs] at hys
          obtain ⟨cy, m, hm, hvy, rfl⟩ := hys
          have hargs : (args.map a.eval).toList = [cy] := by simpa using hm
          have hargs' : args.map a.eval = #[cy] := by rw [← Array.toList_inj]; simpa using hargs
          split at h
          · rename_i n l ht hl
            cases h
            obtain ⟨t, ht1, ht2⟩ := Option.bind_eq_some_iff.1 ht
            simp only [VR] at hvy
            obtain ⟨rfl, _⟩ := hvy
            simp only [lenA, Option.some.injEq] at hl
            subst hl
            refine ⟨.int .i64 (l.length : Nat), by simp only [VR]; rfl, fun w => ?_⟩
            simp [execOp, resolve, hargs', invoke, builtin, Builtin.len_, ht1, run_underlying ht2, goInt, BS_size]
          · rename_i n nm off len sz e ht hl
            cases h
            obtain ⟨t, ht1, ht2⟩ := Option.bind_eq_some_iff.1 ht
            simp only [VR] at hvy
            obtain ⟨b, N, c, _, rfl, _⟩ := hvy
            simp only [lenA, Option.some.injEq] at hl
            subst hl
            refine ⟨.int .i64 (len : Nat), by simp only [VR]; rfl, fun w => ?_⟩
            simp [execOp, resolve, hargs', invoke, builtin, Builtin.len_, ht1, run_underlying ht2, goInt]
          · rename_i n e ht hl
            cases h
            obtain ⟨t, ht1, ht2⟩ := Option.bind_eq_some_iff.1 ht
            simp only [VR] at hvy
            subst hvy
            simp only [lenA, Option.some.injEq] at hl
            subst hl
            refine ⟨.int .i64 (0 : Nat), by simp only [VR]; rfl, fun w => ?_⟩
            simp [execOp, resolve, hargs', invoke, builtin, Builtin.len_, ht1, run_underlying ht2, goInt]
          · rename_i n e ht hl
            cases h
            obtain ⟨t, ht1, ht2⟩ := Option.bind_eq_some_iff.1 ht
            simp only [VR] at hvy
            obtain ⟨ad, c, rfl⟩ := hvy
            simp only [lenA, Option.some.injEq] at hl
            subst hl
            refine ⟨.int .i64 (0 : Nat), by simp only [VR]; rfl, fun w => ?_⟩
            simp [execOp, resolve, hargs', invoke, builtin, Builtin.len_, ht1, run_underlying ht2, goInt]
          · cases h
        · cases h
      case append => simp [pureA] at h
      case clear => simp [pureA] at h
      all_goals exact hrest (by simp) (by simpa only [pureA] using h)
  all_goals (first | (simp [pureA] at h; done) | exact hrest (by simp) (by simpa only [pureA] using h))
end Go.Proofs.YtmpheeanjjfddaaDoor.AM
