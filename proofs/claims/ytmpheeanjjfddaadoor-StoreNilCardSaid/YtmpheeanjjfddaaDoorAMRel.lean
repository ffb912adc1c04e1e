/- Values and objects of the small machine, and what they stand for in a world of the model. -/
import Derived.Test.YtmpheeanjjfddaaDoorAMDef
import Derived.Below
import Derived.Laws.CopyRow
import Derived.Laws.Rows
import Derived.WalkKit
namespace Go.Proofs.YtmpheeanjjfddaaDoor.AM
open Go
set_option linter.unusedVariables false
set_option linter.unusedSimpArgs false

/-- Where named objects lie (block, how many cells), and what the texts are that are not known. -/
structure Env where
  G : Nat → Option (Nat × Nat)
  r : Nat → ByteArray
def Env.le (E F : Env) : Prop := (∀ n x, E.G n = some x → F.G n = some x) ∧ F.r = E.r
theorem Env.le_refl (E : Env) : E.le E := ⟨fun _ _ h => h, rfl⟩
theorem Env.le_trans {E F D : Env} (h : E.le F) (k : F.le D) : E.le D := ⟨fun n x hx => k.1 n x (h.1 n x hx), k.2.trans h.2⟩
def Env.set (E : Env) (n b N : Nat) : Env := ⟨fun m => if m = n then some (b, N) else E.G m, E.r⟩
theorem Env.le_set {E : Env} {n b N : Nat} (h : E.G n = none) : E.le (E.set n b N) := by
  refine ⟨fun m x hx => ?_, rfl⟩
  by_cases hm : m = n
  · subst hm; rw [h] at hx; cases hx
  · simp [Env.set, hm, hx]
def den (r : Nat → ByteArray) : SE → Int
  | .len i => ((r i).size : Int)
  | .num n => n
  | .add a b => IntKind.i64.wrap (den r a + den r b)
def BS (s : List Nat) : ByteArray := ⟨(s.map UInt8.ofNat).toArray⟩
mutual
def VR (E : Env) : AV → Value → Prop
  | .bool b, v => v = .bool b
  | .int k n, v => v = .int k n
  | .sint e, v => v = .int .i64 (den E.r e)
  | .str s, v => v = .string (BS s) ∧ ∀ x ∈ s, x < 256
  | .sym i, v => v = .string (E.r i)
  | .nilp, v => v = .pointer none
  | .ptr n o, v => ∃ b N, E.G n = some (b, N) ∧ v = .pointer (some ⟨b, o, none⟩)
  | .glob g, v => v = .pointer (some ⟨g, 0, none⟩)
  | .nilsl, v => v = .slice none 0 0
  | .esl, v => ∃ a c, v = .slice (some a) 0 c
  | .sl n o l sz, v => ∃ b N c, E.G n = some (b, N) ∧ v = .slice (some ⟨b, o, none⟩) l c ∧ l ≤ c ∧ o + c * sz ≤ N
  | .nilmap, v => v = .map none
  | .map n, v => ∃ b N, E.G n = some (b, N) ∧ v = .map (some b)
  | .func fn a c, v => ∃ a' c', v = .func fn a' c' ∧ VRs E a a'.toList ∧ VRs E c c'.toList
  | .nilfunc, v => v = .nilFunc
  | .iface t x, v => ∃ x', v = .iface t x' ∧ VR E x x'
  | .niliface, v => v = .nilIface
  | .agg l, v => ∃ cs, v = .agg cs ∧ VRs E l cs.toList
  | .tuple l, v => ∃ cs, v = .tuple cs ∧ VRs E l cs.toList
def VRs (E : Env) : List AV → List Value → Prop
  | [], l => l = []
  | a :: r, l => ∃ x m, l = x :: m ∧ VR E a x ∧ VRs E r m
end
mutual
theorem VR_mono {E F : Env} (h : E.le F) : ∀ (a : AV) (v : Value), VR E a v → VR F a v
  | .bool _, _, hv | .int _ _, _, hv | .str _, _, hv | .nilp, _, hv | .glob _, _, hv | .nilsl, _, hv | .nilmap, _, hv | .nilfunc, _, hv | .niliface, _, hv => by simpa only [VR] using hv
  | .esl, _, hv => by simpa only [VR] using hv
  | .sym i, _, hv => by simp only [VR] at hv ⊢; rw [hv, h.2]
  | .sint e, _, hv => by simp only [VR] at hv ⊢; rw [hv, h.2]
  | .ptr n o, _, hv => by simp only [VR] at hv ⊢; obtain ⟨b, N, hb, rfl⟩ := hv; exact ⟨b, N, h.1 _ _ hb, rfl⟩
  | .map n, _, hv => by simp only [VR] at hv ⊢; obtain ⟨b, N, hb, rfl⟩ := hv; exact ⟨b, N, h.1 _ _ hb, rfl⟩
  | .sl n o l sz, _, hv => by simp only [VR] at hv ⊢; obtain ⟨b, N, c, hb, hr⟩ := hv; exact ⟨b, N, c, h.1 _ _ hb, hr⟩
  | .func fn a c, _, hv => by simp only [VR] at hv ⊢; obtain ⟨a', c', rfl, h1, h2⟩ := hv; exact ⟨a', c', rfl, VRs_mono h a _ h1, VRs_mono h c _ h2⟩
  | .iface t x, _, hv => by simp only [VR] at hv ⊢; obtain ⟨x', rfl, h1⟩ := hv; exact ⟨x', rfl, VR_mono h x _ h1⟩
  | .agg l, _, hv => by simp only [VR] at hv ⊢; obtain ⟨cs, rfl, h1⟩ := hv; exact ⟨cs, rfl, VRs_mono h l _ h1⟩
  | .tuple l, _, hv => by simp only [VR] at hv ⊢; obtain ⟨cs, rfl, h1⟩ := hv; exact ⟨cs, rfl, VRs_mono h l _ h1⟩
theorem VRs_mono {E F : Env} (h : E.le F) : ∀ (l : List AV) (m : List Value), VRs E l m → VRs F l m
  | [], _, hv => by simpa only [VRs] using hv
  | a :: r, _, hv => by simp only [VRs] at hv ⊢; obtain ⟨x, m, rfl, h1, h2⟩ := hv; exact ⟨x, m, rfl, VR_mono h a x h1, VRs_mono h r m h2⟩
end
theorem VRs_nil {E : Env} : VRs E [] [] := by simp only [VRs]
theorem VRs_cons {E : Env} {a : AV} {v : Value} {l : List AV} {m : List Value} (h : VR E a v) (k : VRs E l m) : VRs E (a :: l) (v :: m) := by
  simp only [VRs]; exact ⟨v, m, rfl, h, k⟩
theorem VRs_inv {E : Env} {a : AV} {v : Value} {l : List AV} {m : List Value} (h : VRs E (a :: l) (v :: m)) : VR E a v ∧ VRs E l m := by
  simp only [VRs] at h; obtain ⟨x, y, e, h1, h2⟩ := h; cases e; exact ⟨h1, h2⟩
theorem VRs_length {E : Env} : ∀ (l : List AV) (m : List Value), VRs E l m → m.length = l.length
  | [], m, h => by simp only [VRs] at h; simp [h]
  | a :: r, m, h => by simp only [VRs] at h; obtain ⟨x, m', rfl, _, h2⟩ := h; simp [VRs_length r m' h2]
theorem VRs_get {E : Env} : ∀ (l : List AV) (m : List Value), VRs E l m → ∀ (i : Nat) (a : AV), l[i]? = some a → ∃ v, m[i]? = some v ∧ VR E a v
  | [], m, h, i, a, hi => by simp at hi
  | b :: r, m, h, i, a, hi => by
    simp only [VRs] at h; obtain ⟨x, m', rfl, h1, h2⟩ := h
    cases i with
    | zero => simp at hi; subst hi; exact ⟨x, rfl, h1⟩
    | succ i => simpa using VRs_get r m' h2 i a (by simpa using hi)
theorem VRs_getD {E : Env} {l : List AV} {m : List Value} (h : VRs E l m) (i : Nat) : VR E (l.getD i (.tuple [])) (m.getD i undef) := by
  by_cases hi : i < l.length
  · obtain ⟨v, hv, hr⟩ := VRs_get l m h i l[i] (List.getElem?_eq_getElem hi)
    simpa [List.getD, hi, hv] using hr
  · have hm := VRs_length l m h
    simp only [List.getD, List.getElem?_eq_none (Nat.le_of_not_lt hi), List.getElem?_eq_none (show m.length ≤ i by omega), Option.getD_none]
    simp only [VR]; exact ⟨#[], rfl, by simp only [VRs]⟩
theorem VRs_append {E : Env} : ∀ {l : List AV} {m : List Value} {l' : List AV} {m' : List Value}, VRs E l m → VRs E l' m' → VRs E (l ++ l') (m ++ m')
  | [], m, l', m', h, k => by simp only [VRs] at h; subst h; simpa using k
  | a :: r, m, l', m', h, k => by
    simp only [VRs] at h; obtain ⟨x, m1, rfl, h1, h2⟩ := h
    exact VRs_cons h1 (VRs_append h2 k)
theorem VRs_take {E : Env} : ∀ {l : List AV} {m : List Value} (n : Nat), VRs E l m → VRs E (l.take n) (m.take n)
  | _, _, 0, h => by simp [VRs]
  | [], m, n + 1, h => by simp only [VRs] at h; subst h; simp [VRs]
  | a :: r, m, n + 1, h => by
    simp only [VRs] at h; obtain ⟨x, m1, rfl, h1, h2⟩ := h
    exact VRs_cons h1 (VRs_take n h2)
theorem VRs_drop {E : Env} : ∀ {l : List AV} {m : List Value} (n : Nat), VRs E l m → VRs E (l.drop n) (m.drop n)
  | _, _, 0, h => by simpa using h
  | [], m, n + 1, h => by simp only [VRs] at h; subst h; simp [VRs]
  | a :: r, m, n + 1, h => by
    simp only [VRs] at h; obtain ⟨x, m1, rfl, h1, h2⟩ := h
    simpa using VRs_drop n h2
theorem VRs_set {E : Env} : ∀ {l : List AV} {m : List Value} (i : Nat) {a : AV} {v : Value}, VRs E l m → VR E a v → VRs E (l.set i a) (m.set i v)
  | [], m, i, a, v, h, k => by simp only [VRs] at h; subst h; simp [VRs]
  | b :: r, m, 0, a, v, h, k => by
    simp only [VRs] at h; obtain ⟨x, m1, rfl, h1, h2⟩ := h
    exact VRs_cons k h2
  | b :: r, m, i + 1, a, v, h, k => by
    simp only [VRs] at h; obtain ⟨x, m1, rfl, h1, h2⟩ := h
    exact VRs_cons h1 (VRs_set i h2 k)

theorem BS_of (s : ByteArray) : BS (s.data.toList.map UInt8.toNat) = s := by
  unfold BS
  cases s with
  | mk d =>
    congr 1
    apply Array.ext'
    simp only [List.map_map]
    have : (UInt8.ofNat ∘ UInt8.toNat) = id := by funext x; simp
    simp [this]
theorem ofS_ok {E : Env} {v : Value} {a : AV} (h : ofS v = some a) : VR E a v := by
  unfold ofS at h
  split at h <;> first | (cases h; simp only [VR]; done) | (cases h; simp only [VR, BS_of]; exact ⟨trivial, fun x hx => by obtain ⟨b, _, rfl⟩ := List.mem_map.1 hx; exact UInt8.toNat_lt b⟩; done) | cases h
theorem ofSs_ok {E : Env} : ∀ (l : List Value) (m : List AV), ofSs l = some m → VRs E m l
  | [], m, h => by cases h; exact VRs_nil
  | v :: r, m, h => by
    unfold ofSs at h
    split at h
    · rename_i a l ha hl; cases h; exact VRs_cons (ofS_ok ha) (ofSs_ok r l hl)
    · cases h
theorem ofV_ok {E : Env} {v : Value} {a : AV} (h : ofV v = some a) : VR E a v := by
  unfold ofV at h
  split at h
  · rename_i cs
    simp only [Option.map_eq_some_iff] at h
    obtain ⟨l, hl, rfl⟩ := h
    simp only [VR]; exact ⟨cs, rfl, ofSs_ok _ _ hl⟩
  · rename_i cs
    simp only [Option.map_eq_some_iff] at h
    obtain ⟨l, hl, rfl⟩ := h
    simp only [VR]; exact ⟨cs, rfl, ofSs_ok _ _ hl⟩
  · exact ofS_ok h
theorem toS_ok {E : Env} {v w : Value} {a : AV} (h : toS a = some v) (hr : VR E a w) : w = v := by
  unfold toS at h
  split at h <;> first | (cases h; simp only [VR, BS] at hr; exact hr) | (cases h; simp only [VR, BS] at hr; exact hr.1) | cases h
theorem toSs_ok {E : Env} : ∀ (l : List AV) (m w : List Value), toSs l = some m → VRs E l w → w = m
  | [], m, w, h, hr => by cases h; simpa only [VRs] using hr
  | a :: r, m, w, h, hr => by
    unfold toSs at h
    split at h
    · rename_i x y hx hy
      cases h
      simp only [VRs] at hr
      obtain ⟨x', m', rfl, h1, h2⟩ := hr
      rw [toS_ok hx h1, toSs_ok r y m' hy h2]
    · cases h
theorem toV_ok {E : Env} {v w : Value} {a : AV} (h : toV a = some v) (hr : VR E a w) : w = v := by
  unfold toV at h
  split at h
  · simp only [Option.map_eq_some_iff] at h
    obtain ⟨l, hl, rfl⟩ := h
    simp only [VR] at hr
    obtain ⟨cs, rfl, hr⟩ := hr
    rw [← toSs_ok _ _ _ hl hr]
  · simp only [Option.map_eq_some_iff] at h
    obtain ⟨l, hl, rfl⟩ := h
    simp only [VR] at hr
    obtain ⟨cs, rfl, hr⟩ := hr
    rw [← toSs_ok _ _ _ hl hr]
  · exact toS_ok h hr
theorem pr_ok {P : Program} {α : Type} : ∀ (s : Sem α) (x : α), pr P s = some x → ∀ w, s.run P w = .ok x w
  | .pure a, x, h, w => by simp only [pr, Option.some.injEq] at h; subst h; rfl
  | .program k, x, h, w => by simp only [pr] at h; simp only [Sem.run]; exact pr_ok (k P) x h w
  | .load .., x, h, w | .store .., x, h, w | .new .., x, h, w | .shape .., x, h, w | .freeze .., x, h, w | .frozen .., x, h, w | .getObj .., x, h, w | .setObj .., x, h, w
  | .choose .., x, h, w | .sys .., x, h, w | .mark .., x, h, w | .halt .., x, h, w => by simp [pr] at h

/-! temporaries -/
def TR (E : Env) (tm : Tm) (a : Act) : Prop := VRs E tm a.tmps.toList
theorem ev_ok {E : Env} {tm : Tm} {a : Act} (h : TR E tm a) {x : Operand} {v : AV} (hx : ev tm x = some v) : VR E v (a.eval x) := by
  unfold ev at hx
  split at hx
  · cases hx
    rename_i t
    have := VRs_getD h t
    simpa [Act.eval, Array.getD_eq_getD_getElem?, List.getD] using this
  · exact ofV_ok hx
  · cases hx; simp [VR, Act.eval]
  · cases hx; simp only [VR, Act.eval]; exact ⟨#[], #[], rfl, VRs_nil, VRs_nil⟩
theorem evs_ok {E : Env} {tm : Tm} {a : Act} (h : TR E tm a) : ∀ (l : List Operand) (m : List AV), evs tm l = some m → VRs E m (l.map a.eval)
  | [], m, hx => by cases hx; exact VRs_nil
  | x :: r, m, hx => by
    unfold evs at hx
    split at hx
    · rename_i b c hb hc; cases hx; exact VRs_cons (ev_ok h hb) (evs_ok h r c hc)
    · cases hx
theorem TR_put {E : Env} {tm : Tm} {a : Act} (h : TR E tm a) {d : Option Tmp} {v : AV} {cv : Value} (hv : VR E v cv) : TR E (put tm d v) (a.put d cv) := by
  cases d with
  | none => exact h
  | some d =>
    unfold TR put Act.put
    simp only [Array.toList_setIfInBounds]
    exact VRs_set d h hv
theorem TR_mono {E F : Env} (hl : E.le F) {tm : Tm} {a : Act} (h : TR E tm a) : TR F tm a := VRs_mono hl _ _ h
theorem ground_ok {E : Env} {tm : Tm} {a : Act} (h : TR E tm a) : ∀ (l : List Operand), allGround tm l = true → ∀ x ∈ l, a.eval x = ground tm x
  | [], _, x, hx => by simp at hx
  | y :: r, hg, x, hx => by
    simp only [allGround, Bool.and_eq_true] at hg
    rcases List.mem_cons.1 hx with rfl | hx
    · obtain ⟨v, hv⟩ := Option.isSome_iff_exists.1 hg.1
      obtain ⟨b, hb, hbv⟩ := Option.bind_eq_some_iff.1 hv
      unfold ground
      rw [hv]
      exact toV_ok hbv (ev_ok h hb)
    · exact ground_ok h r hg.2 x hx
end Go.Proofs.YtmpheeanjjfddaaDoor.AM
