/- Slices that grow, each of a colour: what one step leaves as it was. -/
import Derived.Test.YtmpheeanjjfddaaSLib
namespace Go.Proofs.Ytmpheeanjjfddaa.S
open Go Go.RowKit Go.Proofs.Ytmpheeanjjfddaa.SM
set_option linter.unusedVariables false
set_option linter.unusedSimpArgs false
abbrev Bs := List UInt8
/-- What is not there has no colour. -/
def Cl (H : Hp) (χ : Nat → Nat) : Prop := ∀ m, H m = none → χ m = 0
/-- All but some colours are as they were. -/
def Keep (S : Nat → Prop) (H J : Hp) (χ ψ : Nat → Nat) : Prop := ∀ k o, H k = some o → ¬ S (χ k) → J k = some o ∧ ψ k = χ k
theorem Keep.refl {S : Nat → Prop} {H : Hp} {χ : Nat → Nat} : Keep S H H χ χ := fun k o h _ => ⟨h, rfl⟩
theorem Keep.trans {S : Nat → Prop} {H J K : Hp} {χ ψ φ : Nat → Nat} (h : Keep S H J χ ψ) (k : Keep S J K ψ φ) : Keep S H K χ φ := fun n o hn hs => by
  obtain ⟨h1, h2⟩ := h n o hn hs
  obtain ⟨h3, h4⟩ := k n o h1 (by rw [h2]; exact hs)
  exact ⟨h3, h4.trans h2⟩
theorem Keep.mono {S T : Nat → Prop} {H J : Hp} {χ ψ : Nat → Nat} (h : Keep S H J χ ψ) (k : ∀ c, S c → T c) : Keep T H J χ ψ := fun n o hn hs => h n o hn (fun hc => hs (k _ hc))
theorem Keep.ext {S : Nat → Prop} {H J : Hp} {χ : Nat → Nat} (h : Ext H J) : Keep S H J χ χ := fun n o hn _ => ⟨h n o hn, rfl⟩
theorem Cl.ext {H J : Hp} {χ : Nat → Nat} (h : Cl H χ) (he : Ext H J) : Cl J χ := fun m hm => h m (by
  cases hH : H m with
  | none => rfl
  | some o => rw [he m o hH] at hm; cases hm)
/-- One object is changed. -/
theorem Keep.set {i : Nat} {S : Nat → Prop} {H : Hp} {χ : Nat → Nat} {n : Nat} {o : O} (hc : χ n = i) (hs : S i) : Keep S H (H.set n o) χ χ := fun k p hk hS => by
  have : k ≠ n := by rintro rfl; exact hS (hc ▸ hs)
  exact ⟨by rw [Hp.set_ne _ _ this]; exact hk, rfl⟩
theorem Cl.set {H : Hp} {χ : Nat → Nat} (h : Cl H χ) (n : Nat) (o : O) : Cl (H.set n o) χ := fun m hm => h m (by
  by_cases hmn : m = n
  · subst hmn; rw [Hp.set_same] at hm; cases hm
  · rw [Hp.set_ne _ _ hmn] at hm; exact hm)
def paint (χ : Nat → Nat) (m i : Nat) : Nat → Nat := fun k => if k = m then i else χ k
theorem paint_same (χ : Nat → Nat) (m i : Nat) : paint χ m i m = i := by simp [paint]
theorem paint_ne (χ : Nat → Nat) {m k : Nat} (i : Nat) (h : k ≠ m) : paint χ m i k = χ k := by simp [paint, h]
theorem Keep.new {S : Nat → Prop} {H : Hp} {χ : Nat → Nat} {n i : Nat} {o : O} (hn : H n = none) : Keep S H (H.set n o) χ (paint χ n i) := fun k p hk hS => by
  have : k ≠ n := by rintro rfl; rw [hn] at hk; cases hk
  exact ⟨by rw [Hp.set_ne _ _ this]; exact hk, paint_ne _ _ this⟩
theorem Cl.new {H : Hp} {χ : Nat → Nat} (h : Cl H χ) (n i : Nat) (o : O) : Cl (H.set n o) (paint χ n i) := fun m hm => by
  by_cases hmn : m = n
  · subst hmn; rw [Hp.set_same] at hm; cases hm
  · rw [Hp.set_ne _ _ hmn] at hm; rw [paint_ne _ _ hmn]; exact h m hm
theorem intK_i {k : IntKind} {n : Int} {K : Int → Prop} (h : K n) : intK k (.int k n) K := by simp only [intK, decide_true]; exact h
/-- A field's address. -/
theorem nf {n o : Nat} {K : V → Prop} (h : K (.ptr n o)) : nckE (.ptr n 0) fun v => faE o v K := by
  show K (.ptr n (0 + o))
  rw [Nat.zero_add]; exact h
theorem fa0 {n o : Nat} {K : V → Prop} (h : K (.ptr n o)) : faE o (.ptr n 0) K := by
  show K (.ptr n (0 + o))
  rw [Nat.zero_add]; exact h
theorem fa_p {n off o : Nat} {K : V → Prop} (h : K (.ptr n (off + o))) : faE o (.ptr n off) K := h
theorem cndT_i {A C : Prop} (h : A) : cnd true A C := h
theorem cndF_i {A C : Prop} (h : C) : cnd false A C := h
theorem ret_i {v : V} {J : Hp} {K Xp : V → Hp → Prop} (h : K v J) : thenR K Xp (.ret v) J := h
theorem one_i {v : V} {A : Prop} (h : oneV v = true) (k : A) : oneE v A := by cases v <;> first | exact k | simp [oneV] at h
theorem bool_i {c : Bool} {K : Bool → Prop} (h : K c) : boolE (.bool c) K := h
theorem str_i {s : List UInt8} {K : List UInt8 → Prop} (h : K s) : strE (.str s) K := h
theorem agg_i {l : List V} {K : List V → Prop} (h : K l) : aggE (.agg l) K := h
theorem tup_i {l : List V} {K : List V → Prop} (h : K l) : tupE (.tuple l) K := h
theorem head_i {c : V} {r : List V} {K : V → List V → Prop} (h : K c r) : headE (c :: r) K := h
theorem end_i {A : Prop} (h : A) : endE [] A := h
/-- A slice that grows, and is written nowhere else. -/
def GS (H : Hp) (χ : Nat → Nat) (i : Nat) (v : V) (sz e : Nat) (l : List V) : Prop :=
  (v = .nilsl ∧ l = []) ∨ (l ≠ [] ∧ ∃ m, v = .osl m sz l ∧ H m = some (.tip (l.length * sz) e) ∧ χ m = i)
theorem GS.nil (H : Hp) (χ : Nat → Nat) (i sz e : Nat) : GS H χ i .nilsl sz e [] := .inl ⟨rfl, rfl⟩
theorem GS.keep {S : Nat → Prop} {H J : Hp} {χ ψ : Nat → Nat} {i sz e : Nat} {v : V} {l : List V} (h : GS H χ i v sz e l) (k : Keep S H J χ ψ) (hi : ¬ S i) : GS J ψ i v sz e l := by
  rcases h with h | ⟨h0, m, h1, h2, h3⟩
  · exact .inl h
  · obtain ⟨k1, k2⟩ := k m _ h2 (by rw [h3]; exact hi)
    exact .inr ⟨h0, m, h1, k1, k2.trans h3⟩
theorem GS.len {H : Hp} {χ : Nat → Nat} {i sz e : Nat} {v : V} {l : List V} (h : GS H χ i v sz e l) {K : Nat → Prop} (k : K l.length) : lenE v K := by
  rcases h with ⟨rfl, rfl⟩ | ⟨_, m, rfl, _⟩
  · exact k
  · exact k
/-- It grows. -/
theorem GS.app {H : Hp} {χ : Nat → Nat} {i sz e : Nat} {v : V} {l new : List V} {K : V → Hp → Prop} (h : GS H χ i v sz e l) (hc : Cl H χ) (hn : new ≠ []) (hb : l.length + new.length ≤ 4294967296)
    (k : ∀ m J ψ, GS J ψ i (.osl m sz (l ++ new)) sz e (l ++ new) → Cl J ψ → (∀ S : Nat → Prop, S i → Keep S H J χ ψ) → K (.osl m sz (l ++ new)) J) : appE sz e v new H K := by
  have hne : l ++ new ≠ [] := by simp [hn]
  rcases h with ⟨rfl, rfl⟩ | ⟨h0, m, rfl, h2, h3⟩
  · cases new with
    | nil => exact absurd rfl hn
    | cons a r =>
      refine ⟨by simpa using hb, .inl ?_⟩
      intro m hm
      refine k m _ (paint χ m i) ?_ (hc.new m i _) (fun S hS => Keep.new hm)
      exact .inr ⟨hne, m, rfl, Hp.set_same .., paint_same ..⟩
  · cases new with
    | nil => exact absurd rfl hn
    | cons a r =>
      refine ⟨rfl, hb, h2, ?_⟩
      intro n hm
      refine k n _ (paint χ n i) ?_ ((hc.set m _).new n i _) (fun S hS => (Keep.set h3 hS).trans (Keep.new hm))
      exact .inr ⟨hne, n, rfl, by rw [Hp.set_same, List.length_append], paint_same ..⟩
/-- It grows, or stays. -/
theorem GS.app0 {H : Hp} {χ : Nat → Nat} {i sz e : Nat} {v : V} {l new : List V} {K : V → Hp → Prop} (h : GS H χ i v sz e l) (hc : Cl H χ) (hb : l.length + new.length ≤ 4294967296)
    (k : ∀ v' J ψ, GS J ψ i v' sz e (l ++ new) → Cl J ψ → (∀ S : Nat → Prop, S i → Keep S H J χ ψ) → K v' J) : appE sz e v new H K := by
  cases new with
  | nil =>
    have := k v H χ (by simpa using h) hc (fun S _ => Keep.refl)
    rcases h with ⟨rfl, rfl⟩ | ⟨h0, m, rfl, h2, h3⟩
    · exact this
    · exact ⟨rfl, this⟩
  | cons a r => exact h.app hc (by simp) hb (fun m J ψ hG hC hK => k _ J ψ hG hC hK)
/-- A box of a colour. -/
structure Bx (H : Hp) (χ : Nat → Nat) (i n : Nat) (vs : List V) (t : Nat) : Prop where
  at_ : H n = some (.box vs t)
  col : χ n = i
theorem Bx.keep {S : Nat → Prop} {H J : Hp} {χ ψ : Nat → Nat} {i n t : Nat} {vs : List V} (h : Bx H χ i n vs t) (k : Keep S H J χ ψ) (hi : ¬ S i) : Bx J ψ i n vs t := by
  obtain ⟨k1, k2⟩ := k n _ h.at_ (by rw [h.col]; exact hi)
  exact ⟨k1, k2.trans h.col⟩
theorem Bx.ld {H : Hp} {χ : Nat → Nat} {i n t off : Nat} {vs : List V} (h : Bx H χ i n vs t) {v : V} {K : V → Prop} (hv : vs[off]? = some v) (k : K v) : ldE false 1 (.ptr n off) H K := by
  rw [ldE_box h.at_]
  show optP _ K
  rw [hv]
  exact k
theorem Bx.st {H : Hp} {χ : Nat → Nat} {i n t off : Nat} {vs : List V} (h : Bx H χ i n vs t) (hc : Cl H χ) {v : V} {K : Hp → Prop} (hv : off < vs.length) (h1 : oneV v = true)
    (k : ∀ J, Bx J χ i n (vs.set off v) t → Cl J χ → (∀ S : Nat → Prop, S i → Keep S H J χ χ) → K J) : stE (.ptr n off) [v] H K := by
  rw [stE_box h.at_]
  have e : putRange vs off [v] = vs.set off v := by
    unfold putRange
    rw [List.set_eq_take_append_cons_drop, if_pos hv]
    simp
  refine ⟨by simp; omega, by simp [h1], k _ ⟨by rw [Hp.set_same, e], h.col⟩ (Cl.set hc n _) (fun S hS => Keep.set h.col hS)⟩
/-- A new box, filled. -/
theorem newBox {H : Hp} {χ : Nat → Nat} {vs zs : List V} {t i : Nat} {K : Nat → Hp → Prop} (hc : Cl H χ) (hl : zs.length = vs.length) (ho : vs.all oneV = true)
    (k : ∀ a J ψ, Bx J ψ i a vs t → Cl J ψ → (∀ S : Nat → Prop, Keep S H J χ ψ) → K a J) : newE H (.box zs t) fun a J => stE (.ptr a 0) vs J fun J2 => K a J2 := by
  intro a ha
  rw [stE_box (Hp.set_same ..)]
  have e : putRange zs 0 vs = vs := by
    unfold putRange
    rw [List.drop_eq_nil_of_le (by omega)]; simp
  refine ⟨by omega, ho, ?_⟩
  rw [e]
  refine k a _ (paint χ a i) ⟨Hp.set_same .., paint_same ..⟩ (fun m hm => ?_) (fun S m o hm hS => ?_)
  · have hma : m ≠ a := by rintro rfl; rw [Hp.set_same] at hm; cases hm
    rw [Hp.set_ne _ _ hma, Hp.set_ne _ _ hma] at hm
    rw [paint_ne _ _ hma]; exact hc m hm
  · have hma : m ≠ a := by rintro rfl; rw [ha] at hm; cases hm
    rw [Hp.set_ne _ _ hma, Hp.set_ne _ _ hma, paint_ne _ _ hma]; exact ⟨hm, rfl⟩
/-- A new box. -/
theorem newB {H : Hp} {χ : Nat → Nat} {vs : List V} {t : Nat} (i : Nat) {K : Nat → Hp → Prop} (hc : Cl H χ)
    (k : ∀ a J ψ, Bx J ψ i a vs t → Cl J ψ → (∀ S : Nat → Prop, Keep S H J χ ψ) → K a J) : newE H (.box vs t) K := by
  intro a ha
  exact k a _ (paint χ a i) ⟨Hp.set_same .., paint_same ..⟩ (hc.new a i _) (fun S => Keep.new ha)
/-- A new object that nobody looks at. -/
theorem newX {H : Hp} {χ : Nat → Nat} {o : O} {K : Nat → Hp → Prop} (hc : Cl H χ) (k : ∀ a J, Cl J χ → (∀ S : Nat → Prop, Keep S H J χ χ) → K a J) : newE H o K := by
  intro a ha
  exact k a _ (Cl.set hc a o) (fun S => Keep.ext ((Ext.refl H).set ha))
theorem Bx.ldw {H : Hp} {χ : Nat → Nat} {i n t k : Nat} {vs : List V} (h : Bx H χ i n vs t) (hl : vs.length = k) {K : V → Prop} (hk : K (.agg vs)) : ldE true k (.ptr n 0) H K := by
  rw [ldE_box h.at_]
  subst hl
  unfold partE
  simp only
  rw [show Nat.ble (0 + vs.length) vs.length = true from by rw [Nat.zero_add]; exact Nat.ble_eq_true_of_le (Nat.le_refl _)]
  show K (.agg ((vs.drop 0).take vs.length))
  rw [List.drop_zero, List.take_of_length_le (Nat.le_refl _)]
  exact hk
theorem Bx.stw {H : Hp} {χ : Nat → Nat} {i n t : Nat} {vs cs : List V} (h : Bx H χ i n vs t) (hc : Cl H χ) {K : Hp → Prop} (hl : cs.length = vs.length) (ho : cs.all oneV = true)
    (k : ∀ J, Bx J χ i n cs t → Cl J χ → (∀ S : Nat → Prop, S i → Keep S H J χ χ) → K J) : stE (.ptr n 0) cs H K := by
  rw [stE_box h.at_]
  have e : putRange vs 0 cs = cs := by
    unfold putRange
    rw [List.drop_eq_nil_of_le (by omega)]; simp
  refine ⟨by omega, ho, ?_⟩
  rw [e]
  exact k _ ⟨Hp.set_same .., h.col⟩ (Cl.set hc n _) (fun S hS => Keep.set h.col hS)
/-- Of a colouring without colours: what is kept, is all that was there. -/
def noCol : Nat → Nat := fun _ => 0
theorem Cl.none (H : Hp) : Cl H noCol := fun _ _ => rfl
theorem Keep.toExt {S : Nat → Prop} {H J : Hp} {ψ : Nat → Nat} (h : Keep S H J noCol ψ) (h0 : ¬ S 0) : Ext H J := fun n o hn => (h n o hn h0).1
/-! maps -/
theorem find_filter {α : Type} (p q : α → Bool) (h : ∀ x, p x = true → q x = true) : ∀ l : List α, (l.filter q).find? p = l.find? p
  | [] => rfl
  | x :: r => by
    by_cases hp : p x = true
    · simp [List.filter_cons, h x hp, List.find?_cons, hp]
    · have hp : p x = false := by simpa using hp
      by_cases hq : q x = true
      · simp [List.filter_cons, hq, List.find?_cons, hp, find_filter p q h r]
      · simp [List.filter_cons, hq, List.find?_cons, hp, find_filter p q h r]
theorem getK_insK_same (k : List UInt8) (v : V) : ∀ es : List (List UInt8 × V), (∀ e ∈ es, e.1 ≠ k) → getK k (insK k v es) = some v
  | [], _ => by simp [insK, getK]
  | e :: r, h => by
    unfold insK
    split
    · simp [getK]
    · have h0 : (e.1 == k) = false := by simpa using h e (by simp)
      have := getK_insK_same k v r (fun x hx => h x (List.mem_cons_of_mem _ hx))
      unfold getK at this ⊢
      rw [List.find?_cons, h0]; exact this
theorem getK_insK_ne {k q : List UInt8} (hq : q ≠ k) (v : V) : ∀ es : List (List UInt8 × V), getK q (insK k v es) = getK q es
  | [] => by simp [insK, getK, Ne.symm hq]
  | e :: r => by
    unfold insK
    split
    · have : (k == q) = false := by simpa using Ne.symm hq
      simp [getK, List.find?_cons, this]
    · have := getK_insK_ne hq v r
      unfold getK at this ⊢
      rw [List.find?_cons, List.find?_cons]
      cases e.1 == q with
      | true => rfl
      | false => exact this
theorem getK_putK (k q : List UInt8) (v : V) (es : List (List UInt8 × V)) : getK q (putK k v es) = if q = k then some v else getK q es := by
  unfold putK
  split
  · rename_i h; subst h
    exact getK_insK_same _ v _ (fun e he => by unfold delK at he; have := (List.mem_filter.1 he).2; simpa using this)
  · rename_i h
    rw [getK_insK_ne h]
    unfold getK delK
    rw [find_filter]
    intro x hx
    have : x.1 = q := by simpa using hx
    simp [this, h]
/-- What stands in a map, a zero where nothing does. -/
def MapIs (es : List (List UInt8 × V)) (z : V) (f : List UInt8 → V) : Prop := ∀ k, (getK k es).getD z = f k
theorem MapIs.nil (z : V) : MapIs [] z (fun _ => z) := fun k => rfl
theorem MapIs.put {es : List (List UInt8 × V)} {z : V} {f g : List UInt8 → V} (h : MapIs es z f) (k : List UInt8) (v : V) (hg : ∀ q, g q = if q = k then v else f q) : MapIs (putK k v es) z g := fun q => by
  rw [getK_putK, hg]
  split
  · rfl
  · exact h q
structure Mp (H : Hp) (χ : Nat → Nat) (i n : Nat) (z : V) (f : List UInt8 → V) : Prop where
  ex : ∃ st es, H n = some (.map st es) ∧ MapIs es z f
  col : χ n = i
theorem Mp.keep {S : Nat → Prop} {H J : Hp} {χ ψ : Nat → Nat} {i n : Nat} {z : V} {f : List UInt8 → V} (h : Mp H χ i n z f) (k : Keep S H J χ ψ) (hi : ¬ S i) : Mp J ψ i n z f := by
  obtain ⟨st, es, h1, h2⟩ := h.ex
  obtain ⟨k1, k2⟩ := k n _ h1 (by rw [h.col]; exact hi)
  exact ⟨⟨st, es, k1, h2⟩, k2.trans h.col⟩
theorem Mp.lk {H : Hp} {χ : Nat → Nat} {i n : Nat} {z : V} {f : List UInt8 → V} (h : Mp H χ i n z f) (q : List UInt8) {K : V → Bool → Prop} (k : ∀ b, K (f q) b) : lkE (.map n) q z H K := by
  obtain ⟨st, es, h1, h2⟩ := h.ex
  have := h2 q
  unfold lkE mapE
  simp only [h1]
  cases hg : getK q es with
  | none => rw [hg] at this; rw [show z = f q from this]; exact k false
  | some v => rw [hg] at this; rw [show v = f q from this]; exact k true
theorem Mp.up {H : Hp} {χ : Nat → Nat} {i n : Nat} {z : V} {f : List UInt8 → V} (h : Mp H χ i n z f) (hc : Cl H χ) (q : List UInt8) (v : V) (g : List UInt8 → V) (hg : ∀ r, g r = if r = q then v else f r) {K : Hp → Prop}
    (k : ∀ J, Mp J χ i n z g → Cl J χ → (∀ S : Nat → Prop, S i → Keep S H J χ χ) → K J) : upE (.map n) H (putK q v) K := by
  obtain ⟨st, es, h1, h2⟩ := h.ex
  unfold upE
  simp only [h1]
  exact k _ ⟨⟨st, _, Hp.set_same .., h2.put q v hg⟩, h.col⟩ (Cl.set hc n _) (fun S hS => Keep.set h.col hS)
theorem Mp.ent {H : Hp} {χ : Nat → Nat} {i n : Nat} {z : V} {f : List UInt8 → V} (h : Mp H χ i n z f) (hc : Cl H χ) (q : List UInt8) {K : V → Nat → Hp → Prop}
    (k : ∀ J, Mp J χ i n z f → Cl J χ → (∀ S : Nat → Prop, S i → Keep S H J χ χ) → K (f q) n J) : entE (.map n) q z H K := by
  obtain ⟨st, es, h1, h2⟩ := h.ex
  have := h2 q
  unfold entE
  simp only [h1]
  cases hg : getK q es with
  | none =>
    rw [hg] at this
    have hz : z = f q := this
    simp only
    rw [show K z = K (f q) from by rw [← hz]]
    refine k _ ⟨⟨true, _, Hp.set_same .., h2.put q z (fun r => ?_)⟩, h.col⟩ (Cl.set hc n _) (fun S hS => Keep.set h.col hS)
    split
    · rename_i hr; rw [hr, hz]
    · rfl
  | some v =>
    rw [hg] at this
    simp only
    rw [show v = f q from this]
    exact k _ ⟨⟨true, es, Hp.set_same .., h2⟩, h.col⟩ (Cl.set hc n _) (fun S hS => Keep.set h.col hS)
theorem Mp.es {H : Hp} {χ : Nat → Nat} {i n : Nat} {z : V} {f : List UInt8 → V} (h : Mp H χ i n z f) (hc : Cl H χ) (q : List UInt8) (v : V) (g : List UInt8 → V) (hg : ∀ r, g r = if r = q then v else f r) {K : Hp → Prop}
    (k : ∀ J, Mp J χ i n z g → Cl J χ → (∀ S : Nat → Prop, S i → Keep S H J χ χ) → K J) : esE (.map n) (.stamp n q) v H K := by
  obtain ⟨st, es, h1, h2⟩ := h.ex
  unfold esE
  simp only [h1]
  exact ⟨trivial, k _ ⟨⟨st, _, Hp.set_same .., h2.put q v hg⟩, h.col⟩ (Cl.set hc n _) (fun S hS => Keep.set h.col hS)⟩
theorem newM {H : Hp} {χ : Nat → Nat} {st : Bool} (i : Nat) (z : V) {K : Nat → Hp → Prop} (hc : Cl H χ)
    (k : ∀ a J ψ, Mp J ψ i a z (fun _ => z) → Cl J ψ → (∀ S : Nat → Prop, Keep S H J χ ψ) → K a J) : newE H (.map st []) K := by
  intro a ha
  exact k a _ (paint χ a i) ⟨⟨st, [], Hp.set_same .., MapIs.nil z⟩, paint_same ..⟩ (hc.new a i _) (fun S => Keep.new ha)
/-- A struct out of a slice that stands for ever. -/
theorem idx_ag {sz i : Nat} {l cs : List V} {H : Hp} {K : V → Prop} (h : l[i]? = some (.agg cs)) (hl : cs.length = sz) (k : K (.agg cs)) : idxE sz (.vsl sz l) (i : Int) fun p => ldE true sz p H K := by
  refine idx_vsl h ?_
  show partE true sz cs 0 K
  subst hl
  unfold partE
  simp only
  rw [show Nat.ble (0 + cs.length) cs.length = true from by rw [Nat.zero_add]; exact Nat.ble_eq_true_of_le (Nat.le_refl _)]
  show K (.agg ((cs.drop 0).take cs.length))
  rw [List.drop_zero, List.take_of_length_le (Nat.le_refl _)]
  exact k
/-- What stands for more values may stand in an argument's place. -/
theorem Ac.sub {X : Cx} {f : FuncId} {a a' : List V} {H : Hp} {Q : Rs → Hp → Prop} (h : ∀ E l, VRs E a l → VRs E a' l) (k : Ac X f a' H Q) : Ac X f a H Q := fun E w c hW hv => k E w c hW (h E _ hv)
theorem vr_osl {E : Env} {n sz : Nat} {l l' : List V} {v : Value} (h : VR E (.osl n sz l) v) (hl : ∀ m, VRs E l m → VRs E l' m) : VR E (.vsl sz l') v := by
  simp only [VR] at h ⊢
  obtain ⟨b, N, c, vals, rfl, h1, h2, h3, _⟩ := h
  exact ⟨_, c, vals, rfl, h1, (fun h => by cases h), h2, hl _ h3⟩
theorem vr_nil {E : Env} {sz : Nat} {v : Value} (h : VR E .nilsl v) : VR E (.vsl sz []) v := by
  simp only [VR] at h ⊢
  subst h
  exact ⟨none, 0, [], rfl, Nat.le_refl _, fun _ => rfl, ⟨by simp, fun h => absurd rfl h⟩, VRs_nil⟩
theorem vr_agg {E : Env} {l l' : List V} {v : Value} (hl : ∀ m, VRs E l m → VRs E l' m) (h : VR E (.agg l) v) : VR E (.agg l') v := by
  simp only [VR] at h ⊢
  obtain ⟨cs, rfl, h⟩ := h
  exact ⟨cs, rfl, hl _ h⟩
theorem vrs_sub {E : Env} {a a' : V} {r r' : List V} (h : ∀ v, VR E a v → VR E a' v) (k : ∀ m, VRs E r m → VRs E r' m) : ∀ m, VRs E (a :: r) m → VRs E (a' :: r') m := by
  intro m hm
  simp only [VRs] at hm
  obtain ⟨x, m', rfl, h1, h2⟩ := hm
  exact VRs_cons (h x h1) (k m' h2)
end Go.Proofs.Ytmpheeanjjfddaa.S
