/- Words for proofs in the machine's terms. -/
import Derived.Test.YtmpheeanjjfddaaSBase
namespace Go.Proofs.Ytmpheeanjjfddaa.S
open Go Go.RowKit Go.Proofs.Ytmpheeanjjfddaa.SM
set_option linter.unusedVariables false
set_option linter.unusedSimpArgs false

theorem wrap_nat (n : Nat) (h : n < 4611686018427387904) : IntKind.i64.wrap (n : Int) = n := by
  simp [IntKind.wrap, IntKind.bits, IntKind.signed]; omega
theorem wrap_id (n : Int) (h0 : -4611686018427387904 < n) (h : n < 4611686018427387904) : IntKind.i64.wrap n = n := by
  simp [IntKind.wrap, IntKind.bits, IntKind.signed]; omega
theorem wrap_u8 (n : Int) (h0 : 0 ≤ n) (h : n < 256) : IntKind.u8.wrap n = n := by
  simp [IntKind.wrap, IntKind.bits, IntKind.signed]; omega
theorem cndT {A C : Prop} : cnd true A C = A := rfl
theorem cndF {A C : Prop} : cnd false A C = C := rfl
theorem cnd_dec {p : Prop} [Decidable p] {A C : Prop} (h : p → A) (k : ¬ p → C) : cnd (decide p) A C := by
  by_cases hp : p
  · simp only [hp, decide_true, cndT]; exact h hp
  · simp only [hp, decide_false, cndF]; exact k hp
theorem cnd_of {b : Bool} {A C : Prop} (h : b = true → A) (k : b = false → C) : cnd b A C := by cases b; exact k rfl; exact h rfl
theorem cnd_not {b : Bool} {A C : Prop} : cnd (!b) A C = cnd b C A := by cases b <;> rfl
/-- Texts as a slice. -/
abbrev strs (l : List (List UInt8)) : V := .vsl 1 (l.map .str)
theorem ldE_box {ag : Bool} {k n off : Nat} {H : Hp} {vs : List V} {t : Nat} {K : V → Prop} (h : H n = some (.box vs t)) : ldE ag k (.ptr n off) H K = partE ag k vs off K := by simp only [ldE, h]
theorem ldE_row {ag : Bool} {k n off : Nat} {H : Hp} {vs : List V} {t : Nat} {K : V → Prop} (h : H n = some (.row vs t)) : ldE ag k (.ptr n off) H K = partE ag k vs off K := by simp only [ldE, h]
theorem stE_box {n off : Nat} {H : Hp} {vs cs : List V} {t : Nat} {K : Hp → Prop} (h : H n = some (.box vs t)) : stE (.ptr n off) cs H K = (off + cs.length ≤ vs.length ∧ cs.all oneV = true ∧ K (H.set n (.box (putRange vs off cs) t))) := by simp only [stE, h]
theorem stE_row {n off : Nat} {H : Hp} {vs cs : List V} {t : Nat} {K : Hp → Prop} (h : H n = some (.row vs t)) : stE (.ptr n off) cs H K = (off + cs.length ≤ vs.length ∧ cs.all oneV = true ∧ K (H.set n (.row (putRange vs off cs) t))) := by simp only [stE, h]
/-- An element of a slice that stands for ever. -/
theorem idx_vsl {sz i : Nat} {l : List V} {K : V → Prop} {x : V} (h : l[i]? = some x) (k : elemE x fun cs => K (.vptr cs)) : idxE sz (.vsl sz l) (i : Int) K :=
  ⟨rfl, by omega, by rw [Int.toNat_natCast, h]; exact k⟩
theorem idx_osl {sz i n : Nat} {l : List V} {K : V → Prop} {x : V} (h : l[i]? = some x) (k : elemE x fun cs => K (.vptr cs)) : idxE sz (.osl n sz l) (i : Int) K :=
  ⟨rfl, by omega, by rw [Int.toNat_natCast, h]; exact k⟩
theorem idx_strs {i : Nat} {l : List (List UInt8)} {K : V → Prop} (h : i < l.length) (k : K (.vptr [.str l[i]])) : idxE 1 (strs l) (i : Int) K :=
  idx_vsl (x := .str l[i]) (by simp [h]) k
/-- Of a call: what it does. -/
theorem Ac.post {X : Cx} {f : FuncId} {args : List V} {H : Hp} {Q R : Rs → Hp → Prop} (h : Ac X f args H Q) (k : ∀ r J, Q r J → R r J) : Ac X f args H R := h.mono k
/-- A call that answers, and leaves what was there. -/
def Ans (r0 : V) (H : Hp) : Rs → Hp → Prop := fun r J => r = .ret r0 ∧ Ext H J
theorem ans_then {X : Cx} {f : FuncId} {args : List V} {H : Hp} {r0 : V} {K Xp : V → Hp → Prop} (h : Ac X f args H (Ans r0 H)) (k : ∀ J, Ext H J → K r0 J) : Ac X f args H (thenR K Xp) := by
  refine h.mono ?_
  rintro r J ⟨rfl, he⟩
  exact k J he
/-- Rounds over the places of a list, from its end backwards. -/
theorem upto {n : Nat} {P : Nat → Prop} (hend : P n) (hstep : ∀ i, i < n → P (i + 1) → P i) : ∀ i, i ≤ n → P i := by
  intro i hi
  obtain ⟨d, hd⟩ : ∃ d, d = n - i := ⟨_, rfl⟩
  induction d generalizing i with
  | zero => have : i = n := by omega
            exact this ▸ hend
  | succ d ih => exact hstep i (by omega) (ih (i + 1) (by omega) (by omega))
end Go.Proofs.Ytmpheeanjjfddaa.S
