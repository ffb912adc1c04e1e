/- The reference's small functions. -/
import Derived.Test.YtmpheeanjjfddaaSU1
import Derived.Test.YtmpheeanjjfddaaSLib
import Derived.Test.YtmpheeanjjfddaaUTotal
namespace Go.Proofs.Ytmpheeanjjfddaa.S
open Go Go.RowKit Go.Proofs Go.Proofs.Ytmpheeanjjfddaa.SM Go.Proofs.Ytmpheeanjjfddaa.Upd
set_option linter.unusedVariables false
set_option linter.unusedSimpArgs false
def itV (x : It) : List V := [.str x.path, strs x.needs, strs x.order, .bool x.rule, .bool x.recipe, .bool x.phony, .int .i64 (x.time : Int), .bool x.fails, .bool x.writes]
def lV (nL : Nat) : List It → V
  | [] => .nilsl
  | x :: r => .sl nL 0 (x :: r).length 9
/-- A told world's items. -/
structure WL (H : Hp) (n nL : Nat) (l : List It) : Prop where
  box : ∃ cs t, H n = some (.box (lV nL l :: cs) t)
  row : l ≠ [] → ∃ extra t, H nL = some (.row (l.flatMap itV ++ extra) t)
theorem lenE_lV {nL : Nat} {l : List It} {K : Nat → Prop} (h : K l.length) : lenE (lV nL l) K := by
  cases l <;> exact h
theorem itV_len (x : It) : (itV x).length = 9 := rfl
theorem flat_len : ∀ l : List It, (l.flatMap itV).length = l.length * 9
  | [] => rfl
  | x :: r => by simp [itV_len, flat_len r]; omega
theorem flat_drop : ∀ (l : List It) (i : Nat) (h : i < l.length), (l.flatMap itV).drop (i * 9) = itV l[i] ++ (l.drop (i + 1)).flatMap itV
  | x :: r, 0, h => by simp
  | x :: r, i + 1, h => by
    have e : (i + 1) * 9 = (itV x).length + i * 9 := by rw [itV_len]; omega
    rw [List.flatMap_cons, e, List.drop_append, show (itV x).length + i * 9 - (itV x).length = i * 9 from by omega, flat_drop r i (by simpa using h), List.drop_eq_nil_of_le (by omega)]
    simp
theorem idx_lV {nL i : Nat} {l : List It} {K : V → Prop} (h : i < l.length) (k : K (.ptr nL (0 + i * 9))) : idxE 9 (lV nL l) (i : Int) K := by
  cases l with
  | nil => simp at h
  | cons x r =>
    refine ⟨rfl, by omega, by simp only [List.length_cons] at h ⊢; omega, ?_⟩
    rw [Int.toNat_natCast]; exact k
theorem row_part {H : Hp} {n nL : Nat} {l : List It} (hW : WL H n nL l) {i j : Nat} (h : i < l.length) (hj : j < 9) {K : V → Prop} (k : K ((itV l[i]).getD j .any)) : ldE false 1 (.ptr nL (0 + i * 9 + j)) H K := by
  obtain ⟨extra, t, hr⟩ := hW.row (by rintro rfl; simp at h)
  rw [ldE_row hr]
  have hg : (l.flatMap itV ++ extra)[0 + i * 9 + j]? = (itV l[i])[j]? := by
    have h1 : (l.flatMap itV ++ extra)[0 + i * 9 + j]? = ((l.flatMap itV).drop (i * 9))[j]? := by
      rw [List.getElem?_append_left (by rw [flat_len]; omega), List.getElem?_drop]
      congr 1; omega
    rw [h1, flat_drop l i h, List.getElem?_append_left (by rw [itV_len]; exact hj)]
  have hs : (itV l[i])[j]? = some ((itV l[i]).getD j .any) := by
    simp only [List.getD]
    rw [List.getElem?_eq_getElem (by rw [itV_len]; exact hj)]
    rfl
  show optP _ K
  rw [hg, hs]
  exact k
theorem ld_box {H : Hp} {n off t : Nat} {vs : List V} {v : V} {K : V → Prop} (h : H n = some (.box vs t)) (hv : vs[off]? = some v) (k : K v) : ldE false 1 (.ptr n off) H K := by
  rw [ldE_box h]
  show optP _ K
  rw [hv]
  exact k
/-- The place of a path's item. -/
def place (l : List It) (p : Bs) : Int := match l.findIdx? fun x => decide (x.path = p) with
  | some i => i
  | none => -1
theorem at_spec (b : Nat) (w0 : World) (n nL : Nat) (l : List It) (hl : l.length ≤ 1000) (p : Bs) (H : Hp) (hW : WL H n nL l) : Ac (cx b w0) 39 [.ptr n 0, .str p] H (fun r J => r = .ret (.int .i64 (place l p)) ∧ J = H) := by
  refine flatironref18_At.s b w0 _ _ H _ ?_
  show flatironref18_At.l2 ..
  obtain ⟨cs, t, hb⟩ := hW.box
  have key : ∀ i, i ≤ l.length → (∀ x ∈ l.take i, x.path ≠ p) → flatironref18_At.l2 b w0 (.ptr n 0) p (i : Int) H (fun r J => r = .ret (.int .i64 (place l p)) ∧ J = H) := by
    refine upto ?_ ?_
    · intro hno
      refine flatironref18_At.l2s _ _ _ _ _ _ _ ?_
      show ldE _ _ (.ptr n (0 + 0)) H _
      refine ld_box hb rfl (lenE_lV ?_)
      refine cnd_dec (fun h => by omega) fun _ => ⟨?_, rfl⟩
      rw [List.take_of_length_le (Nat.le_refl _)] at hno
      have : l.findIdx? (fun x => decide (x.path = p)) = none := by
        rw [List.findIdx?_eq_none_iff]
        intro x hx
        simpa using hno x hx
      simp only [place, this]
    · intro i hi ih hno
      refine flatironref18_At.l2s _ _ _ _ _ _ _ ?_
      show ldE _ _ (.ptr n (0 + 0)) H _
      refine ld_box hb rfl (lenE_lV ?_)
      refine cnd_dec (fun _ => ?_) (fun h => by omega)
      show ldE _ _ (.ptr n (0 + 0)) H _
      refine ld_box hb rfl (idx_lV hi ?_)
      refine row_part hW hi (j := 0) (by omega) ?_
      show cnd (decide (l[i].path = p)) _ _
      refine cnd_dec (fun he => ⟨?_, rfl⟩) (fun hne => ?_)
      · have : l.findIdx? (fun x => decide (x.path = p)) = some i := by
          rw [List.findIdx?_eq_some_iff_getElem]
          refine ⟨hi, by simpa using he, fun j hj => ?_⟩
          have := hno l[j] (List.mem_take_iff_getElem.2 ⟨j, by omega, rfl⟩)
          simpa using this
        simp only [place, this]
      · rw [show ((i : Int) + 1) = ((i + 1 : Nat) : Int) from rfl, wrap_nat _ (by omega)]
        refine ih ?_
        intro x hx
        rw [List.take_succ_eq_append_getElem hi] at hx
        rcases List.mem_append.1 hx with hx | hx
        · exact hno x hx
        · simp at hx; subst hx; exact hne
  exact key 0 (Nat.zero_le _) (by simp)
/-- A slice of texts, as it may be read. -/
structure TV (H : Hp) (v : V) (l : List Bs) : Prop where
  len : ∀ K : Nat → Prop, K l.length → lenE v K
  at_ : ∀ (i : Nat) (h : i < l.length) (K : V → Prop), K (.str l[i]) → idxE 1 v (i : Int) fun p => ldE false 1 p H K
theorem TV.nil (H : Hp) : TV H .nilsl [] := ⟨fun K h => h, fun i h => by simp at h⟩
theorem TV.vsl (H : Hp) (l : List Bs) : TV H (strs l) l := ⟨fun K h => by simpa [lenE] using h, fun i h K k => idx_strs h k⟩
theorem TV.osl (H : Hp) (n : Nat) (l : List Bs) : TV H (.osl n 1 (l.map .str)) l := ⟨fun K h => by simpa [lenE] using h, fun i h K k => idx_osl (x := .str l[i]) (by simp [h]) k⟩
theorem has_spec (b : Nat) (w0 : World) (v : V) (l : List Bs) (hl : l.length ≤ 4294967296) (p : Bs) (H : Hp) (hv : TV H v l) : Ac (cx b w0) 72 [v, .str p] H (fun r J => r = .ret (.bool (decide (p ∈ l))) ∧ J = H) := by
  refine flatironref18_Has.s b w0 _ _ H _ ?_
  show flatironref18_Has.l2 ..
  have key : ∀ i, i ≤ l.length → p ∉ l.take i → flatironref18_Has.l2 b w0 v p (i : Int) H (fun r J => r = .ret (.bool (decide (p ∈ l))) ∧ J = H) := by
    refine upto ?_ ?_
    · intro hno
      refine flatironref18_Has.l2s _ _ _ _ _ _ _ ?_
      refine hv.len _ ?_
      refine cnd_dec (fun h => by omega) fun _ => ⟨?_, rfl⟩
      rw [List.take_of_length_le (Nat.le_refl _)] at hno
      simp [hno]
    · intro i hi ih hno
      refine flatironref18_Has.l2s _ _ _ _ _ _ _ ?_
      refine hv.len _ ?_
      refine cnd_dec (fun _ => ?_) (fun h => by omega)
      refine hv.at_ i hi _ ?_
      refine cnd_dec (fun he => ⟨?_, rfl⟩) (fun hne => ?_)
      · have : p ∈ l := by rw [← he]; exact List.getElem_mem _
        simp [this]
      · rw [show ((i : Int) + 1) = ((i + 1 : Nat) : Int) from rfl, wrap_nat _ (by omega)]
        refine ih ?_
        rw [List.take_succ_eq_append_getElem hi]
        simp only [List.mem_append, List.mem_singleton, not_or]
        exact ⟨hno, fun h => hne h.symm⟩
  exact key 0 (Nat.zero_le _) (by simp)
end Go.Proofs.Ytmpheeanjjfddaa.S
