/- The law's small functions. -/
import Derived.Test.YtmpheeanjjfddaaURef6
import Derived.Test.YtmpheeanjjfddaaUPrg5
import Derived.Test.YtmpheeanjjfddaaSU4
namespace Go.Proofs.Ytmpheeanjjfddaa.S
open Go Go.RowKit Go.Proofs Go.Proofs.Ytmpheeanjjfddaa.SM Go.Proofs.Ytmpheeanjjfddaa.Upd
set_option linter.unusedVariables false
set_option linter.unusedSimpArgs false
set_option maxRecDepth 100000
/-- A slice of pairs, as it may be read. -/
structure PV (H : Hp) (v : V) (l : List (Bs × Bs)) : Prop where
  len : ∀ K : Nat → Prop, K l.length → lenE v K
  at_ : ∀ (i : Nat) (h : i < l.length) (K : V → Prop), K (prV l[i]) → idxE 2 v (i : Int) fun p => ldE true 2 p H K
theorem GS.pv {H : Hp} {χ : Nat → Nat} {i e : Nat} {v : V} {l : List (Bs × Bs)} (h : GS H χ i v 2 e (l.map prV)) : PV H v l := by
  rcases h with ⟨rfl, h0⟩ | ⟨_, m, rfl, _⟩
  · rw [List.map_eq_nil_iff.1 h0]
    exact ⟨fun K k => k, fun i hi => by simp at hi⟩
  · exact ⟨fun K k => by show K (l.map prV).length; simpa using k, fun i hi K k => idx_osl (x := prV l[i]) (by simp [hi]) k⟩
section
variable {b : Nat} {w0 : World} {H : Hp}
theorem eqS_spec (x y : List Bs) (vx vy : V) (hx : x.length ≤ 4294967295) (hX : TV H vx x) (hY : TV H vy y) : Ac (cx b w0) 14 [vx, vy] H (fun r J => r = .ret (.bool (decide (x = y))) ∧ J = H) := by
  refine slices_Equal__string_string.s b w0 _ _ H _ ?_
  refine hX.len _ (hY.len _ ?_)
  rw [show (decide (((x.length : Int) : Int) = (y.length : Int))) = decide (x.length = y.length) from decide_eq_decide.2 (by omega), cnd_not]
  refine cnd_dec (fun hl => hX.len _ ?_) (fun hl => ⟨by rw [decide_eq_false]; intro h; exact hl (congrArg _ h), rfl⟩)
  have key : ∀ i, i ≤ x.length → x.take i = y.take i → slices_Equal__string_string.l4 b w0 vx vy (x.length : Int) (i : Int) H (fun r J => r = .ret (.bool (decide (x = y))) ∧ J = H) := by
    refine upto ?_ ?_
    · intro ht
      refine slices_Equal__string_string.l4s _ _ _ _ _ _ _ _ (cnd_dec (fun h => by omega) (fun _ => ⟨?_, rfl⟩))
      rw [List.take_of_length_le (by omega), List.take_of_length_le (by omega)] at ht
      simp [ht]
    · intro i hi ih ht
      refine slices_Equal__string_string.l4s _ _ _ _ _ _ _ _ (cnd_dec (fun _ => ?_) (fun h => by omega))
      refine hX.at_ i hi _ (str_i (hY.at_ i (by omega) _ (str_i ?_)))
      rw [cnd_not]
      refine cnd_dec (fun he => ?_) (fun hne => ⟨?_, rfl⟩)
      · rw [wrap1 i (by omega)]
        refine ih ?_
        rw [List.take_succ_eq_append_getElem hi, List.take_succ_eq_append_getElem (by omega), ht, he]
      · rw [decide_eq_false]
        rintro rfl
        exact hne rfl
  exact key 0 (Nat.zero_le _) rfl
theorem eqP_spec (x y : List (Bs × Bs)) (vx vy : V) (hx : x.length ≤ 4294967295) (hX : PV H vx x) (hY : PV H vy y) : Ac (cx b w0) 15 [vx, vy] H (fun r J => r = .ret (.bool (decide (x = y))) ∧ J = H) := by
  refine slices_Equal_2_string_2_string.s b w0 _ _ H _ ?_
  refine hX.len _ (hY.len _ ?_)
  rw [show (decide (((x.length : Int) : Int) = (y.length : Int))) = decide (x.length = y.length) from decide_eq_decide.2 (by omega), cnd_not]
  refine cnd_dec (fun hl => hX.len _ ?_) (fun hl => ⟨by rw [decide_eq_false]; intro h; exact hl (congrArg _ h), rfl⟩)
  have key : ∀ i, i ≤ x.length → x.take i = y.take i → slices_Equal_2_string_2_string.l4 b w0 vx vy (x.length : Int) (i : Int) H (fun r J => r = .ret (.bool (decide (x = y))) ∧ J = H) := by
    refine upto ?_ ?_
    · intro ht
      refine slices_Equal_2_string_2_string.l4s _ _ _ _ _ _ _ _ (cnd_dec (fun h => by omega) (fun _ => ⟨?_, rfl⟩))
      rw [List.take_of_length_le (by omega), List.take_of_length_le (by omega)] at ht
      simp [ht]
    · intro i hi ih ht
      refine slices_Equal_2_string_2_string.l4s _ _ _ _ _ _ _ _ (cnd_dec (fun _ => ?_) (fun h => by omega))
      refine hX.at_ i hi _ (open2 (hY.at_ i (by omega) _ (open2 ?_)))
      rw [show (decide (x[i].1 = y[i].1) && (decide (x[i].2 = y[i].2) && true)) = decide (x[i] = y[i]) from by
        rw [Bool.and_true, ← Bool.decide_and]
        exact decide_eq_decide.2 (Prod.ext_iff (x := x[i]) (y := y[i])).symm, cnd_not]
      refine cnd_dec (fun he => ?_) (fun hne => ⟨?_, rfl⟩)
      · rw [wrap1 i (by omega)]
        refine ih ?_
        rw [List.take_succ_eq_append_getElem hi, List.take_succ_eq_append_getElem (by omega), ht, he]
      · rw [decide_eq_false]
        rintro rfl
        exact hne rfl
  exact key 0 (Nat.zero_le _) rfl
end
/-- An item, as it is handed in. -/
structure AI where
  path : Bs
  needs : List Bs
  order : List Bs
  rule : Bool
  recipe : Bool
  phony : Bool
  time : Int
  fails : Bool
  writes : Bool
def clip (n : Int) : Int := if (if (1000 : Int) < n then 1000 else n) < 0 then 0 else (if (1000 : Int) < n then 1000 else n)
theorem clip_nat (n : Int) : ∃ k : Nat, clip n = (k : Int) ∧ k ≤ 1000 := by
  refine ⟨(clip n).toNat, ?_, ?_⟩ <;> unfold clip <;> split <;> split <;> omega
def toIt (x : AI) : It := ⟨x.path, x.needs, x.order, x.rule, x.recipe, x.phony, (clip x.time).toNat, x.fails, x.writes⟩
def aiV (x : AI) : V := .agg [.str x.path, strs x.needs, strs x.order, .bool x.rule, .bool x.recipe, .bool x.phony, .int .i64 x.time, .bool x.fails, .bool x.writes]
def ofL (acc : List It) : List AI → List It
  | [] => acc
  | x :: r => ofL (if x.path ∈ acc.map It.path then acc else acc ++ [toIt x]) r
theorem openI {a1 : List UInt8} {v2 v3 : V} {b4 b5 b6 : Bool} {n7 : Int} {b8 b9 : Bool} {K : List UInt8 → V → V → Bool → Bool → Bool → Int → Bool → Bool → Prop} (k : K a1 v2 v3 b4 b5 b6 n7 b8 b9) :
    aggE (.agg [.str a1, v2, v3, .bool b4, .bool b5, .bool b6, .int .i64 n7, .bool b8, .bool b9]) fun l_219 => headE l_219 fun c_220 r_221 => strE c_220 fun s_222 => headE r_221 fun c_223 r_224 => headE r_224 fun c_225 r_226 => headE r_226 fun c_227 r_228 => boolE c_227 fun b_229 => headE r_228 fun c_230 r_231 => boolE c_230 fun b_232 => headE r_231 fun c_233 r_234 => boolE c_233 fun b_235 => headE r_234 fun c_236 r_237 => intK .i64 c_236 fun n_238 => headE r_237 fun c_239 r_240 => boolE c_239 fun b_241 => headE r_240 fun c_242 r_243 => boolE c_242 fun b_244 => endE r_243 (K s_222 c_223 c_225 b_229 b_232 b_235 n_238 b_241 b_244) := by
  simp only [aggE, headE, strE, boolE, intK, endE, decide_true]
  exact k
section
variable {b : Nat} {w0 : World} {q D : Nat} {H : Hp} {χ : Nat → Nat}
/-- A world under way. -/
structure OW (H0 : Hp) (χ0 : Nat → Nat) (q D n : Nat) (J : Hp) (ψ : Nat → Nat) (l : List It) : Prop where
  ex : ∃ nL t, Bx J ψ q n [lV nL l, .int .i64 1000, .nilsl, .nilsl, .nilsl, .nilsl, .nilsl] t ∧ (l ≠ [] → ∃ extra, J nL = some (.row (l.flatMap itV ++ extra) 48) ∧ ψ nL = q + 1)
  cl : Cl J ψ
  keep : Keep (fun c => c = q ∨ c = q + 1 ∨ c = D) H0 J χ0 ψ
theorem OW.more {S : Nat → Prop} {H0 : Hp} {χ0 : Nat → Nat} {n : Nat} {J J' : Hp} {ψ φ : Nat → Nat} {l : List It} (h : OW H0 χ0 q D n J ψ l) (k : Keep S J J' ψ φ) (hc : Cl J' φ) (h0 : ¬ S q) (h1 : ¬ S (q + 1)) (hS : ∀ c, S c → c = D) : OW H0 χ0 q D n J' φ l := by
  obtain ⟨nL, t, hB, hr⟩ := h.ex
  refine ⟨⟨nL, t, hB.keep k h0, fun hne => ?_⟩, hc, h.keep.trans (k.mono (fun c hc => .inr (.inr (hS c hc))))⟩
  obtain ⟨e, h2, h3⟩ := hr hne
  obtain ⟨k1, k2⟩ := k _ _ h2 (by rw [h3]; exact h1)
  exact ⟨e, k1, k2.trans h3⟩
theorem oneV_lV (nL : Nat) (l : List It) : oneV (lV nL l) = true := by cases l <;> rfl
theorem app_lV {J : Hp} {ψ : Nat → Nat} {nL i : Nat} {l : List It} {x : It} {K : V → Hp → Prop} (hr : l ≠ [] → ∃ extra, J nL = some (.row (l.flatMap itV ++ extra) 48) ∧ ψ nL = i) (hc : Cl J ψ) (hl : l.length ≤ 4294967290)
    (k : ∀ m J' φ, (∃ extra, J' m = some (.row ((l ++ [x]).flatMap itV ++ extra) 48) ∧ φ m = i) → Cl J' φ → (∀ S : Nat → Prop, S i → Keep S J J' ψ φ) → K (lV m (l ++ [x])) J') : appE 9 48 (lV nL l) [.agg (itV x)] J K := by
  cases l with
  | nil =>
    refine ⟨by simp, .inr ⟨⟨rfl, rfl⟩, ?_⟩⟩
    intro m hm
    exact k m _ (paint ψ m i) ⟨[], by rw [Hp.set_same]; rfl, paint_same ..⟩ (hc.new m i _) (fun S hS => Keep.new hm)
  | cons y r =>
    obtain ⟨extra, h1, h2⟩ := hr (by simp)
    refine ⟨rfl, by simp at hl ⊢; omega, rfl, rfl, _, h1, by rw [List.length_append, flat_len]; omega, ?_⟩
    intro m hm
    have := k m ((J.set nL .dead).set m (.row (((y :: r).flatMap itV ++ extra).take ((y :: r).length * 9) ++ rowCells [.agg (itV x)]) 48)) (paint ψ m i) ⟨[], by
      rw [Hp.set_same, List.take_append_of_le_length (by rw [flat_len]; exact Nat.le_refl _), List.take_of_length_le (by rw [flat_len]; exact Nat.le_refl _), List.append_nil, List.flatMap_append]
      rfl, paint_same ..⟩ ((Cl.set hc _ _).new m i _) (fun S hS => (Keep.set h2 hS).trans (Keep.new hm))
    have e : lV m (y :: r ++ [x]) = .sl m 0 ((y :: r).length + 1) 9 := by simp [lV]
    rw [e] at this
    exact this
theorem OW.wl {H0 : Hp} {χ0 : Nat → Nat} {n : Nat} {J : Hp} {ψ : Nat → Nat} {l : List It} (h : OW H0 χ0 q D n J ψ l) : ∃ nL, WL J n nL l := by
  obtain ⟨nL, t, hB, hr⟩ := h.ex
  exact ⟨nL, ⟨_, t, hB.at_⟩, fun hne => by obtain ⟨e, h1, _⟩ := hr hne; exact ⟨e, _, h1⟩⟩
theorem ofL_len (l : List AI) : ∀ acc, (ofL acc l).length ≤ acc.length + l.length := by
  induction l with
  | nil => intro acc; simp [ofL]
  | cons x r ih =>
    intro acc
    unfold ofL
    split
    · have := ih acc; simp only [List.length_cons]; omega
    · have := ih (acc ++ [toIt x]); simp only [List.length_cons, List.length_append, List.length_nil] at this ⊢; omega
theorem ofL_nodup (l : List AI) : ∀ acc, (acc.map It.path).Nodup → ((ofL acc l).map It.path).Nodup := by
  induction l with
  | nil => intro acc h; exact h
  | cons x r ih =>
    intro acc h
    unfold ofL
    split
    · exact ih acc h
    · rename_i hx
      refine ih _ ?_
      rw [List.map_append, List.nodup_append]
      exact ⟨h, by simp, fun a ha c hc => by simp [toIt] at hc; subst hc; rintro rfl; exact hx ha⟩
theorem ofL_time (l : List AI) : ∀ acc, (∀ x ∈ acc, x.time ≤ 1000) → ∀ x ∈ ofL acc l, x.time ≤ 1000 := by
  induction l with
  | nil => intro acc h; exact h
  | cons x r ih =>
    intro acc h
    unfold ofL
    split
    · exact ih acc h
    · refine ih _ (fun y hy => ?_)
      rcases List.mem_append.1 hy with hy | hy
      · exact h y hy
      · simp at hy; subst hy
        obtain ⟨k, hk, hl⟩ := clip_nat x.time
        show (clip x.time).toNat ≤ 1000
        rw [hk]; simpa using hl
theorem restL_app (b d : List Bs) (l m : List It) : restL b d (l ++ m) = restL b d l + restL b d m := by
  induction l with
  | nil => simp [restL]
  | cons x r ih => simp only [List.cons_append, restL, ih]; omega
theorem of_spec (l : List AI) (hl : l.length ≤ 1000) (hc : Cl H χ) (hD : q + 1 < D) : Ac (cx b w0) 10 [.vsl 9 (l.map aiV)] H (fun r J => ∃ n nL ψ, r = .ret (.ptr n 0) ∧ WS J ψ q n nL (ofL [] l) 1000 [.nilsl, .nilsl, .nilsl, .nilsl, .nilsl] ∧ Keep (fun c => c = q ∨ c = q + 1 ∨ c = D) H J χ ψ) := by
  refine flatironlaw18_of.s b w0 _ H _ ?_
  refine newB q hc ?_
  intro n J1 ψ1 hB1 cl1 k1
  show flatironlaw18_of.l3 b w0 (.ptr n 0) _ ((l.map aiV).length : Int) 0 J1 _
  rw [List.length_map]
  have key : ∀ i, i ≤ l.length → ∀ J ψ acc, OW H χ q D n J ψ acc → acc.length ≤ i → ofL acc (l.drop i) = ofL [] l → flatironlaw18_of.l3 b w0 (.ptr n 0) (.vsl 9 (l.map aiV)) (l.length : Int) (i : Int) J (fun r J => ∃ n nL ψ, r = .ret (.ptr n 0) ∧ WS J ψ q n nL (ofL [] l) 1000 [.nilsl, .nilsl, .nilsl, .nilsl, .nilsl] ∧ Keep (fun c => c = q ∨ c = q + 1 ∨ c = D) H J χ ψ) := by
    refine upto ?_ ?_
    · intro J ψ acc h ha ho
      rw [List.drop_eq_nil_of_le (Nat.le_refl _)] at ho
      have ho : acc = ofL [] l := ho
      subst ho
      refine flatironlaw18_of.l3s _ _ _ _ _ _ _ _ (cnd_dec (fun h => by omega) (fun _ => ?_))
      obtain ⟨nL, t, hB, hr⟩ := h.ex
      exact ⟨n, nL, ψ, rfl, ⟨⟨t, hB⟩, fun hne => by obtain ⟨e, h1, h2⟩ := hr hne; exact ⟨e, _, h1, h2⟩, h.cl⟩, h.keep⟩
    · intro i hi ih J ψ acc h ha ho
      refine flatironlaw18_of.l3s _ _ _ _ _ _ _ _ (cnd_dec (fun _ => ?_) (fun h => by omega))
      rw [List.drop_eq_getElem_cons hi] at ho
      rw [show ofL acc (l[i] :: l.drop (i + 1)) = ofL (if l[i].path ∈ acc.map It.path then acc else acc ++ [toIt l[i]]) (l.drop (i + 1)) from rfl] at ho
      generalize hx : l[i] = x at ho
      refine idx_ag (show (l.map aiV)[i]? = some (aiV x) by simp [hi, hx]) rfl ?_
      refine openI (newBox (i := D) h.cl rfl rfl ?_)
      intro a J2 ψ2 hB2 cl2 k2
      have h2 := h.more (k2 (fun _ => False)) cl2 id id (fun _ h => h.elim)
      refine hB2.ld rfl (str_i ?_)
      obtain ⟨nL, hW⟩ := h2.wl
      refine (at_spec b w0 n nL acc (by omega) x.path J2 hW).mono ?_
      rintro r J3 ⟨rfl, rfl⟩
      refine ret_i (intK_i ?_)
      rw [wrap1 i (by omega)]
      have hin : place acc x.path < 0 ↔ x.path ∉ acc.map It.path := by
        unfold place
        cases hf : acc.findIdx? fun y => decide (y.path = x.path) with
        | none =>
          rw [List.findIdx?_eq_none_iff] at hf
          refine ⟨fun _ hm => ?_, fun _ => by simp⟩
          obtain ⟨y, hy, he⟩ := List.mem_map.1 hm
          have := hf y hy
          simp [he] at this
        | some j =>
          obtain ⟨hj, h1, _⟩ := List.findIdx?_eq_some_iff_getElem.1 hf
          refine ⟨fun h => by simp at h; omega, fun h => absurd (List.mem_map.2 ⟨acc[j], List.getElem_mem _, by simpa using h1⟩) h⟩
      refine cnd_dec (fun hlt => ?_) (fun hge => ?_)
      · rw [if_neg (hin.1 hlt)] at ho
        refine hB2.ld rfl (intK_i ?_)
        refine hB2.st (off := 0 + 6) cl2 (by simp) rfl ?_
        intro J4 hB4 cl4 k4
        have h4 := h2.more (k4 (fun c => c = D) rfl) cl4 (by omega) (by omega) (fun _ h => h)
        obtain ⟨nL, t, hB, hr⟩ := h4.ex
        refine nf (hB.ld rfl (hB4.ldw rfl (openI ?_)))
        refine one_i rfl (one_i rfl (newX cl4 ?_))
        intro a3 J5 cl5 k5
        refine ⟨(hB.keep (k5 (fun _ => False)) id).ld rfl rfl, ?_⟩
        obtain ⟨kt, hkt, hkl⟩ := clip_nat x.time
        have hit : itV (toIt x) = [.str x.path, strs x.needs, strs x.order, .bool x.rule, .bool x.recipe, .bool x.phony, .int .i64 (clip x.time), .bool x.fails, .bool x.writes] := by
          unfold itV toIt
          simp only
          rw [hkt, Int.toNat_natCast]
        rw [show (V.int .i64 (if (if (1000 : Int) < x.time then 1000 else x.time) < 0 then 0 else (if (1000 : Int) < x.time then 1000 else x.time))) = V.int .i64 (clip x.time) from rfl, ← hit]
        refine app_lV (i := q + 1) (fun hne => by obtain ⟨e, g1, g2⟩ := hr hne; exact ⟨e, (k5 (fun _ => False) _ _ g1 id).1, g2⟩) cl5 (by omega) ?_
        intro m J6 φ hr6 cl6 k6
        have k46 : Keep (fun c => c = q + 1) J4 J6 ψ2 φ := (k5 _).trans (k6 _ rfl)
        refine nf (one_i (oneV_lV _ _) ((hB.keep k46 (by omega)).st cl6 (by simp) (oneV_lV _ _) ?_))
        intro J7 hB7 cl7 k7
        refine ih J7 φ (acc ++ [toIt x]) ⟨⟨m, t, hB7, fun _ => ?_⟩, cl7, h4.keep.trans ((k46.mono (fun c h => by omega)).trans (k7 _ (.inl rfl)))⟩ (by simp; omega) ho
        obtain ⟨e, g1, g2⟩ := hr6
        obtain ⟨q1, q2⟩ := k7 (fun c => c = q) rfl _ _ g1 (by rw [g2]; omega)
        exact ⟨e, q1, q2.trans g2⟩
      · rw [if_pos (Classical.not_not.1 (fun hn => hge (hin.2 hn)))] at ho
        exact ih J3 ψ2 acc h2 (by omega) ho
  exact key 0 (Nat.zero_le _) J1 ψ1 [] ⟨⟨0, _, hB1, fun h => absurd rfl h⟩, cl1, k1 _⟩ (by simp) (by simp)
def wtA (x : AI) : Nat := 1 + x.needs.length + x.order.length
def sumW (l : List AI) : Nat := (l.map wtA).sum
theorem ofL_rest (l : List AI) : ∀ acc, restL [] [] (ofL acc l) ≤ restL [] [] acc + sumW l := by
  induction l with
  | nil => intro acc; simp [ofL]
  | cons x r ih =>
    intro acc
    unfold ofL
    have e : sumW (x :: r) = wtA x + sumW r := by simp [sumW]
    split
    · have := ih acc; omega
    · have := ih (acc ++ [toIt x])
      rw [restL_app] at this
      have e2 : restL [] [] [toIt x] ≤ wtA x := by simp [restL, wt, wtA, toIt]; try omega
      omega
theorem small_spec (l : List AI) (gs : List Bs) (hl : l.length ≤ 4294967295) (hs : gs.length + sumW l ≤ 4294967295) : Ac (cx b w0) 9 [.vsl 9 (l.map aiV), strs gs] H (fun r J => r = .ret (.bool (decide (gs.length + sumW l ≤ 200))) ∧ Ext H J) := by
  refine flatironlaw18_small.s b w0 _ _ H _ ?_
  refine (TV.vsl H gs).len _ ?_
  show flatironlaw18_small.l3 b w0 (gs.length : Int) _ ((l.map aiV).length : Int) 0 H _
  rw [List.length_map]
  have key : ∀ i, i ≤ l.length → ∀ J n, Ext H J → n + sumW (l.drop i) = gs.length + sumW l → flatironlaw18_small.l3 b w0 (n : Int) (.vsl 9 (l.map aiV)) (l.length : Int) (i : Int) J (fun r J => r = .ret (.bool (decide (gs.length + sumW l ≤ 200))) ∧ Ext H J) := by
    refine upto ?_ ?_
    · intro J n he hn
      rw [List.drop_eq_nil_of_le (Nat.le_refl _)] at hn
      refine flatironlaw18_small.l3s _ _ _ _ _ _ _ _ (cnd_dec (fun h => by omega) (fun _ => ⟨?_, he⟩))
      have : n = gs.length + sumW l := by simpa [sumW] using hn
      rw [← this]
      congr 2
      exact decide_eq_decide.2 (by omega)
    · intro i hi ih J n he hn
      refine flatironlaw18_small.l3s _ _ _ _ _ _ _ _ (cnd_dec (fun _ => ?_) (fun h => by omega))
      rw [List.drop_eq_getElem_cons hi] at hn
      refine idx_ag (show (l.map aiV)[i]? = some (aiV l[i]) by simp [hi]) rfl ?_
      refine openI (newBox (i := 1) (Cl.none J) rfl rfl ?_)
      intro a J2 ψ2 hB2 cl2 k2
      refine hB2.ld rfl ((TV.vsl J2 _).len _ (hB2.ld rfl ((TV.vsl J2 _).len _ ?_)))
      have hw : wtA l[i] + sumW (l.drop (i + 1)) = sumW (l[i] :: l.drop (i + 1)) := by unfold sumW; rw [List.map_cons, List.sum_cons]
      have e : IntKind.i64.wrap ((n : Int) + IntKind.i64.wrap (IntKind.i64.wrap (1 + (l[i].needs.length : Int)) + (l[i].order.length : Int))) = ((n + wtA l[i] : Nat) : Int) := by
        unfold wtA at *
        rw [show (1 + (l[i].needs.length : Int)) = ((1 + l[i].needs.length : Nat) : Int) from by omega, wrap_nat _ (by omega), show (((1 + l[i].needs.length : Nat) : Int) + (l[i].order.length : Int)) = ((1 + l[i].needs.length + l[i].order.length : Nat) : Int) from by omega, wrap_nat _ (by omega),
          show ((n : Int) + ((1 + l[i].needs.length + l[i].order.length : Nat) : Int)) = ((n + (1 + l[i].needs.length + l[i].order.length) : Nat) : Int) from by omega, wrap_nat _ (by omega)]
      rw [e, wrap1 i (by omega)]
      exact ih J2 (n + wtA l[i]) (he.trans ((k2 (fun _ => False)).toExt id)) (by omega)
  exact key 0 (Nat.zero_le _) H gs.length (Ext.refl H) (by simp)
end
end Go.Proofs.Ytmpheeanjjfddaa.S
