/- package path and its reference, over this print; glob.Path and its reference: part by part; plain Lean. -/
import Derived.Test.YtgpabkdmagifjaaDoorPGlobD
import Derived.Test.YtgpabkdmagifjaaDoorHParts
namespace Go.Proofs.YtgpabkdmagifjaaDoor.X
open Go.RowKit Go.Proofs.YtgpabkdmagifjaaDoorW.PrintWords Go.Proofs.YtgpabkdmagifjaaDoorW.PrintLast Go.Proofs.YtgpabkdmagifjaaDoorW.PrintMore Go.Proofs.YtgpabkdmagifjaaDoor.XW02
set_option linter.unusedSimpArgs false
set_option linter.unusedVariables false


/-- A text between slashes; cur: what of the first piece is read. -/
def segA (cur : List UInt8) : List UInt8 → List (List UInt8)
  | [] => [cur]
  | b :: l => if b = 47 then cur :: segA [] l else segA (cur ++ [b]) l
theorem segA_nil (cur : List UInt8) : segA cur [] = [cur] := rfl
theorem segA_cons (cur : List UInt8) (b : UInt8) (l : List UInt8) : segA cur (b :: l) = if b = 47 then cur :: segA [] l else segA (cur ++ [b]) l := rfl
def keepP (x : List UInt8) : Bool := !(decide (x = []) || decide (x = [46]))
def partsS (l : List UInt8) : List (List UInt8) := (segA [] l).filter keepP

theorem index_cons (b : UInt8) (l : List UInt8) : Lib.index (b :: l) [47] = if b = 47 then 0 else if Lib.index l [47] = -1 then -1 else Lib.index l [47] + 1 := by
  rw [Lib.index]
  by_cases h : b = 47
  · subst h; simp [List.isPrefixOf]
  · have h1 : (([47] : List UInt8).isPrefixOf (b :: l)) = false := by simp [List.isPrefixOf, Ne.symm h]
    rw [h1, if_neg h]; simp
theorem segA_index (l : List UInt8) : ∀ cur, (Lib.index l [47] = -1 ∧ segA cur l = [cur ++ l]) ∨ ∃ i : Nat, Lib.index l [47] = (i : Int) ∧ i < l.length ∧ segA cur l = (cur ++ l.take i) :: segA [] (l.drop (i + 1)) := by
  induction l with
  | nil => intro cur; left; exact ⟨rfl, by simp [segA]⟩
  | cons b l ih =>
    intro cur
    rw [index_cons, segA_cons]
    by_cases h : b = 47
    · right; exact ⟨0, by rw [if_pos h]; rfl, by simp, by rw [if_pos h]; simp⟩
    · rw [if_neg h, if_neg h]
      rcases ih (cur ++ [b]) with ⟨h1, h2⟩ | ⟨i, h1, h2, h3⟩
      · left; exact ⟨by rw [if_pos h1], by rw [h2]; simp⟩
      · right; exact ⟨i + 1, by rw [h1, if_neg (by omega)]; omega, by simp; omega, by rw [h3]; simp⟩
theorem splitK_segs : ∀ (k : Nat) (l : List UInt8), Lib.count l [47] = k → Lib.splitK [47] 0 k l = segA [] l := by
  intro k
  induction k with
  | zero =>
    intro l hc
    rcases segA_index l [] with ⟨h1, h2⟩ | ⟨i, h1, h2, h3⟩
    · rw [h2]; rfl
    · rw [Lib.count_hit (by simp) h1] at hc; omega
  | succ k ih =>
    intro l hc
    rcases segA_index l [] with ⟨h1, h2⟩ | ⟨i, h1, h2, h3⟩
    · rw [Lib.count_miss h1] at hc; omega
    · rw [Lib.count_hit (by simp) h1] at hc
      rw [Lib.splitK, if_neg (by rw [h1]; simp), h1, h3, ih _ (by simpa using (show Lib.count (l.drop (i + 1)) [47] = k by have : ([47] : List UInt8).length = 1 := rfl; rw [this] at hc; omega))]
      simp
theorem says_B (x : List UInt8) : says (B x) = !keepP x := by
  unfold says keepP
  rw [B_toList]
  by_cases h : x = [] <;> simp [h]
  by_cases h2 : x = [46] <;> simp [h2]

theorem parts_eq (l : List UInt8) (hl : l.length < 4294967280) : path_parts.f (B l) = some ((partsS l).map B) := by
  have h0 : Lib.countB (B l) ⟨#[47]⟩ ≤ (B l).size := Lib.countB_le ⟨#[47]⟩ (by decide) _ _ (Nat.le_refl _)
  rw [B_size] at h0
  have h1 := Lib.splitB_all ⟨#[47]⟩ (by decide) 0 _ (B l) rfl
  unfold path_parts.f strings_Split.f
  rw [if_pos ⟨by rw [B_size]; omega, by decide, h1, by omega⟩]
  simp only [Option.bind_some]
  have h2 : Lib.splitB ⟨#[47]⟩ 0 (Lib.countB (B l) ⟨#[47]⟩) (B l) = (segA [] l).map B := by
    have e := Lib.splitB_data ⟨#[47]⟩ 0 (Lib.countB (B l) ⟨#[47]⟩) (B l)
    have e3 : Lib.countB (B l) ⟨#[47]⟩ = Lib.count l [47] := by unfold Lib.countB; rw [B_data]
    rw [e3] at e ⊢
    rw [B_data, show ((⟨#[47]⟩ : ByteArray).data.toList) = [47] from rfl, splitK_segs _ l rfl] at e
    rw [← e, List.map_map]
    conv => lhs; rw [← List.map_id (Lib.splitB ⟨#[47]⟩ 0 (Lib.count l [47]) (B l))]
    apply List.map_congr_left
    intro a _
    exact (B_of a).symm
  rw [h2, List.filter_map, partsS]
  congr 2
  apply List.filter_congr
  intro x _
  simp [says_B]

/-- Reference: Split. -/
theorem refSplit_ev (l : List UInt8) (hl : l.length < 4294967280) : Ev (fun k => flatironref01_Split.f k (B l)) ((partsS l).map B) := by
  have key : ∀ i, i ≤ l.length → ∀ (out : List ByteArray) (cur : List UInt8), out.length ≤ i → cur.length ≤ i →
      Ev (fun k => flatironref01_Split.l0 k (B l) out (B cur) (i : Int)) (out ++ ((segA cur (l.drop i)).filter keepP).map B) := by
    have jf : ∀ (i : Nat) (out : List ByteArray) (cur : List UInt8) (r : List ByteArray), i ≤ l.length → out.length ≤ i →
        Ev (fun k => flatironref01_Split.l0 k (B l) (out ++ if keepP cur then [B cur] else []) (B []) ((i + 1 : Nat) : Int)) r →
        Ev (fun k => flatironref01_Split.j1 k (B l) out (B cur) (i : Int) false) r := by
      intro i out cur r hi ho h
      refine Ev.step (fun k => by rw [flatironref01_Split.j1]) ?_
      rw [wrap_succ i (by omega), B_toList, B_nil]
      refine Ev.neg (by simp) (Ev.ite (fun e => ?_) (fun e => Ev.ite (fun e2 => ?_) (fun e2 => ?_)))
      · rw [show keepP cur = false by simp [keepP, e]] at h
        simpa using h
      · rw [show keepP cur = false by simp [keepP, e2]] at h
        simpa using h
      · rw [show keepP cur = true by simp [keepP, e, e2]] at h
        refine Ev.pos (by omega) (by simpa using h)
    refine upto_ind ?_ ?_
    · intro out cur ho hc
      refine Ev.step (fun k => by rw [flatironref01_Split.l0]) ?_
      rw [B_size]
      refine Ev.pos (by omega) (Ev.neg (by omega) ?_)
      refine jf _ _ _ _ (Nat.le_refl _) ho ?_
      refine Ev.step (fun k => by rw [flatironref01_Split.l0]) ?_
      rw [B_size]
      refine Ev.neg (by omega) (Ev.of ?_)
      rw [List.drop_length]
      rw [segA_nil]
      by_cases h : keepP cur <;> simp [h]
    · intro i hi ih out cur ho hc
      refine Ev.step (fun k => by rw [flatironref01_Split.l0]) ?_
      rw [B_size, bt_B l i hi]
      refine Ev.pos (by omega) (Ev.pos (by omega) (Ev.pos (by omega) ?_))
      have hd := drop_get l i hi
      by_cases h : l[i] = 47
      · rw [show (((l[i].toNat : Nat) : Int) != 47) = false by rw [h]; rfl]
        refine jf _ _ _ _ (by omega) ho ?_
        refine Ev.eq (ih _ _ (by split <;> simp <;> omega) (by simp)) ?_
        rw [hd]
        rw [segA_cons, if_pos h, List.append_assoc]
        by_cases hk : keepP cur <;> simp [hk]
      · have hb : (((l[i].toNat : Nat) : Int) != 47) = true := by
          rw [bne_iff_ne]; intro e; exact h (Eq.mp (u8_num l[i] 47 (by decide)) e)
        rw [hb]
        refine Ev.step (fun k => by rw [flatironref01_Split.j1]) ?_
        rw [wrap_succ i (by omega), B_size, B_size, B_extract]
        rw [show ((i : Nat) : Int).toNat = i from by omega, show ((i + 1 : Nat) : Int).toNat = i + 1 from by omega, one_at l i hi, B_append]
        refine Ev.pos rfl (Ev.pos (by omega) (Ev.pos (by omega) (Ev.pos (by omega) (Ev.pos (by omega) ?_))))
        refine Ev.eq (ih _ _ (by omega) (by simp; omega)) ?_
        rw [hd]
        rw [segA_cons, if_neg h]
  exact Ev.congr (fun k => by rw [flatironref01_Split.f]; rfl) (Ev.eq (key 0 (by omega) [] [] (by simp) (by simp)) (by simp [partsS]))

/-- The text of parts. -/
def textS (xs : List (List UInt8)) : List UInt8 := if xs = [] then [46] else Lib.join xs [47]
def szS (xs : List (List UInt8)) : Nat := (xs.map fun x => x.length + 1).sum
theorem szS_nil : szS [] = 0 := rfl
theorem szS_cons (x : List UInt8) (r : List (List UInt8)) : szS (x :: r) = x.length + 1 + szS r := by simp [szS]
theorem szS_append (a b : List (List UInt8)) : szS (a ++ b) = szS a + szS b := by simp [szS]
theorem szS_len (a : List (List UInt8)) : a.length ≤ szS a := by
  induction a with
  | nil => simp
  | cons x r ih => rw [szS_cons, List.length_cons]; omega
theorem szS_take (a : List (List UInt8)) (n : Nat) : szS (a.take n) ≤ szS a := by
  conv => rhs; rw [← List.take_append_drop n a, szS_append]
  omega
theorem szS_filter (p : List UInt8 → Bool) (a : List (List UInt8)) : szS (a.filter p) ≤ szS a := by
  induction a with
  | nil => simp
  | cons x r ih => rw [List.filter_cons, szS_cons]; split <;> (try simp only [szS_cons]) <;> omega
theorem szS_segA (l : List UInt8) : ∀ cur, szS (segA cur l) = cur.length + l.length + 1 := by
  induction l with
  | nil => intro cur; simp [segA, szS]
  | cons b l ih =>
    intro cur
    rw [segA_cons]
    split
    · rw [szS_cons, ih]; simp; omega
    · rw [ih]; simp; omega
theorem szS_parts (l : List UInt8) : szS (partsS l) ≤ l.length + 1 := by
  have := szS_filter keepP (segA [] l)
  rw [szS_segA] at this
  unfold partsS; simpa using this
theorem tail_cons (x : List UInt8) (r : List (List UInt8)) : Lib.joinTail [47] (x :: r) = 47 :: (x ++ Lib.joinTail [47] r) := by simp [Lib.joinTail]
theorem tail_len (r : List (List UInt8)) : (Lib.joinTail [47] r).length = szS r := by
  induction r with
  | nil => rfl
  | cons x r ih => rw [szS_cons, ← ih]; simp [Lib.joinTail]; omega
theorem join_le (xs : List (List UInt8)) : (Lib.join xs [47]).length ≤ szS xs := by
  cases xs with
  | nil => simp [Lib.join_nil]
  | cons x r => rw [Lib.join_cons, List.length_append, tail_len, szS_cons]; omega
theorem text_le (xs : List (List UInt8)) : (textS xs).length ≤ szS xs + 1 := by
  unfold textS
  split
  · simp
  · have := join_le xs; omega

theorem text_eq (xs : List (List UInt8)) (h : szS xs < 140737488355328) : path_text.f (xs.map B) = some (B (textS xs)) := by
  unfold path_text.f textS
  have h1 := szS_len xs
  have h2 := join_le xs
  rw [List.length_map]
  have e : (xs.map B).map (fun x : ByteArray => x.data.toList) = xs := by
    rw [List.map_map]
    conv => rhs; rw [← List.map_id xs]
    apply List.map_congr_left
    intro a _; exact B_data a
  by_cases hx : xs = []
  · rw [if_pos (by simp [hx]), if_pos hx]; rfl
  · have : 0 < xs.length := List.length_pos_iff.2 hx
    rw [if_neg (by omega), if_neg hx]
    unfold strings_Join.f
    rw [List.length_map, e, if_pos ⟨by omega, by show (Lib.join xs [47]).length ≤ _; omega⟩]
    unfold joined
    rw [e]; rfl

theorem refText_ev (xs : List (List UInt8)) (h : szS xs < 140737488355328) (hne : ∀ x ∈ xs, x ≠ []) : Ev (fun k => flatironref01_Text.f k (xs.map B)) (B (textS xs)) := by
  have hl := szS_len xs
  have key : ∀ i, i ≤ xs.length → 0 < i → ∀ cur : List UInt8, cur ≠ [] → cur.length + szS (xs.drop i) < 140737488355328 + 1 →
      Ev (fun k => flatironref01_Text.l0 k (xs.map B) (B cur) (i : Int)) (B (cur ++ Lib.joinTail [47] (xs.drop i))) := by
    refine upto_ind ?_ ?_
    · intro h0 cur hc hs
      refine Ev.step (fun k => by rw [flatironref01_Text.l0]) ?_
      rw [B_toList]
      refine Ev.neg (by simp) (Ev.neg hc (Ev.of ?_))
      simp [Lib.joinTail]
    · intro i hi ih h0 cur hc hs
      refine Ev.step (fun k => by rw [flatironref01_Text.l0]) ?_
      rw [drop_get xs i hi, szS_cons] at hs
      rw [rdOf_get _ _ _ (by simpa using hi), List.getElem_map, wrap_succ i (by omega), B_size, B_size, B_lit [47], B_append, B_append]
      refine Ev.pos (by simp; omega) (Ev.pos (by omega) (Ev.pos (by omega) (Ev.pos (by omega) (Ev.pos (by omega) ?_))))
      refine Ev.eq (ih (by omega) _ (by simp) (by simp; omega)) ?_
      rw [drop_get xs i hi, tail_cons]
      simp
  refine Ev.congr (fun k => by rw [flatironref01_Text.f]) ?_
  cases xs with
  | nil =>
    refine Ev.step (fun k => by rw [flatironref01_Text.l0]) ?_
    refine Ev.neg (by simp) (Ev.pos (by rw [B_nil, B_toList]) (Ev.of ?_))
    rfl
  | cons x r =>
    rw [szS_cons] at h
    refine Ev.step (fun k => by rw [flatironref01_Text.l0]) ?_
    rw [show (0 : Int) = ((0 : Nat) : Int) from rfl, rdOf_get _ _ _ (by simp), wrap_succ 0 (by omega)]
    simp only [List.map_cons, List.getElem_cons_zero]
    rw [B_size, B_nil, B_append]
    refine Ev.pos (by simp <;> omega) (Ev.neg (by omega) (Ev.pos (by omega) (Ev.pos (by rw [B_size]; simp <;> omega) ?_)))
    have := key 1 (by simp) (by omega) ([] ++ x) (by simpa using hne x (by simp)) (by simp; omega)
    simp only [List.map_cons] at this
    refine Ev.eq this ?_
    unfold textS
    rw [if_neg (by simp), Lib.join_cons]; first | done | rfl | simp


/-- Where parts lead, from out. -/
def walkS (out : List (List UInt8)) : List (List UInt8) → Option (List (List UInt8))
  | [] => some out
  | p :: ps => if p = [46, 46] then (if out = [] then none else walkS out.dropLast ps) else walkS (out ++ [p]) ps
theorem walkS_nil (out : List (List UInt8)) : walkS out [] = some out := rfl
theorem walkS_cons (out : List (List UInt8)) (p : List UInt8) (ps : List (List UInt8)) : walkS out (p :: ps) = if p = [46, 46] then (if out = [] then none else walkS out.dropLast ps) else walkS (out ++ [p]) ps := rfl
def joinS (xs : List (List UInt8)) : Option (List (List UInt8)) := walkS [] (xs.flatMap partsS)

theorem szS_dropLast (a : List (List UInt8)) : szS a.dropLast ≤ szS a := by
  rw [List.dropLast_eq_take]; exact szS_take _ _
theorem szS_flat (xs : List (List UInt8)) : szS (xs.flatMap partsS) ≤ szS xs := by
  induction xs with
  | nil => simp
  | cons x r ih => rw [List.flatMap_cons, szS_append, szS_cons]; have := szS_parts x; omega
theorem walkS_sz (ps : List (List UInt8)) : ∀ (out o : List (List UInt8)), walkS out ps = some o → szS o ≤ szS out + szS ps := by
  induction ps with
  | nil => intro out o h; rw [walkS_nil] at h; injection h with h; subst h; omega
  | cons p ps ih =>
    intro out o h
    rw [walkS_cons] at h
    rw [szS_cons]
    split at h
    · split at h
      · simp at h
      · have := ih _ _ h; have := szS_dropLast out; omega
    · have := ih _ _ h; rw [szS_append, szS_cons, szS_nil] at this; omega
/-- What parts of a text are. -/
def goodP (x : List UInt8) : Prop := keepP x = true ∧ (47 : UInt8) ∉ x
theorem goodP_ne {x : List UInt8} (h : goodP x) : x ≠ [] := by
  rintro rfl
  exact absurd h.1 (by decide)
theorem segA_no (l : List UInt8) : ∀ cur, (47 : UInt8) ∉ cur → ∀ x ∈ segA cur l, (47 : UInt8) ∉ x := by
  induction l with
  | nil => intro cur hc x hx; rw [segA_nil, List.mem_singleton] at hx; subst hx; exact hc
  | cons b l ih =>
    intro cur hc x hx
    rw [segA_cons] at hx
    split at hx
    · rcases List.mem_cons.1 hx with rfl | hx
      · exact hc
      · exact ih [] (by simp) x hx
    · rename_i hb
      refine ih (cur ++ [b]) ?_ x hx
      intro hm
      rcases List.mem_append.1 hm with hm | hm
      · exact hc hm
      · exact hb (by simpa using (List.mem_singleton.1 hm).symm)
theorem parts_good (l : List UInt8) : ∀ x ∈ partsS l, goodP x := by
  intro x hx
  unfold partsS at hx
  rw [List.mem_filter] at hx
  exact ⟨hx.2, segA_no l [] (by simp) x hx.1⟩
theorem flat_good (xs : List (List UInt8)) : ∀ x ∈ xs.flatMap partsS, goodP x := by
  intro x hx
  rw [List.mem_flatMap] at hx
  obtain ⟨y, _, hx⟩ := hx
  exact parts_good y x hx
theorem walkS_good (ps : List (List UInt8)) : ∀ (out o : List (List UInt8)), (∀ x ∈ ps, goodP x) → (∀ x ∈ out, goodP x ∧ x ≠ [46, 46]) → walkS out ps = some o → ∀ x ∈ o, goodP x ∧ x ≠ [46, 46] := by
  induction ps with
  | nil => intro out o _ h0 h; rw [walkS_nil] at h; injection h with h; subst h; exact h0
  | cons p ps ih =>
    intro out o hp h0 h
    rw [walkS_cons] at h
    have hp' : ∀ x ∈ ps, goodP x := fun x hx => hp x (by simp [hx])
    split at h
    · split at h
      · simp at h
      · exact ih _ _ hp' (fun x hx => h0 x (List.dropLast_subset _ hx)) h
    · rename_i hne
      refine ih _ _ hp' ?_ h
      intro x hx
      rcases List.mem_append.1 hx with hx | hx
      · exact h0 x hx
      · rw [List.mem_singleton] at hx; subst hx; exact ⟨hp _ (by simp), hne⟩
theorem walkS_plain (ps : List (List UInt8)) : ∀ out, (∀ x ∈ ps, x ≠ [46, 46]) → walkS out ps = some (out ++ ps) := by
  induction ps with
  | nil => intro out _; simp [walkS_nil]
  | cons p ps ih =>
    intro out h
    rw [walkS_cons, if_neg (h p (by simp)), ih _ (fun x hx => h x (by simp [hx]))]
    simp
theorem segA_pass (x l : List UInt8) : ∀ cur, (47 : UInt8) ∉ x → segA cur (x ++ l) = segA (cur ++ x) l := by
  induction x with
  | nil => intro cur _; simp
  | cons b x ih =>
    intro cur h
    rw [List.cons_append, segA_cons, if_neg (fun e => h (by simp [e])), ih _ (fun e => h (by simp [e]))]
    simp
theorem segA_tail (r : List (List UInt8)) : ∀ cur, (∀ x ∈ r, (47 : UInt8) ∉ x) → segA cur (Lib.joinTail [47] r) = cur :: r := by
  induction r with
  | nil => intro cur _; rfl
  | cons y r ih =>
    intro cur h
    rw [tail_cons, segA_cons, if_pos rfl, segA_pass _ _ _ (h y (by simp)), ih _ (fun x hx => h x (by simp [hx]))]
    simp
theorem parts_text (o : List (List UInt8)) (h : ∀ x ∈ o, goodP x) : partsS (textS o) = o := by
  unfold textS partsS
  cases o with
  | nil => rw [if_pos rfl]; decide
  | cons x r =>
    rw [if_neg (by simp), Lib.join_cons, segA_pass _ _ _ (h x (by simp)).2, segA_tail _ _ (fun y hy => (h y (by simp [hy])).2)]
    rw [List.nil_append]
    exact List.filter_eq_self.2 (fun y hy => (h y hy).1)

def resP (o : Option (List (List UInt8))) : ByteArray × Int := match o with | some o => (B (textS o), 0) | none => (B [], 2)
def resR (o : Option (List (List UInt8))) : ByteArray × Bool := match o with | some o => (B (textS o), true) | none => (B [], false)

theorem take_last (out : List (List UInt8)) (h : out ≠ []) : (out.map B).take (((out.length - 1 : Nat) : Int)).toNat = out.dropLast.map B := by
  rw [Int.toNat_natCast, List.dropLast_eq_take, List.map_take]

theorem Join_ev (xs : List (List UInt8)) (hx : ∀ x ∈ xs, x.length < 4294967280) (hs : szS xs < 1099511627776) : Ev (fun k => path_Join.f k (xs.map B)) (resP (joinS xs)) := by
  have hl := szS_len xs
  have inner : ∀ (i : Nat) (rest : List (List UInt8)), i < xs.length →
      (∀ out, szS out + szS rest < 1099511627776 → Ev (fun k => path_Join.l0 k (out.map B) (xs.map B) (xs.length : Int) ((i + 1 : Nat) : Int)) (resP (walkS out rest))) →
      ∀ ps : List (List UInt8), ps.length < 1099511627776 → ∀ j, j ≤ ps.length → ∀ out, szS out + szS (ps.drop j) + szS rest < 1099511627776 →
        Ev (fun k => path_Join.l1 k (out.map B) (xs.map B) (xs.length : Int) (i : Int) (ps.map B) (ps.length : Int) (j : Int)) (resP (walkS out (ps.drop j ++ rest))) := by
    intro i rest hi hr ps hps
    refine upto_ind ?_ ?_
    · intro out ho
      refine Ev.step (fun k => by rw [path_Join.l1]) ?_
      rw [wrap_succ i (by omega)]
      rw [List.drop_length, szS_nil] at ho
      refine Ev.neg (by omega) ?_
      rw [List.drop_length, List.nil_append]
      exact hr out (by omega)
    · intro j hj ih out ho
      refine Ev.step (fun k => by rw [path_Join.l1]) ?_
      rw [drop_get ps j hj, szS_cons] at ho
      have h1 := szS_len out
      rw [List.length_map, List.length_map, rdOf_get _ _ _ (by simpa using hj), List.getElem_map, wrap_succ j (by omega), B_toList, drop_get ps j hj, List.cons_append, walkS_cons]
      refine Ev.pos (by omega) (Ev.pos (by omega) (Ev.pos (by omega) (Ev.ite (fun e => ?_) (fun e => ?_))))
      · rw [if_pos e]
        by_cases h0 : out = []
        · rw [if_pos h0]
          subst h0
          exact Ev.pos rfl (Ev.ret _)
        · have : 0 < out.length := List.length_pos_iff.2 h0
          rw [if_neg h0, wrap_pred _ this (by omega), take_last _ h0]
          refine Ev.neg (by omega) (Ev.pos (by omega) (Ev.pos (by omega) ?_))
          refine ih _ ?_
          have := szS_dropLast out
          omega
      · rw [if_neg e]
        refine Ev.pos (by omega) ?_
        have := ih (out ++ [ps[j]]) (by rw [szS_append, szS_cons, szS_nil]; omega)
        rw [List.map_append, List.map_cons, List.map_nil] at this
        exact this
  have key : ∀ i, i ≤ xs.length → ∀ out, szS out + szS ((xs.drop i).flatMap partsS) < 1099511627776 →
      Ev (fun k => path_Join.l0 k (out.map B) (xs.map B) (xs.length : Int) (i : Int)) (resP (walkS out ((xs.drop i).flatMap partsS))) := by
    refine upto_ind ?_ ?_
    · intro out ho
      refine Ev.step (fun k => by rw [path_Join.l0]) ?_
      rw [List.drop_length] at ho ⊢
      refine Ev.neg (by omega) (Ev.bind' (text_eq out (by omega)) (Ev.ret _))
    · intro i hi ih out ho
      refine Ev.step (fun k => by rw [path_Join.l0]) ?_
      rw [drop_get xs i hi, List.flatMap_cons, szS_append] at ho
      rw [List.length_map, rdOf_get _ _ _ (by simpa using hi), List.getElem_map, drop_get xs i hi, List.flatMap_cons]
      refine Ev.pos (by omega) (Ev.pos (by omega) (Ev.pos (by omega) ?_))
      refine Ev.bind' (parts_eq xs[i] (hx _ (List.getElem_mem hi))) ?_
      have h1 := szS_len (partsS xs[i])
      have := inner i ((xs.drop (i + 1)).flatMap partsS) hi (fun out h => ih out h) (partsS xs[i]) (by omega) 0 (by omega) out (by rw [List.drop_zero]; omega)
      rw [List.drop_zero] at this
      rw [List.length_map]
      exact this
  refine Ev.congr (fun k => by rw [path_Join.f, List.length_map]) ?_
  have := key 0 (by omega) [] (by have := szS_flat xs; rw [szS_nil, List.drop_zero]; omega)
  rw [List.drop_zero] at this
  exact this

theorem refJoin_ev (xs : List (List UInt8)) (hx : ∀ x ∈ xs, x.length < 4294967280) (hs : szS xs < 1099511627776) : Ev (fun k => flatironref01_Join.f k (xs.map B)) (resR (joinS xs)) := by
  have hl := szS_len xs
  have inner : ∀ (i : Nat) (rest : List (List UInt8)), i < xs.length →
      (∀ out, szS out + szS rest < 1099511627776 → (∀ x ∈ out, x ≠ []) → Ev (fun k => flatironref01_Join.l0 k (xs.map B) (out.map B) ((i + 1 : Nat) : Int)) (resR (walkS out rest))) →
      ∀ ps : List (List UInt8), ps.length < 1099511627776 → (∀ x ∈ ps, x ≠ []) → ∀ j, j ≤ ps.length → ∀ out, szS out + szS (ps.drop j) + szS rest < 1099511627776 → (∀ x ∈ out, x ≠ []) →
        Ev (fun k => flatironref01_Join.l1 k (xs.map B) (out.map B) (i : Int) (ps.map B) (j : Int)) (resR (walkS out (ps.drop j ++ rest))) := by
    intro i rest hi hr ps hps hpn
    refine upto_ind ?_ ?_
    · intro out ho hn
      refine Ev.step (fun k => by rw [flatironref01_Join.l1]) ?_
      rw [wrap_succ i (by omega), List.length_map]
      rw [List.drop_length, szS_nil] at ho
      refine Ev.neg (by omega) ?_
      rw [List.drop_length, List.nil_append]
      exact hr out (by omega) hn
    · intro j hj ih out ho hn
      refine Ev.step (fun k => by rw [flatironref01_Join.l1]) ?_
      rw [drop_get ps j hj, szS_cons] at ho
      have h1 := szS_len out
      rw [List.length_map, List.length_map, rdOf_get _ _ _ (by simpa using hj), List.getElem_map, wrap_succ j (by omega), B_toList, drop_get ps j hj, List.cons_append, walkS_cons]
      refine Ev.pos (by omega) (Ev.pos (by omega) (Ev.ite (fun e => ?_) (fun e => ?_)))
      · rw [if_pos e]
        by_cases h0 : out = []
        · rw [if_pos h0]
          subst h0
          exact Ev.pos rfl (Ev.ret _)
        · have : 0 < out.length := List.length_pos_iff.2 h0
          rw [if_neg h0, wrap_pred _ this (by omega), take_last _ h0]
          refine Ev.neg (by omega) (Ev.pos (by omega) (Ev.pos (by omega) ?_))
          refine ih _ ?_ (fun x hx => hn x (List.dropLast_subset _ hx))
          have := szS_dropLast out
          omega
      · rw [if_neg e]
        refine Ev.pos (by omega) ?_
        have := ih (out ++ [ps[j]]) (by rw [szS_append, szS_cons, szS_nil]; omega) (by
          intro x hx
          rcases List.mem_append.1 hx with hx | hx
          · exact hn x hx
          · rw [List.mem_singleton] at hx; subst hx; exact hpn _ (List.getElem_mem hj))
        rw [List.map_append, List.map_cons, List.map_nil] at this
        exact this
  have key : ∀ i, i ≤ xs.length → ∀ out, szS out + szS ((xs.drop i).flatMap partsS) < 1099511627776 → (∀ x ∈ out, x ≠ []) →
      Ev (fun k => flatironref01_Join.l0 k (xs.map B) (out.map B) (i : Int)) (resR (walkS out ((xs.drop i).flatMap partsS))) := by
    refine upto_ind ?_ ?_
    · intro out ho hn
      refine Ev.step (fun k => by rw [flatironref01_Join.l0]) ?_
      rw [List.drop_length] at ho ⊢
      rw [List.length_map]
      refine Ev.neg (by omega) (Ev.bind (refText_ev out (by omega) hn) (Ev.ret _))
    · intro i hi ih out ho hn
      refine Ev.step (fun k => by rw [flatironref01_Join.l0]) ?_
      rw [drop_get xs i hi, List.flatMap_cons, szS_append] at ho
      rw [List.length_map, rdOf_get _ _ _ (by simpa using hi), List.getElem_map, drop_get xs i hi, List.flatMap_cons]
      refine Ev.pos (by omega) (Ev.pos (by omega) ?_)
      refine Ev.bind (refSplit_ev xs[i] (hx _ (List.getElem_mem hi))) ?_
      have h1 := szS_len (partsS xs[i])
      have := inner i ((xs.drop (i + 1)).flatMap partsS) hi (fun out h h' => ih out h h') (partsS xs[i]) (by omega) (fun x hx => goodP_ne (parts_good _ x hx)) 0 (by omega) out (by rw [List.drop_zero]; omega) hn
      rw [List.drop_zero] at this
      exact this
  refine Ev.congr (fun k => by rw [flatironref01_Join.f]) ?_
  have := key 0 (by omega) [] (by have := szS_flat xs; rw [szS_nil, List.drop_zero]; omega) (by simp)
  rw [List.drop_zero] at this
  exact this

def cleanS (s : List UInt8) : Bool := match joinS [s] with | some o => decide (textS o = s) | none => false
theorem Clean_ev (s : List UInt8) (hs : s.length < 4294967280) : Ev (fun k => path_Clean.f k (B s)) (cleanS s) := by
  refine Ev.congr (fun k => by rw [path_Clean.f]) ?_
  refine Ev.bind (Join_ev [s] (by simpa using hs) (by rw [szS_cons, szS_nil]; omega)) ?_
  unfold cleanS
  cases joinS [s] with
  | none => exact Ev.neg (by simp [resP]) (Ev.ret _)
  | some o =>
    refine Ev.pos rfl (Ev.of ?_)
    show some ((B (textS o)).toList == (B s).toList) = _
    rw [B_toList, B_toList]
    congr 1
    rw [Bool.eq_iff_iff]; simp

theorem split_eq (l : List UInt8) (hl : l.length < 4294967280) : strings_Split.f (B l) (⟨#[47]⟩ : ByteArray) = some ((segA [] l).map B) := by
  have h0 : Lib.countB (B l) ⟨#[47]⟩ ≤ (B l).size := Lib.countB_le ⟨#[47]⟩ (by decide) _ _ (Nat.le_refl _)
  rw [B_size] at h0
  have h1 := Lib.splitB_all ⟨#[47]⟩ (by decide) 0 _ (B l) rfl
  unfold strings_Split.f
  rw [if_pos ⟨by rw [B_size]; omega, by decide, h1, by omega⟩]
  have e := Lib.splitB_data ⟨#[47]⟩ 0 (Lib.countB (B l) ⟨#[47]⟩) (B l)
  have e3 : Lib.countB (B l) ⟨#[47]⟩ = Lib.count l [47] := by unfold Lib.countB; rw [B_data]
  rw [e3] at e ⊢
  rw [B_data, show ((⟨#[47]⟩ : ByteArray).data.toList) = [47] from rfl, splitK_segs _ l rfl] at e
  rw [← e, List.map_map]
  congr 1
  conv => lhs; rw [← List.map_id (Lib.splitB ⟨#[47]⟩ 0 (Lib.count l [47]) (B l))]
  apply List.map_congr_left
  intro a _
  exact (B_of a).symm

/-- Reference: Parts. -/
theorem refParts_ev (l : List UInt8) (hl : l.length < 4294967280) : Ev (fun k => flatironref02_Parts.f k (B l)) ((segA [] l).map B) := by
  have key : ∀ i, i ≤ l.length → ∀ (out : List ByteArray) (cur : List UInt8), out.length ≤ i → cur.length ≤ i →
      Ev (fun k => flatironref02_Parts.l0 k (B l) (out ++ [B cur]) (i : Int)) (out ++ (segA cur (l.drop i)).map B) := by
    refine upto_ind ?_ ?_
    · intro out cur _ _
      refine Ev.step (fun k => by rw [flatironref02_Parts.l0]) ?_
      refine Ev.neg (by rw [B_size]; omega) ?_
      rw [List.drop_length, segA_nil]
      exact Ev.ret _
    · intro i hi ih out cur ho hc
      refine Ev.step (fun k => by rw [flatironref02_Parts.l0]) ?_
      refine Ev.pos (by rw [B_size]; omega) ?_
      refine Ev.pos (by omega) ?_
      have hd := drop_get l i hi
      have hlen : (out ++ [B cur]).length = out.length + 1 := by simp
      refine Ev.iff (show (bt (B l) (i : Int) = 47) = (l[i] = 47) from btEq l i 47 hi (by decide)) ?_ ?_
      · intro h
        refine Ev.pos (by rw [hlen]; omega) ?_
        rw [wrap_succ i (by omega)]
        refine Ev.eq (ih (out ++ [B cur]) [] (by rw [hlen]; omega) (by simp)) ?_
        rw [hd, segA_cons, if_pos h]
        simp
      · intro h
        have w : wrap64 (((out ++ [B cur]).length : Int) - 1) = (out.length : Int) := by rw [hlen]; unfold wrap64; omega
        have hr : rdOf ByteArray.empty (out ++ [B cur]) (out.length : Int) = B cur := by
          rw [rdOf_get _ _ out.length (by rw [hlen]; omega)]; simp
        have hx : (B l).extract (i : Int).toNat (((i + 1 : Nat) : Int)).toNat = B [l[i]] := by
          rw [B_extract]; congr 1; exact one_at l i hi
        rw [w, hr, wrap_succ i (by omega), hx, B_size]
        refine Ev.pos (by first | omega | (simp only [B_size, List.length_cons, List.length_nil, hlen]; omega)) ?_
        refine Ev.pos (by first | omega | (simp only [B_size, List.length_cons, List.length_nil, hlen]; omega)) ?_
        refine Ev.pos (by first | omega | (simp only [B_size, List.length_cons, List.length_nil, hlen]; omega)) ?_
        refine Ev.pos (by first | omega | (simp only [B_size, List.length_cons, List.length_nil, hlen]; omega)) ?_
        refine Ev.pos (by first | omega | (simp only [B_size, List.length_cons, List.length_nil, hlen]; omega)) ?_
        rw [show ((out.length : Int)).toNat = out.length from rfl, List.set_append_right _ _ (Nat.le_refl _), Nat.sub_self, List.set_cons_zero, B_append]
        refine Ev.eq (ih out (cur ++ [l[i]]) (by omega) (by simp; omega)) ?_
        rw [hd, segA_cons, if_neg h]
  refine Ev.congr (fun k => by rw [flatironref02_Parts.f]) ?_
  have := key 0 (by omega) [] [] (by simp) (by simp)
  exact this

/-- Is a part of a pattern's part? -/
def partM (a b : List UInt8) : Bool := (decide (b.head? = some 46) == false || decide (a.head? = some 46)) && mtB (parse a) b
def hid (a b : List UInt8) : Bool := decide (b.head? = some 46) && !decide (a.head? = some 46)
theorem partM_eq (a b : List UInt8) : partM a b = (!hid a b && mtB (parse a) b) := by
  unfold partM hid
  cases decide (b.head? = some 46) <;> cases decide (a.head? = some 46) <;> rfl
def allM (A C : List (List UInt8)) (i : Nat) : Bool := if h : i < A.length ∧ i < C.length then partM (A[i]'h.1) (C[i]'h.2) && allM A C (i + 1) else true
  termination_by A.length - i
theorem allM_end (A C : List (List UInt8)) (i : Nat) (h : A.length ≤ i) : allM A C i = true := by rw [allM, dif_neg (by omega)]
theorem allM_next (A C : List (List UInt8)) (i : Nat) (h : i < A.length) (h' : i < C.length) : allM A C i = (partM A[i] C[i] && allM A C (i + 1)) := by
  conv => lhs; rw [allM, dif_pos ⟨h, h'⟩]
theorem prefix_dot (l : List UInt8) : strings_HasPrefix.f (B l) (⟨#[46]⟩ : ByteArray) = some (decide (l.head? = some 46)) := by
  unfold strings_HasPrefix.f
  rw [B_data]
  exact congrArg some (hasPrefix_one l 46)

theorem seg_small (l : List UInt8) : (segA [] l).length ≤ l.length + 1 ∧ ∀ x ∈ segA [] l, x.length ≤ l.length := by
  have h1 := szS_len (segA [] l)
  have h2 := szS_segA l []
  simp only [List.length_nil, Nat.zero_add] at h2
  refine ⟨by omega, fun x hx => ?_⟩
  have : x.length + 1 ≤ szS (segA [] l) := by
    obtain ⟨a, b, e⟩ := List.append_of_mem hx
    rw [e, szS_append, szS_cons]
    omega
  omega

theorem path_loop (A C : List (List UInt8)) (hl : A.length = C.length) (hA : A.length < 4294967281) (h1 : ∀ x ∈ A, x.length < 4294967281) (h2 : ∀ x ∈ C, x.length < 4294967281) :
    ∀ i, i ≤ A.length → Ev (fun k => glob_Path.l0 k (A.map B) (C.map B) (A.length : Int) (i : Int)) (allM A C i) := by
  refine upto_ind ?_ ?_
  · refine Ev.step (fun k => by rw [glob_Path.l0]) ?_
    refine Ev.neg (by omega) ?_
    rw [allM_end A C _ (Nat.le_refl _)]
    exact Ev.ret _
  · intro i hi ih
    have hi' : i < C.length := by omega
    rw [← wrap_succ i (by omega)] at ih
    have ra : rdOf ByteArray.empty (A.map B) (i : Int) = B A[i] := by rw [rdOf_get _ _ i (by simpa using hi)]; simp
    have rc : rdOf ByteArray.empty (C.map B) (i : Int) = B C[i] := by rw [rdOf_get _ _ i (by simpa using hi')]; simp
    have hm := match_ev A[i] C[i] (h1 _ (List.getElem_mem hi)) (h2 _ (List.getElem_mem hi'))
    refine Ev.step (fun k => by rw [glob_Path.l0]) ?_
    rw [ra, rc, allM_next A C i hi hi', partM_eq]
    refine Ev.pos (by omega) ?_
    refine Ev.pos (by omega) ?_
    refine Ev.pos (by simp; omega) ?_
    refine Ev.bind (Ev.of (prefix_dot C[i])) ?_
    have fin : hid A[i] C[i] = false → Ev (fun k => (glob_Match.f k (B A[i]) (B C[i])).bind fun t => (if t = true then (glob_Path.l0 k (A.map B) (C.map B) (A.length : Int) (wrap64 ((i : Int) + 1))) else (some false))) ((!hid A[i] C[i] && mtB (parse A[i]) C[i]) && allM A C (i + 1)) := by
      intro hh
      rw [hh, Bool.not_false, Bool.true_and]
      refine Ev.bind hm ?_
      refine Ev.ite ?_ ?_
      · intro h; rw [h, Bool.true_and]; exact ih
      · intro h; rw [show mtB (parse A[i]) C[i] = false by simpa using h]; exact Ev.ret _
    by_cases hc : C[i].head? = some 46
    · rw [decide_eq_true hc]
      refine Ev.pos rfl ?_
      refine Ev.pos (by simp; omega) ?_
      refine Ev.bind (Ev.of (prefix_dot A[i])) ?_
      by_cases ha : A[i].head? = some 46
      · rw [decide_eq_true ha]
        refine Ev.pos rfl ?_
        exact fin (by simp [hid, ha])
      · rw [decide_eq_false ha]
        refine Ev.neg (by simp) ?_
        refine Ev.eq (Ev.ret _) ?_
        simp [hid, ha, hc]
    · rw [decide_eq_false hc]
      refine Ev.neg (by simp) ?_
      refine Ev.pos (by simp; omega) ?_
      exact fin (by simp [hid, hc])

def pathS (p s : List UInt8) : Bool := decide ((segA [] p).length = (segA [] s).length) && (cleanS s && allM (segA [] p) (segA [] s) 0)
theorem Path_ev (p s : List UInt8) (hp : p.length < 4294967280) (hs : s.length < 4294967280) : Ev (fun k => glob_Path.f k (B p) (B s)) (pathS p s) := by
  obtain ⟨p1, p2⟩ := seg_small p
  obtain ⟨s1, s2⟩ := seg_small s
  refine Ev.congr (fun k => by rw [glob_Path.f]) ?_
  refine Ev.bind (Ev.of (split_eq p hp)) ?_
  refine Ev.bind (Ev.of (split_eq s hs)) ?_
  unfold pathS
  refine Ev.iff (show ((((segA [] p).map B).length : Int) = (((segA [] s).map B).length : Int)) = ((segA [] p).length = (segA [] s).length) by rw [List.length_map, List.length_map]; exact propext ⟨fun h => by omega, fun h => by omega⟩) ?_ ?_
  · intro h
    rw [decide_eq_true h, Bool.true_and]
    refine Ev.bind (Clean_ev s hs) ?_
    refine Ev.step (fun k => by rw [glob_Path.j0]) ?_
    cases cleanS s with
    | false => exact Ev.pos rfl (Ev.ret _)
    | true =>
      refine Ev.neg (by simp) ?_
      rw [List.length_map, Bool.true_and]
      exact path_loop _ _ h (by omega) (fun x hx => by have := p2 x hx; omega) (fun x hx => by have := s2 x hx; omega) 0 (by omega)
  · intro h
    rw [decide_eq_false h, Bool.false_and]
    refine Ev.step (fun k => by rw [glob_Path.j0]) ?_
    exact Ev.pos rfl (Ev.ret _)

theorem ref_path_loop (A C : List (List UInt8)) (hl : A.length = C.length) (hA : A.length < 4294967281) (h1 : ∀ x ∈ A, x.length < 4294967281) (h2 : ∀ x ∈ C, x.length < 4294967281) :
    ∀ i, i ≤ A.length → Ev (fun k => flatironref02_Path.l0 k (A.map B) (C.map B) (i : Int)) (allM A C i) := by
  refine upto_ind ?_ ?_
  · refine Ev.step (fun k => by rw [flatironref02_Path.l0]) ?_
    refine Ev.neg (by simp) ?_
    rw [allM_end A C _ (Nat.le_refl _)]
    exact Ev.ret _
  · intro i hi ih
    have hi' : i < C.length := by omega
    rw [← wrap_succ i (by omega)] at ih
    have ra : rdOf ByteArray.empty (A.map B) (i : Int) = B A[i] := by rw [rdOf_get _ _ i (by simpa using hi)]; simp
    have rc : rdOf ByteArray.empty (C.map B) (i : Int) = B C[i] := by rw [rdOf_get _ _ i (by simpa using hi')]; simp
    have hm := refMatch_ev A[i] C[i] (h1 _ (List.getElem_mem hi)) (h2 _ (List.getElem_mem hi'))
    have fin : hid A[i] C[i] = false → Ev (fun k => (flatironref02_Match.f k (B A[i]) (B C[i])).bind fun t => (if t = true then (flatironref02_Path.l0 k (A.map B) (C.map B) (wrap64 ((i : Int) + 1))) else (some false))) (allM A C i) := by
      intro hh
      rw [allM_next A C i hi hi', partM_eq, hh, Bool.not_false, Bool.true_and]
      refine Ev.bind hm ?_
      refine Ev.ite ?_ ?_
      · intro h; rw [h, Bool.true_and]; exact ih
      · intro h; rw [show mtB (parse A[i]) C[i] = false by simpa using h]; exact Ev.ret _
    have out : hid A[i] C[i] = true → allM A C i = false := by
      intro hh
      rw [allM_next A C i hi hi', partM_eq, hh]
      rfl
    refine Ev.step (fun k => by rw [flatironref02_Path.l0]) ?_
    rw [ra, rc]
    refine Ev.pos (by simp; omega) ?_
    refine Ev.pos (by omega) ?_
    refine Ev.pos (by simp; omega) ?_
    cases hc : C[i] with
    | nil =>
      refine Ev.neg (by simp [B_size]) ?_
      rw [← hc]
      exact fin (by rw [hc]; simp [hid])
    | cons b r =>
      refine Ev.pos (by rw [B_size]; simp) ?_
      refine Ev.pos (by rw [B_size]; simp) ?_
      refine Ev.iff (show (bt (B (b :: r)) 0 = 46) = (b = 46) from btEq (b :: r) 0 46 (by simp) (by decide)) ?_ ?_
      · intro hb
        cases ha : A[i] with
        | nil =>
          refine Ev.pos (by rw [B_toList]) ?_
          rw [out (by rw [hc, ha, hb]; simp [hid])]
          rw [← hc, ← ha]
          refine Ev.bind hm ?_
          exact Ev.ret _
        | cons d t =>
          refine Ev.neg (by rw [B_toList]; simp) ?_
          refine Ev.pos (by rw [B_size]; simp) ?_
          by_cases hd : d = 46
          · have e : (bt (B (d :: t)) 0 = 46) := Eq.mpr (btEq (d :: t) 0 46 (by simp) (by decide)) hd
            have := fin (by rw [hc, ha, hb, hd]; simp [hid])
            rw [hc, ha] at this
            refine Ev.congr (fun k => ?_) this
            simp only [if_pos e]
          · have e : ¬ (bt (B (d :: t)) 0 = 46) := fun h => hd (Eq.mp (btEq (d :: t) 0 46 (by simp) (by decide)) h)
            rw [out (by rw [hc, ha, hb]; simp [hid, hd])]
            rw [hc, ha] at hm
            refine Ev.bind hm ?_
            exact Ev.neg e (Ev.ret _)
      · intro hb
        have := fin (by rw [hc]; simp [hid, hb])
        rw [hc] at this
        exact this

theorem refPath_ev (p s : List UInt8) (hp : p.length < 4294967280) (hs : s.length < 4294967280) : Ev (fun k => flatironref02_Path.f k (B p) (B s)) (pathS p s) := by
  obtain ⟨p1, p2⟩ := seg_small p
  obtain ⟨s1, s2⟩ := seg_small s
  refine Ev.congr (fun k => by rw [flatironref02_Path.f]) ?_
  refine Ev.bind (refJoin_ev [s] (by simpa using hs) (by rw [szS_cons, szS_nil]; omega)) ?_
  refine Ev.bind (refParts_ev p hp) ?_
  refine Ev.bind (refParts_ev s hs) ?_
  have no : pathS p s = false → Ev (fun k => flatironref02_Path.j0 k ((segA [] p).map B) ((segA [] s).map B) true) (pathS p s) := by
    intro h
    rw [h]
    refine Ev.step (fun k => by rw [flatironref02_Path.j0]) ?_
    exact Ev.pos rfl (Ev.ret _)
  cases hj : joinS [s] with
  | none =>
    refine Ev.neg (by simp [resR]) ?_
    exact no (by simp [pathS, cleanS, hj])
  | some o =>
    refine Ev.pos rfl ?_
    refine Ev.iff (show ((resR (some o)).1.toList = (B s).toList) = (textS o = s) by show ((B (textS o)).toList = (B s).toList) = _; rw [B_toList, B_toList]) ?_ ?_
    · intro ht
      have hcl : cleanS s = true := by simp [cleanS, hj, ht]
      have e : ((((segA [] p).map B).length : Int) != (((segA [] s).map B).length : Int)) = !decide ((segA [] p).length = (segA [] s).length) := by
        rw [List.length_map, List.length_map]
        rw [Bool.eq_iff_iff]
        first | (simp; done) | (simp; omega)
      rw [e]
      by_cases h : (segA [] p).length = (segA [] s).length
      · rw [decide_eq_true h]
        refine Ev.step (fun k => by rw [flatironref02_Path.j0]) ?_
        refine Ev.neg (by simp) ?_
        have := ref_path_loop _ _ h (by omega) (fun x hx => by have := p2 x hx; omega) (fun x hx => by have := s2 x hx; omega) 0 (by omega)
        refine Ev.eq this ?_
        simp [pathS, h, hcl]
      · rw [decide_eq_false h]
        exact no (by simp [pathS, h])
    · intro ht
      exact no (by simp [pathS, cleanS, hj, ht])
end Go.Proofs.YtgpabkdmagifjaaDoor.X
