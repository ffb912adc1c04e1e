/- Library functions, as plain Lean functions with contracts in one form: strings.IndexByte, strings.Join, slices.Clone at []string. Conditions: a joined text of at most 2^47 bytes, a cloned slice of at most 2^43 strings. -/
import Derived.Test.YtmpheeanjjfddaaDoorShelf
import Derived.Test.YtmpheeanjjfddaaDoorWMore
import Derived.Test.YtmpheeanjjfddaaDoorWNEv
import Derived.Laws.AppendOwn
import Derived.Shelf.Vars
namespace Go.Proofs.YtmpheeanjjfddaaDoor.X
open Go.RowKit Go.Proofs.YtmpheeanjjfddaaDoorW.PrintWords Go.Proofs.YtmpheeanjjfddaaDoorW.PrintLast Go.Proofs.YtmpheeanjjfddaaDoorW.PrintMore

theorem reads_cells {w : World} {A : Option Addr} {n : Nat} {xs : List ByteArray} (h : Kd.string.C w A n xs) (hn : 0 < n) :
    ∃ b o, A = some ⟨b, o, none⟩ ∧ b < w.heap.size ∧ ∀ (j : Nat) x, xs[j]? = some x → w.cell? ⟨b, o + j, none⟩ = some (.string x) := by
  obtain ⟨h1, h2, h3⟩ := h
  obtain ⟨⟨b, o, s⟩, rfl, hc⟩ := h3 hn
  have hcell : ∀ (j : Nat) x, xs[j]? = some x → w.cell? ((⟨b, o, s⟩ : Addr).add j) = some (.string x) := by
    intro j x hj
    obtain ⟨c, _, hK, hcc⟩ := hc j x hj
    have hK' : c = [Value.string x] := hK
    subst hK'
    have := hcc 0 (.string x) rfl
    simpa [Kd.string, Kd.scalar] using this
  have h0 : ∃ x, xs[0]? = some x := ⟨xs[0]'(by omega), List.getElem?_eq_getElem (by omega)⟩
  obtain ⟨x0, hx0⟩ := h0
  have hc0 := hcell 0 x0 hx0
  have hs : s = none := by
    cases s with
    | none => rfl
    | some s => simp [Addr.add, World.cell?] at hc0; split at hc0 <;> simp at hc0
  subst hs
  refine ⟨b, o, rfl, ?_, ?_⟩
  · exact World.block_lt_of_cell? w _ hc0
  · intro j x hj
    have := hcell j x hj
    rw [show (⟨b, o, none⟩ : Addr).add j = ⟨b, o + j, none⟩ from by unfold Addr.add; split <;> simp_all] at this
    exact this

/-- A slice's own block hangs on its address alone. -/
theorem ownBlock_slice (A : Option Addr) (n c : Nat) : (Value.slice A n c).ownBlock = A.map (·.block) := by cases A <;> rfl
theorem drawn_same (w : World) : Drawn0 w w := Drawn0.refl w



def joined (l : List ByteArray) (sep : ByteArray) : ByteArray := ⟨(Lib.join (l.map (·.data.toList)) sep.data.toList).toArray⟩

/-- strings.Join -/
def strings_Join.f (l0 : List ByteArray) (a1 : ByteArray) : Option ByteArray :=
  if l0.length ≤ 140737488355328 ∧ (Lib.join (l0.map (·.data.toList)) a1.data.toList).length ≤ 140737488355328 then some (joined l0 a1) else none
theorem strings_Join.calls (A0 : Option Addr) (c0 : Nat) (l0 : List ByteArray) (a1 : ByteArray) (r : ByteArray) (w : World) (hr0 : Kd.C Kd.string w A0 l0.length l0) (hc0 : l0.length ≤ c0) (h : strings_Join.f l0 a1 = some r) :
    Calls Tryd.prog 48 #[.slice A0 l0.length c0, .string a1] w fun e w' => e = .returned (.string r) ∧ Below w.heap.size w w' := by
  unfold strings_Join.f at h
  split at h
  · rename_i hb
    obtain rfl := Option.some.inj h
    by_cases hz : l0.length = 0
    · obtain rfl : l0 = [] := List.eq_nil_of_length_eq_zero hz
      exact (Tryd.strings_Join_none A0 c0 a1 w).mono fun e w' hh => ⟨hh.1, hh.2 ▸ Below.refl _ _⟩
    · obtain ⟨b, o, rfl, hlt, hc⟩ := reads_cells hr0 (by omega)
      exact Tryd.strings_Join b o c0 l0 a1 w hc hlt hb.1 hc0 hb.2
  · exact absurd h (by simp)

theorem ownsRow_R {w : World} {base e : Nat} {v : Value} {xs : List ByteArray} (h : w.ownsRow base e 1 v xs.length (xs.map Value.string)) : Kd.R Kd.string e w base (fun _ => True) v xs := by
  refine ⟨fun _ _ => trivial, xs.map Value.string, h, ?_⟩
  refine ⟨by simp [Kd.string, Kd.scalar], fun j p hj => ?_⟩
  have hlt : j < xs.length := (List.getElem?_eq_some_iff.1 hj).1
  show List.take 1 (List.drop (j * 1) (xs.map Value.string)) = [Value.string p]
  rw [Nat.mul_one, List.drop_eq_getElem_cons (by simpa using hlt)]
  have : xs[j] = p := (List.getElem?_eq_some_iff.1 hj).2
  simp [this]

/-- The cell of the library's own variable internal/bytealg.MaxLen holds some number. -/
def Shp (w : World) : Prop := ∃ m, w.cell? ⟨0, 0, none⟩ = some (.int .i64 m)
theorem Shp.of_shaped {w : World} (h : w.ShapedOpen Tryd.prog) : Shp w :=
  Go.Proofs.cell_of_shapedOpen_int (zero := #[.int .i64 0]) (t := 3) h (of_decide_eq_true (by kernel_rfl)) (by kernel_rfl) rfl (by kernel_rfl) (by kernel_rfl) Tryd.underlying3
theorem Shp.drewN {w : World} (h : Shp w) (n : Nat) : Shp (w.drewN n) := by
  obtain ⟨m, hm⟩ := h
  exact ⟨m, ((Drawn0.step (Drawn0.refl w) n).below.cell (World.block_lt_of_cell? w _ hm)).trans hm⟩
theorem Shp.drew {w : World} (h : Shp w) : Shp w.drew := Shp.drewN h 1
theorem Shp.below {w w1 : World} (h : Shp w) (hb : Below w.heap.size w w1) : Shp w1 := by
  obtain ⟨m, hm⟩ := h
  exact ⟨m, pw_cell_below hb hm⟩
/-- internal/stringslite.Index (what strings.Index, Contains and Cut call): of texts of fewer than 4294967281 bytes. -/
def stringslite_Index.f (a0 a1 : ByteArray) : Option Int := if a0.size < 4294967281 then some (Lib.index a0.data.toList a1.data.toList) else none
theorem stringslite_Index.calls (a0 : ByteArray) (a1 : ByteArray) (r : Int) (w : World) (hSH : Shp w) (h : stringslite_Index.f a0 a1 = some r) :
    Calls Tryd.prog 82 #[.string a0, .string a1] w fun e w' => e = .returned (.int .i64 r) ∧ Drawn0 w w' := by
  unfold stringslite_Index.f at h
  split at h
  · rename_i hb
    obtain rfl := Option.some.inj h
    obtain ⟨m, hm⟩ := hSH
    exact (Tryd.stringslite_Index a0 a1 m w hb hm).mono fun e w' hh => ⟨hh.1, hh.2 ▸ Drawn0.refl _⟩
  · exact absurd h (by simp)
/-- strings.Split: of a text of fewer than 4294967281 bytes, at a separator of one byte or more. -/
def strings_Split.f (a0 a1 : ByteArray) : Option (List ByteArray) :=
  if a0.size < 4294967281 ∧ 1 ≤ a1.size ∧ (Lib.splitB a1 0 (Lib.countB a0 a1) a0).length = Lib.countB a0 a1 + 1 ∧ Lib.countB a0 a1 < 4294967281 then some (Lib.splitB a1 0 (Lib.countB a0 a1) a0) else none
theorem strings_Split.calls (a0 : ByteArray) (a1 : ByteArray) (r : List ByteArray) (w : World) (hSH : Shp w) (h : strings_Split.f a0 a1 = some r) :
    Calls Tryd.prog 46 #[.string a0, .string a1] w fun e w' => ∃ v0_ : Value, e = .returned (v0_) ∧ Kd.R Kd.string 9 w' w.heap.size (fun _ => True) v0_ r ∧ Below w.heap.size w w' := by
  unfold strings_Split.f at h
  split at h
  · rename_i hb
    obtain rfl := Option.some.inj h
    obtain ⟨m, hm⟩ := hSH
    refine (Tryd.strings_Split a0 a1 m w hb.1 hm hb.2.1).mono fun e w' hh => ?_
    obtain ⟨he, rfl⟩ := hh
    refine ⟨_, he, ?_, (Below.refl _ w).alloc (Nat.le_refl _) _⟩
    have hl := hb.2.2.1
    have h0 := World.ownsRow_lit (base := w.heap.size) (e := 9) (size := 1) w ((Lib.splitB a1 0 (Lib.countB a0 a1) a0).map Value.string).toArray (Lib.countB a0 a1 + 1) (Nat.le_refl _) (by unfold maxLen; omega) (by simpa using hl)
    rw [← hl] at h0 ⊢
    exact ownsRow_R (by simpa using h0)
  · exact absurd h (by simp)
end Go.Proofs.YtmpheeanjjfddaaDoor.X
