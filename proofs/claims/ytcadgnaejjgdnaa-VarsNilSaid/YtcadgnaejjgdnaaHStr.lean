/- Library functions, as plain Lean functions with contracts in one form: strings.IndexByte, strings.Join, slices.Clone at []string. Conditions: a joined text of at most 2^47 bytes, a cloned slice of at most 2^43 strings. -/
import Derived.Test.YtcadgnaejjgdnaaShelf
import Derived.Test.YtcadgnaejjgdnaaWMore
import Derived.Test.YtcadgnaejjgdnaaWNEv
import Derived.Laws.AppendOwn
import Derived.Shelf.Vars
namespace Go.Proofs.Ytcadgnaejjgdnaa.X
open Go.RowKit Go.Proofs.YtcadgnaejjgdnaaW.PrintWords Go.Proofs.YtcadgnaejjgdnaaW.PrintLast Go.Proofs.YtcadgnaejjgdnaaW.PrintMore

theorem reads_cells {w : World} {A : Option Addr} {n : Nat} {xs : List ByteArray} (h : Kd.string.C w A n xs) (hn : 0 < n) :
    ∃ b o, A = some ⟨b, o, none⟩ ∧ b < w.heap.size ∧ ∀ (j : Nat) x, xs[j]? = some x → w.cell? ⟨b, o + j, none⟩ = some (.string x) := by
  obtain ⟨h1, h2, h3⟩ := h
  obtain ⟨⟨b, o, s⟩, rfl, hc⟩ := h3 hn
  have hcell : ∀ (j : Nat) x, xs[j]? = some x → w.cell? ((⟨b, o, s⟩ : Addr).add j) = some (.string x) := by
    intro j x hj
    obtain ⟨c, _, hK, hcc⟩ := hc j x hj
    have hK' : c = [Value.string x] := hK
    subst hK'
    have := hcc 0 (.string x) rfl
    simpa [Kd.string, Kd.scalar] using this
  have h0 : ∃ x, xs[0]? = some x := ⟨xs[0]'(by omega), List.getElem?_eq_getElem (by omega)⟩
  obtain ⟨x0, hx0⟩ := h0
  have hc0 := hcell 0 x0 hx0
  have hs : s = none := by
    cases s with
    | none => rfl
    | some s => simp [Addr.add, World.cell?] at hc0; split at hc0 <;> simp at hc0
  subst hs
  refine ⟨b, o, rfl, ?_, ?_⟩
  · exact World.block_lt_of_cell? w _ hc0
  · intro j x hj
    have := hcell j x hj
    rw [show (⟨b, o, none⟩ : Addr).add j = ⟨b, o + j, none⟩ from by unfold Addr.add; split <;> simp_all] at this
    exact this

/-- A slice's own block hangs on its address alone. -/
theorem ownBlock_slice (A : Option Addr) (n c : Nat) : (Value.slice A n c).ownBlock = A.map (·.block) := by cases A <;> rfl
theorem drawn_same (w : World) : Drawn0 w w := Drawn0.refl w

/-- strings.IndexByte -/
def strings_IndexByte.f (a0 : ByteArray) (a1 : Int) : Option Int := some (Lib.indexByte a0.data.toList a1.toNat.toUInt8)
theorem strings_IndexByte.calls (a0 : ByteArray) (a1 : Int) (r : Int) (w : World) (h : strings_IndexByte.f a0 a1 = some r) :
    Calls Try.prog 53 #[.string a0, .int .u8 a1] w fun e w' => e = .returned (.int .i64 r) ∧ Drawn0 w w' := by
  obtain rfl := Option.some.inj h
  exact (Try.strings_IndexByte a0 a1 w).mono fun e w' hh => ⟨hh.1, hh.2 ▸ Drawn0.refl _⟩

def joined (l : List ByteArray) (sep : ByteArray) : ByteArray := ⟨(Lib.join (l.map (·.data.toList)) sep.data.toList).toArray⟩

/-- strings.Join -/
def strings_Join.f (l0 : List ByteArray) (a1 : ByteArray) : Option ByteArray :=
  if l0.length ≤ 140737488355328 ∧ (Lib.join (l0.map (·.data.toList)) a1.data.toList).length ≤ 140737488355328 then some (joined l0 a1) else none
theorem strings_Join.calls (A0 : Option Addr) (c0 : Nat) (l0 : List ByteArray) (a1 : ByteArray) (r : ByteArray) (w : World) (hr0 : Kd.C Kd.string w A0 l0.length l0) (hc0 : l0.length ≤ c0) (h : strings_Join.f l0 a1 = some r) :
    Calls Try.prog 57 #[.slice A0 l0.length c0, .string a1] w fun e w' => e = .returned (.string r) ∧ Below w.heap.size w w' := by
  unfold strings_Join.f at h
  split at h
  · rename_i hb
    obtain rfl := Option.some.inj h
    by_cases hz : l0.length = 0
    · obtain rfl : l0 = [] := List.eq_nil_of_length_eq_zero hz
      exact (Try.strings_Join_none A0 c0 a1 w).mono fun e w' hh => ⟨hh.1, hh.2 ▸ Below.refl _ _⟩
    · obtain ⟨b, o, rfl, hlt, hc⟩ := reads_cells hr0 (by omega)
      exact Try.strings_Join b o c0 l0 a1 w hc hlt hb.1 hc0 hb.2
  · exact absurd h (by simp)

theorem ownsRow_R {w : World} {base e : Nat} {v : Value} {xs : List ByteArray} (h : w.ownsRow base e 1 v xs.length (xs.map Value.string)) : Kd.R Kd.string e w base (fun _ => True) v xs := by
  refine ⟨fun _ _ => trivial, xs.map Value.string, h, ?_⟩
  refine ⟨by simp [Kd.string, Kd.scalar], fun j p hj => ?_⟩
  have hlt : j < xs.length := (List.getElem?_eq_some_iff.1 hj).1
  show List.take 1 (List.drop (j * 1) (xs.map Value.string)) = [Value.string p]
  rw [Nat.mul_one, List.drop_eq_getElem_cons (by simpa using hlt)]
  have : xs[j] = p := (List.getElem?_eq_some_iff.1 hj).2
  simp [this]

/-- slices.Clone at []string -/
def slices_Clone_string.f (l0 : List ByteArray) : Option (List ByteArray) := if l0.length ≤ 8796093022208 then some l0 else none
theorem slices_Clone_string.calls (A0 : Option Addr) (c0 : Nat) (l0 : List ByteArray) (r : List ByteArray) (w : World) (hr0 : Kd.C Kd.string w A0 l0.length l0) (hc0 : l0.length ≤ c0) (h : slices_Clone_string.f l0 = some r) :
    Calls Try.prog 21 #[.slice A0 l0.length c0] w fun e w' => ∃ v0_ : Value, e = .returned (v0_) ∧ Kd.R Kd.string 9 w' w.heap.size (fun _ => True) v0_ r ∧ Below w.heap.size w w' := by
  unfold slices_Clone_string.f at h
  split at h
  · rename_i hb
    obtain rfl := Option.some.inj h
    by_cases hz : l0.length = 0
    · obtain rfl : l0 = [] := List.eq_nil_of_length_eq_zero hz
      cases A0 with
      | none => exact (Try.slices_Clone_string_nil 0 c0 w).mono fun e w' hh => ⟨_, hh.1, Kd.R_nil _ _ _ _ _, hh.2 ▸ Below.refl _ _⟩
      | some ad =>
        refine (Try.slices_Clone_string_zero ad c0 w).mono fun e w' hh => ?_
        obtain ⟨v', he, ho, _, hw⟩ := hh
        exact ⟨v', he, ownsRow_R (xs := []) ho, hw⟩
    · obtain ⟨b, o, rfl, hlt, hc⟩ := reads_cells hr0 (by omega)
      refine (Try.slices_Clone_string b o l0.length c0 l0 w (Nat.le_refl _) (by omega) (fun j hj => ?_)).mono fun e w' hh => ?_
      · rw [hc j l0[j] (List.getElem?_eq_getElem hj)]; simp [List.getD, hj]
      · obtain ⟨v', he, ho, _, hw⟩ := hh
        rw [List.take_length] at ho
        exact ⟨v', he, ownsRow_R ho, hw⟩
  · exact absurd h (by simp)
/-- The cell of the library's own variable internal/bytealg.MaxLen holds some number. -/
def Shp (w : World) : Prop := ∃ m, w.cell? ⟨0, 0, none⟩ = some (.int .i64 m)
theorem Shp.of_shaped {w : World} (h : w.ShapedOpen Try.prog) : Shp w :=
  Go.Proofs.cell_of_shapedOpen_int (zero := #[.int .i64 0]) (t := 3) h (of_decide_eq_true (by kernel_rfl)) (by kernel_rfl) rfl (by kernel_rfl) (by kernel_rfl) Try.underlying3
theorem Shp.drewN {w : World} (h : Shp w) (n : Nat) : Shp (w.drewN n) := by
  obtain ⟨m, hm⟩ := h
  exact ⟨m, ((Drawn0.step (Drawn0.refl w) n).below.cell (World.block_lt_of_cell? w _ hm)).trans hm⟩
theorem Shp.drew {w : World} (h : Shp w) : Shp w.drew := Shp.drewN h 1
theorem Shp.below {w w1 : World} (h : Shp w) (hb : Below w.heap.size w w1) : Shp w1 := by
  obtain ⟨m, hm⟩ := h
  exact ⟨m, pw_cell_below hb hm⟩
/-- internal/stringslite.Index (what strings.Index, Contains and Cut call): of texts of fewer than 4294967281 bytes. -/
def stringslite_Index.f (a0 a1 : ByteArray) : Option Int := if a0.size < 4294967281 then some (Lib.index a0.data.toList a1.data.toList) else none
theorem stringslite_Index.calls (a0 : ByteArray) (a1 : ByteArray) (r : Int) (w : World) (hSH : Shp w) (h : stringslite_Index.f a0 a1 = some r) :
    Calls Try.prog 121 #[.string a0, .string a1] w fun e w' => e = .returned (.int .i64 r) ∧ Drawn0 w w' := by
  unfold stringslite_Index.f at h
  split at h
  · rename_i hb
    obtain rfl := Option.some.inj h
    obtain ⟨m, hm⟩ := hSH
    exact (Try.stringslite_Index a0 a1 m w hb hm).mono fun e w' hh => ⟨hh.1, hh.2 ▸ Drawn0.refl _⟩
  · exact absurd h (by simp)
def strings_HasPrefix.f (a0 a1 : ByteArray) : Option Bool := some (Lib.hasPrefix a0.data.toList a1.data.toList)
theorem strings_HasPrefix.calls (a0 : ByteArray) (a1 : ByteArray) (r : Bool) (w : World) (h : strings_HasPrefix.f a0 a1 = some r) :
    Calls Try.prog 109 #[.string a0, .string a1] w fun e w' => e = .returned (.bool r) ∧ Drawn0 w w' := by
  obtain rfl := Option.some.inj h
  exact (Try.strings_HasPrefix a0 a1 w).mono fun e w' hh => ⟨hh.1, hh.2 ▸ Drawn0.refl _⟩
end Go.Proofs.Ytcadgnaejjgdnaa.X
