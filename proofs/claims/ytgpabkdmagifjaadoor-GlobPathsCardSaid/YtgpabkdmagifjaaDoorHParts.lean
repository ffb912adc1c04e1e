/- path.parts: a text's parts between slashes, but those that say nothing: as a plain function, with its contract; of a text of fewer than 4294967281 bytes. -/
import Derived.Test.YtgpabkdmagifjaaDoorHStr
import Derived.Test.YtgpabkdmagifjaaDoorHBase
import Derived.Test.YtgpabkdmagifjaaDoorXC01x
import Derived.Lib.SplitLaws
import Derived.Lib.OwnBridge
import Derived.Lib.Hide
namespace Go.Proofs.YtgpabkdmagifjaaDoor.X
open Go.RowKit Go.Lib Go.Sort Go.Proofs.YtgpabkdmagifjaaDoorW.PrintWords Go.Proofs.YtgpabkdmagifjaaDoorW.PrintLast Go.Proofs.YtgpabkdmagifjaaDoorW.PrintMore Go.Proofs.YtgpabkdmagifjaaDoor.XC01

def says (x : ByteArray) : Bool := if x.toList = ([] : List UInt8) then true else (x.toList == ([46] : List UInt8))

theorem parts1_gives (x : ByteArray) (W : World) : FnGives Tryd.prog 175 #[] #[.string x] (.bool (says x)) W := by
  show Calls Tryd.prog 175 #[.string x] W _
  refine (path_parts_1.calls x (says x) W ?_).mono fun e w' hh => ⟨hh.1, hh.2.out⟩
  unfold path_parts_1.f says
  split <;> rfl

def path_parts.f (a0 : ByteArray) : Option (List ByteArray) := (strings_Split.f a0 ⟨#[47]⟩).bind fun l => some (l.filter fun x => !says x)

set_option maxHeartbeats 1000000 in
theorem path_parts.calls (a0 : ByteArray) (r : List ByteArray) (w : World) (hSH : Shp w) (h : path_parts.f a0 = some r) :
    Calls Tryd.prog 164 #[.string a0] w fun e w' => ∃ v0_ : Value, e = .returned (v0_) ∧ Kd.R Kd.string 9 w' w.heap.size (fun _ => True) v0_ r ∧ Below w.heap.size w w' := by
  unfold path_parts.f strings_Split.f at h
  by_cases hb : a0.size < 4294967281 ∧ 1 ≤ (⟨#[47]⟩ : ByteArray).size ∧ (Lib.splitB ⟨#[47]⟩ 0 (Lib.countB a0 ⟨#[47]⟩) a0).length = Lib.countB a0 ⟨#[47]⟩ + 1 ∧ Lib.countB a0 ⟨#[47]⟩ < 4294967281
  case neg => rw [if_neg hb] at h; exact absurd h (by simp)
  rw [if_pos hb] at h
  simp only [Option.bind_some, Option.some.injEq] at h
  obtain ⟨hsz, h1, hlen, hcnt⟩ := hb
  obtain ⟨m, hm⟩ := hSH
  have hS := Tryd.strings_Split a0 ⟨#[47]⟩ m w hsz hm h1
  generalize hl : Lib.splitB ⟨#[47]⟩ 0 (Lib.countB a0 ⟨#[47]⟩) a0 = l at hS h hlen
  generalize Lib.countB a0 ⟨#[47]⟩ = n at hS hlen hcnt
  clear hl
  have eg : ∀ args w, (callFunc 175 args).run Tryd.prog w = .ok (.enter 175 args) w := enters_of Tryd.func175 (by kernel_rfl) rfl
  have hsize : l.toArray.size = n + 1 := by simpa using hlen
  have hH : Holds Value.string (w.alloc (.cells (l.map Value.string).toArray 9)) w.heap.size 0 l.toArray := by
    intro j hj
    have hj' : j < l.length := by simpa using hj
    refine ⟨?_, ?_⟩
    · have hh := heap_alloc_new w (.cells (l.map Value.string).toArray 9)
      simp only [World.cell?, hh]
      simp [hj']
    · have hh := heap_alloc_new w (.cells (l.map Value.string).toArray 9)
      simp only [World.frozen?, hh]
      simp
  have hD := AnyE.slices_DeleteFunc Tryd.laysH10 Value.string (fun _ => rfl) says 175 #[] eg ⟨#[]⟩ Tryd.zeroValue9 w.heap.size 0 (n + 1) l.toArray (w.alloc (.cells (l.map Value.string).toArray 9))
    (fun W x _ => parts1_gives x W) (fun k os dk x _ => parts1_gives x _) hH (by omega) (by omega)
  rw [hsize] at hD
  change Calls Tryd.prog 174 _ _ _ at hD
  have hfl : (l.filter fun x => !says x).length ≤ n + 1 := by rw [← hlen]; exact List.length_filter_le _ _
  have HS := Lib.hid hS
  have HD := Lib.hid hD
  have HL := Lib.hid hlen
  have HF := Lib.hid hfl
  clear hS hD hH hsize h1 hm hlen hfl
  go_enter Tryd.func164, Tryd.ntmps164
  go_wp2_with (first | (go_at_call 93; refine HS.out.mono ?_; rintro e w' ⟨rfl, rfl⟩) | (go_at_call 174; refine HD.out.mono ?_; rintro e w' ⟨rfl, q, rfl⟩))
  go_ret
  subst h
  have hlen := HL.out
  have hfl := HF.out
  have h0 := World.ownsRow_lit (base := w.heap.size) (e := 9) (size := 1) w (l.map Value.string).toArray (n + 1) (Nat.le_refl _) (by unfold maxLen; omega) (by simpa using hlen)
  refine ⟨_, rfl, ?_, ?_⟩
  · have h1 : (w.alloc (.cells (l.map Value.string).toArray 9)).ownsRow w.heap.size 9 1 (.slice (some ⟨w.heap.size, 0, none⟩) (n + 1) (n + 1)) (n + 1) (l.map Value.string) := by simpa using h0
    have h2 := ownsRow_putRow (q := q) (k := (l.filter fun x => !says x).length) (ys := (l.filter fun x => !says x) ++ List.replicate (n + 1 - (l.filter fun x => !says x).length) ⟨#[]⟩) h1 (by simp; omega) hfl
    rw [List.take_left' rfl] at h2
    exact ownsRow_R h2
  · exact below_putRow ((Below.refl _ w).alloc (Nat.le_refl _) _) (Nat.le_refl _)
end Go.Proofs.YtgpabkdmagifjaaDoor.X
