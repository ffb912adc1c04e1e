/- The library's functions that the store's code calls, as given functions of the small machine. -/
import Derived.Test.YtmpheeanjjfddaaDoorAMOrc
import Derived.WalkKit
import Derived.Lib.Hide
import Derived.Laws.LoneSync
namespace Go.Proofs.YtmpheeanjjfddaaDoor.AM
open Go Go.RowKit Go.Proofs.YtmpheeanjjfddaaDoor.X Go.Proofs.YtmpheeanjjfddaaDoorW.PrintWords Go.Proofs.YtmpheeanjjfddaaDoorW.PrintLast Go.Proofs.YtmpheeanjjfddaaDoorW.PrintMore
set_option linter.unusedVariables false
set_option linter.unusedSimpArgs false
variable {E : Env} {base : Nat} {w0 w w' : World} {s s' : St}

set_option maxRecDepth 100000 in
set_option maxHeartbeats 2000000 in
theorem atomLoad (b o : Nat) (n : Int) (w : World) (h0 : w.cell? ⟨b, o, none⟩ = some (.int .i64 n)) :
    Calls Tryd.prog 26 #[.pointer (some ⟨b, o, none⟩)] w fun e w' => e = .returned (.int .i64 n) ∧ w' = w := by
  have hl := run_call_load (P := Tryd.prog) Tryd.func40 (by kernel_rfl) (by kernel_rfl) (by kernel_rfl) .i64 (by kernel_rfl) h0
  go_enter Tryd.func26, Tryd.ntmps26
  go_wp2
  go_ret
  exact ⟨rfl, rfl⟩
set_option maxRecDepth 100000 in
set_option maxHeartbeats 2000000 in
theorem atomStore (b o : Nat) (n : Int) (u : Value) (w : World) (h0 : w.cell? ⟨b, o, none⟩ = some u) (hz : w.frozen? ⟨b, o, none⟩ = false) :
    Calls Tryd.prog 25 #[.pointer (some ⟨b, o, none⟩), .int .i64 n] w fun e w' => e = .returned (.tuple #[]) ∧ w' = w.setCell ⟨b, o, none⟩ (.int .i64 n) := by
  have hl := run_call_store (P := Tryd.prog) (k := .i64) (y := n) Tryd.func39 (by kernel_rfl) (by kernel_rfl) (by kernel_rfl) (by kernel_rfl) h0 hz
  go_enter Tryd.func25, Tryd.ntmps25
  go_wp2
  go_end0
  exact ⟨rfl, rfl⟩
def oLoad : Ora
  | [.ptr n off], s => match cellsOf s n with
    | some vs => match vs[off]? with
      | some (.int .i64 x) => some (.int .i64 x, s)
      | _ => none
    | none => none
  | _, _ => none
theorem oLoad_ok : OneOK Tryd.prog base w0 26 oLoad := by
  intro args s v s' h E w cargs hW hargs
  unfold oLoad at h
  split at h
  · rename_i n off
    split at h
    · rename_i vs hvs
      split at h
      · rename_i x hx
        cases h
        obtain ⟨cx, rfl, hvx⟩ := args1 hargs
        simp only [VR] at hvx
        obtain ⟨b, N, hG, rfl⟩ := hvx
        obtain ⟨arr, t, h1, h2, h3, h4⟩ := cells_of hW hvs hG
        obtain ⟨cv, hc, hv⟩ := take_get h4 hx
        simp only [VR] at hv
        subst hv
        refine (atomLoad b off x w (by rw [cell_at h1]; simpa using hc)).mono ?_
        rintro e w' ⟨rfl, rfl⟩
        exact ⟨E, _, rfl, Env.le_refl E, by simp only [VR], hW⟩
      · cases h
    · cases h
  · cases h
def oStore : Ora
  | [.ptr n off, .int .i64 x], s => match cellsOf s n with
    | some vs => if off < vs.length then (putA n off [.int .i64 x] s).map fun s' => (.tuple [], s') else none
    | none => none
  | _, _ => none
theorem oStore_ok : OneOK Tryd.prog base w0 25 oStore := by
  intro args s v s' h E w cargs hW hargs
  unfold oStore at h
  split at h
  · rename_i n off x
    split at h
    · rename_i vs hvs
      split at h
      · rename_i hlt
        obtain ⟨s2, hs, he⟩ := Option.map_eq_some_iff.1 h
        cases he
        obtain ⟨cx, cy, rfl, hvx, hvy⟩ := args2 hargs
        simp only [VR] at hvx hvy
        obtain ⟨b, N, hG, rfl⟩ := hvx
        subst hvy
        obtain ⟨arr, t, h1, h2, h3, h4⟩ := cells_of hW hvs hG
        obtain ⟨w2, hW2, hr⟩ := putA_ok (P := Tryd.prog) (cv := [.int .i64 x]) hW hs (VRs_cons (by simp only [VR]) VRs_nil) hG
        have hc : w.cell? ⟨b, off, none⟩ = some arr[off] := by rw [cell_at h1]; exact Array.getElem?_eq_getElem (by omega)
        have hz : w.frozen? ⟨b, off, none⟩ = false := by simp [World.frozen?, h1]
        have hw2 : w2 = w.setCell ⟨b, off, none⟩ (.int .i64 x) := by
          have hst := run_store Tryd.prog w ⟨b, off, none⟩ (.int .i64 x) .plain rfl
          simp only [hc, hz] at hst
          simp only [storeCells, Sem.run_bind, addr_add, Nat.add_zero] at hr
          rw [hst] at hr
          simpa using hr.symm
        refine (atomStore b off x _ w hc hz).mono ?_
        rintro e w' ⟨rfl, rfl⟩
        exact ⟨E, _, rfl, Env.le_refl E, VR_undef, hw2 ▸ hW2⟩
      · cases h
    · cases h
  · cases h
def oSplit : Ora
  | [a, b], s => match strB a, strB b with
    | some x, some y => match strings_Split.f x y with
      | some (r0 :: r) => newStrs 9 (r0 :: r) s
      | _ => none
    | _, _ => none
  | _, _ => none
theorem oSplit_ok (hSH : Shp w0) : OneOK Tryd.prog w0.heap.size w0 46 oSplit := by
  intro args s v s' h E w cargs hW hargs
  unfold oSplit at h
  split at h
  · split at h
    · rename_i x y hx hy
      split at h
      · rename_i r0 r hr
        obtain ⟨cx, cy, rfl, hvx, hvy⟩ := args2 hargs
        rw [strB_ok hx hvx, strB_ok hy hvy]
        exact newStrs_ok hW h (fun _ h0 => by cases h0) (strings_Split.calls x y _ w (Shp.below hSH hW.below) hr)
      · cases h
    · cases h
  · cases h
/-- What the store's code asks of the library. -/
def storeOrc : List (FuncId × Ora) :=
  [(46, oSplit), (48, oJoin strings_Join.f), (26, oLoad), (25, oStore)]
theorem storeOrc_ok (hSH : Shp w0) : AllOK Tryd.prog w0.heap.size w0 storeOrc :=
  ⟨oSplit_ok hSH, oJoin_ok (fun A c l b r w _ hC hl hr => strings_Join.calls A c l b r w hC hl hr), oLoad_ok, oStore_ok, trivial⟩
end Go.Proofs.YtmpheeanjjfddaaDoor.AM
