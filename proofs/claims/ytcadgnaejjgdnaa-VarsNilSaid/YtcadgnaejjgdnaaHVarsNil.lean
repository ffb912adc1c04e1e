/- vars.Table's methods at no table; contracts. -/
import Derived.Test.YtcadgnaejjgdnaaHStr
import Derived.Test.YtcadgnaejjgdnaaHBase
import Derived.WalkKit
import Derived.Lib.Hide
import Derived.Deep.LoopGhost
import Derived.RangeFuncBox
namespace Go.Proofs.Ytcadgnaejjgdnaa.X
open Go.RowKit Go.Proofs.YtcadgnaejjgdnaaW.PrintWords Go.Proofs.YtcadgnaejjgdnaaW.PrintLast Go.Proofs.YtcadgnaejjgdnaaW.PrintMore
set_option linter.unusedSimpArgs false
set_option linter.unusedVariables false

set_option maxRecDepth 100000 in
set_option maxHeartbeats 2000000 in
theorem getNil (s : ByteArray) (w : World) : Calls Try.prog 43 #[.pointer none, .string s] w fun e w' => e = .returned (.tuple #[.agg #[.string ⟨#[]⟩, .string ⟨#[]⟩, .bool false, .int .i64 0], .bool false]) ∧ Below w.heap.size w w' := by
  go_enter Try.func43, Try.ntmps43
  go_wp2
  refine bodyPost_ret (results_ct rfl _ _ w.heap.size 82 #[.string ⟨#[]⟩, .string ⟨#[]⟩, .bool false, .int .i64 0] (0, 0) _ rfl (blk_new w _) Try.underlying82 rfl (by kernel_rfl)) rfl ?_
  exact ⟨rfl, by repeat (first | exact Below.refl _ _ | apply below_alloc)⟩
set_option maxRecDepth 100000 in
set_option maxHeartbeats 2000000 in
theorem setNil (n t : ByteArray) (s : Bool) (f : Int) (w : World) : Calls Try.prog 47 #[.pointer none, .agg #[.string n, .string t, .bool s, .int .i64 f]] w fun e w' => e = .returned (.int .i64 1) ∧ Below w.heap.size w w' := by
  go_enter Try.func47, Try.ntmps47
  go_wp2
  go_ret
  exact ⟨rfl, by repeat (first | exact Below.refl _ _ | apply below_alloc)⟩
set_option maxRecDepth 100000 in
theorem exportNil (y : Bool) (A : Option Addr) (n c : Nat) (w : World) : Calls Try.prog 46 #[.pointer none, .bool y, .slice A n c] w fun e w' => (∃ v, e = .returned v) ∧ w' = w := by
  go_enter Try.func46, Try.ntmps46
  go_wp2
  refine bodyPost_ret (results_none rfl _ _ _) rfl ?_
  exact ⟨⟨_, rfl⟩, rfl⟩
theorem allNil (w : World) : Calls Try.prog 40 #[.pointer none] w fun e w' => e = .returned (.slice none 0 0) ∧ w' = w := by
  go_enter Try.func40, Try.ntmps40
  go_wp2
  go_ret
  exact ⟨rfl, rfl⟩
theorem cloneNil (w : World) : Calls Try.prog 37 #[.pointer none] w fun e w' => e = .returned (.pointer none) ∧ w' = w := by
  go_enter Try.func37, Try.ntmps37
  go_wp2
  go_ret
  exact ⟨rfl, rfl⟩
set_option maxRecDepth 100000 in
set_option maxHeartbeats 2000000 in
theorem moreNil (n t : ByteArray) (s : Bool) (f : Int) (w : World) : Calls Try.prog 48 #[.pointer none, .agg #[.string n, .string t, .bool s, .int .i64 f]] w fun e w' => e = .returned (.int .i64 1) ∧ Below w.heap.size w w' := by
  go_enter Try.func48, Try.ntmps48
  go_wp2_with (first | (go_at_call 43; refine (getNil n _).mono ?_; rintro e w1 ⟨rfl, hb1⟩; have BK := blk_below (blk_new w (.cells #[.string n, .string t, .bool s, .int .i64 f] 82)) hb1; replace BK := blk_alloc BK (.cells #[.string ⟨#[]⟩, .string ⟨#[]⟩, .bool false, .int .i64 0] 82); have H1 := Aside0.mk (below_step (below_alloc (Below.refl _ w) _) hb1); have c0 := blk_cell BK 0; have c1 := blk_cell BK 1; have c2 := blk_cell BK 2; have c3 := blk_cell BK 3; clear hb1 BK) | (go_at_call 47; refine (setNil n t s f _).mono ?_; rintro e w2 ⟨rfl, hb2⟩))
  go_ret
  exact ⟨rfl, below_step (below_alloc H1.out _) hb2⟩
set_option maxRecDepth 100000 in
set_option maxHeartbeats 2000000 in
theorem maybeNil (n t : ByteArray) (s : Bool) (f : Int) (w : World) : Calls Try.prog 49 #[.pointer none, .agg #[.string n, .string t, .bool s, .int .i64 f]] w fun e w' => e = .returned (.int .i64 1) ∧ Below w.heap.size w w' := by
  go_enter Try.func49, Try.ntmps49
  go_wp2_with (first | (go_at_call 43; refine (getNil n _).mono ?_; rintro e w1 ⟨rfl, hb1⟩; have BK := blk_below (blk_new w (.cells #[.string n, .string t, .bool s, .int .i64 f] 82)) hb1; replace BK := blk_alloc BK (.cells #[.string ⟨#[]⟩, .string ⟨#[]⟩, .bool false, .int .i64 0] 82); have H1 := Aside0.mk (below_step (below_alloc (Below.refl _ w) _) hb1); have c0 := blk_cell BK 0; have c1 := blk_cell BK 1; have c2 := blk_cell BK 2; have c3 := blk_cell BK 3; clear hb1 BK) | (go_at_call 47; refine (setNil n t s f _).mono ?_; rintro e w2 ⟨rfl, hb2⟩))
  go_ret
  exact ⟨rfl, below_step (below_alloc H1.out _) hb2⟩
set_option maxRecDepth 100000 in
set_option maxHeartbeats 2000000 in
theorem indexNil (fv : Value) (w : World) : Calls Try.prog 104 #[.slice none 0 0, fv] w fun e w' => e = .returned (.int .i64 (-1)) ∧ w' = w := by
  go_enter Try.func104, Try.ntmps104
  go_wp2
  go_loopg [8] 1 (fun g v wr => v = .int .i64 0 ∧ wr = w)
  case atStart => exact ⟨rfl, rfl⟩
  case round =>
    obtain ⟨rfl, rfl⟩ := hrel
    go_wp2
    go_ret
    exact ⟨rfl, rfl⟩
set_option maxRecDepth 100000 in
set_option maxHeartbeats 2000000 in
theorem deleteNil (fv : Value) (w : World) : Calls Try.prog 77 #[.slice none 0 0, fv] w fun e w' => e = .returned (.slice none 0 0) ∧ w' = w := by
  go_enter Try.func77, Try.ntmps77
  go_wp2_with (first | (go_at_call 104; refine (indexNil _ _).mono ?_; rintro e w1 ⟨rfl, rfl⟩))
  go_ret
  exact ⟨rfl, rfl⟩
set_option maxRecDepth 100000 in
set_option maxHeartbeats 2000000 in
theorem exportsNil (w : World) : Calls Try.prog 41 #[.pointer none] w fun e w' => e = .returned (.slice none 0 0) ∧ Below w.heap.size w w' := by
  go_enter Try.func41, Try.ntmps41
  go_wp2_with (first | (go_at_call 40; refine (allNil _).mono ?_; rintro e w1 ⟨rfl, rfl⟩) | (go_at_call 77; refine (deleteNil _ _).mono ?_; rintro e w1 ⟨rfl, rfl⟩))
  go_ret
  exact ⟨rfl, below_alloc (Below.refl _ _) _⟩
end Go.Proofs.Ytcadgnaejjgdnaa.X
