/- Laid for this claim by the session's own program xprint.py, over the print of the kit: functions of the program as plain Lean functions, each with a proof that a call comes to what its function says, or the row of a law out of these; no condition of its own. -/
import Derived.Test.YtcadgnaejjgdnaaDoorXW01x0
import Derived.Test.YtcadgnaejjgdnaaDoorXW01x1
import Derived.Test.YtcadgnaejjgdnaaDoorXW01x2
import Derived.Test.YtcadgnaejjgdnaaDoorXW01x3
import Derived.Test.YtcadgnaejjgdnaaDoorXW01x4
namespace Go.Proofs.YtcadgnaejjgdnaaDoor.XW01
open Go.Proofs.YtcadgnaejjgdnaaDoor.X Go.RowKit Go.Proofs.YtcadgnaejjgdnaaDoorW.PrintWords Go.Proofs.YtcadgnaejjgdnaaDoorW.PrintLast Go.Proofs.YtcadgnaejjgdnaaDoorW.PrintMore
attribute [local go_sem] max2_int min2_int max_two min_two max_three min_three max_four min_four   -- for this text's walks alone
set_option linter.unusedVariables false
set_option linter.unusedSimpArgs false

/-! ### flatironlaw01_PathWays: function 7 -/
mutual
def flatironlaw01_PathWays.j0 : Nat → ByteArray → ByteArray → Bool → Option (Bool)
  | 0, _, _, _ => none
  | k + 1, x0, x1, x27 => if x27 = true then ((flatironlaw01_lives.f k).bind fun t257 => (some t257)) else ((flatironref01_Join.f k (([x0] : List ByteArray))).bind fun bt261 => ((flatironref01_Join.f k (([x1] : List ByteArray))).bind fun bt266 => (if bt261.2 = true then (flatironlaw01_PathWays.j1 k bt261.1 bt266.1 (!bt266.2)) else (flatironlaw01_PathWays.j1 k bt261.1 bt266.1 true))))
def flatironlaw01_PathWays.j1 : Nat → ByteArray → ByteArray → Bool → Option (Bool)
  | 0, _, _, _ => none
  | k + 1, x5, x7, x46 => if x46 = true then (some true) else ((path_To.f k x5 x7).bind fun t268 => ((path_Join.f k (([x7, t268] : List ByteArray))).bind fun bt272 => ((path_Dir.f x5).bind fun t274 => ((flatironref01_Dir.f k x5).bind fun t275 => (if t274.toList = t275.toList then ((path_Base.f x5).bind fun t276 => ((flatironref01_Base.f k x5).bind fun t277 => (if t276.toList = t277.toList then ((path_In.f k x5 x7).bind fun t278 => ((flatironref01_In.f k x5 x7).bind fun t279 => (flatironlaw01_PathWays.j2 k x5 x7 t268 bt272.1 bt272.2 (t278 != t279)))) else (flatironlaw01_PathWays.j2 k x5 x7 t268 bt272.1 bt272.2 true)))) else (flatironlaw01_PathWays.j2 k x5 x7 t268 bt272.1 bt272.2 true))))))
def flatironlaw01_PathWays.j2 : Nat → ByteArray → ByteArray → ByteArray → ByteArray → Int → Bool → Option (Bool)
  | 0, _, _, _, _, _, _ => none
  | k + 1, x5, x7, x9, x10, x11, x77 => if x77 = true then (some false) else ((flatironref01_Split.f k x9).bind fun t280 => (flatironlaw01_PathWays.l0 k x5 x7 x9 x10 x11 0 t280))
def flatironlaw01_PathWays.l0 : Nat → ByteArray → ByteArray → ByteArray → ByteArray → Int → Int → List ByteArray → Option (Bool)
  | 0, _, _, _, _, _, _, _ => none
  | k + 1, x5, x7, x9, x10, x11, x12, x13 => if x12 < (x13.length : Int) then (if 0 ≤ x12 then (flatironlaw01_PathWays.j4 k x5 x7 x9 x10 x11 x12 x13 ((rdOf ByteArray.empty x13 x12).toList == ([46, 46] : List UInt8))) else (none)) else (flatironlaw01_PathWays.j4 k x5 x7 x9 x10 x11 x12 x13 false)
def flatironlaw01_PathWays.j4 : Nat → ByteArray → ByteArray → ByteArray → ByteArray → Int → Int → List ByteArray → Bool → Option (Bool)
  | 0, _, _, _, _, _, _, _, _ => none
  | k + 1, x5, x7, x9, x10, x11, x12, x13, x90 => if x90 = true then (flatironlaw01_PathWays.l0 k x5 x7 x9 x10 x11 (wrap64 (x12 + 1)) x13) else ((flatironref01_Split.f k x7).bind fun t284 => ((flatironref01_Split.f k x5).bind fun t287 => ((flatironref01_Split.f k x7).bind fun t290 => (if (wrap64 ((t284.length : Int) - x12)) < (t287.length : Int) then (if (wrap64 ((t284.length : Int) - x12)) < (t290.length : Int) then (if 0 ≤ (wrap64 ((t284.length : Int) - x12)) then (flatironlaw01_PathWays.j5 k x5 x9 x10 x11 x12 x13 (wrap64 ((t284.length : Int) - x12)) t287 ((rdOf ByteArray.empty t287 (wrap64 ((t284.length : Int) - x12))).toList == (rdOf ByteArray.empty t290 (wrap64 ((t284.length : Int) - x12))).toList)) else (none)) else (flatironlaw01_PathWays.j5 k x5 x9 x10 x11 x12 x13 (wrap64 ((t284.length : Int) - x12)) t287 false)) else (flatironlaw01_PathWays.j5 k x5 x9 x10 x11 x12 x13 (wrap64 ((t284.length : Int) - x12)) t287 false)))))
def flatironlaw01_PathWays.j5 : Nat → ByteArray → ByteArray → ByteArray → Int → Int → List ByteArray → Int → List ByteArray → Bool → Option (Bool)
  | 0, _, _, _, _, _, _, _, _, _ => none
  | k + 1, x5, x9, x10, x11, x12, x13, x14, x15, x17 => if x11 = 0 then (if x10.toList = x5.toList then (if x14 ≥ 0 then (if (wrap64 ((wrap64 (x14 + (x13.length : Int))) - x12)) = (x15.length : Int) then (if x17 = true then (some false) else ((flatironref01_Text.f k x13).bind fun t295 => (some (x9.toList == t295.toList)))) else (some false)) else (some false)) else (some false)) else (some false)
end
def flatironlaw01_PathWays.f (k : Nat) (a0 : ByteArray) (a1 : ByteArray) : Option (Bool) := (flatironlaw01_lives.f k).bind fun t256 => (if t256 = true then (flatironlaw01_PathWays.j0 k a0 a1 (decide ((wrap64 ((a0.size : Int) + (a1.size : Int))) > 600))) else (flatironlaw01_PathWays.j0 k a0 a1 true))
theorem flatironlaw01_PathWays.mono_l : ∀ k, (∀ y0 y1 y2, LeO (flatironlaw01_PathWays.j0 k y0 y1 y2) (flatironlaw01_PathWays.j0 (k + 1) y0 y1 y2)) ∧ (∀ y0 y1 y2, LeO (flatironlaw01_PathWays.j1 k y0 y1 y2) (flatironlaw01_PathWays.j1 (k + 1) y0 y1 y2)) ∧ (∀ y0 y1 y2 y3 y4 y5, LeO (flatironlaw01_PathWays.j2 k y0 y1 y2 y3 y4 y5) (flatironlaw01_PathWays.j2 (k + 1) y0 y1 y2 y3 y4 y5)) ∧ (∀ y0 y1 y2 y3 y4 y5 y6, LeO (flatironlaw01_PathWays.l0 k y0 y1 y2 y3 y4 y5 y6) (flatironlaw01_PathWays.l0 (k + 1) y0 y1 y2 y3 y4 y5 y6)) ∧ (∀ y0 y1 y2 y3 y4 y5 y6 y7, LeO (flatironlaw01_PathWays.j4 k y0 y1 y2 y3 y4 y5 y6 y7) (flatironlaw01_PathWays.j4 (k + 1) y0 y1 y2 y3 y4 y5 y6 y7)) ∧ (∀ y0 y1 y2 y3 y4 y5 y6 y7 y8, LeO (flatironlaw01_PathWays.j5 k y0 y1 y2 y3 y4 y5 y6 y7 y8) (flatironlaw01_PathWays.j5 (k + 1) y0 y1 y2 y3 y4 y5 y6 y7 y8))
  | 0 => ⟨fun _ _ _ r h => by simp [flatironlaw01_PathWays.j0] at h, fun _ _ _ r h => by simp [flatironlaw01_PathWays.j1] at h, fun _ _ _ _ _ _ r h => by simp [flatironlaw01_PathWays.j2] at h, fun _ _ _ _ _ _ _ r h => by simp [flatironlaw01_PathWays.l0] at h, fun _ _ _ _ _ _ _ _ r h => by simp [flatironlaw01_PathWays.j4] at h, fun _ _ _ _ _ _ _ _ _ r h => by simp [flatironlaw01_PathWays.j5] at h⟩
  | k + 1 => by
    obtain ⟨ih0, ih1, ih2, ih3, ih4, ih5⟩ := flatironlaw01_PathWays.mono_l k
    refine ⟨?_, ?_, ?_, ?_, ?_, ?_⟩
    · intro y0 y1 y2
      unfold flatironlaw01_PathWays.j0
      repeat' first
      | (with_reducible exact ih0 _ _ _)
      | (with_reducible exact ih1 _ _ _)
      | (with_reducible exact ih2 _ _ _ _ _ _)
      | (with_reducible exact ih3 _ _ _ _ _ _ _)
      | (with_reducible exact ih4 _ _ _ _ _ _ _ _)
      | (with_reducible exact ih5 _ _ _ _ _ _ _ _ _)
      | (with_reducible exact flatironlaw01_lives.mono _)
      | (with_reducible exact flatironref01_Base.mono _ _)
      | (with_reducible exact flatironref01_Dir.mono _ _)
      | (with_reducible exact flatironref01_In.mono _ _ _)
      | (with_reducible exact flatironref01_Join.mono _ _)
      | (with_reducible exact flatironref01_Split.mono _ _)
      | (with_reducible exact flatironref01_Text.mono _ _)
      | (with_reducible exact path_In.mono _ _ _)
      | (with_reducible exact path_Join.mono _ _)
      | (with_reducible exact path_To.mono _ _ _)
      | (with_reducible exact LeO.refl _)
      | (with_reducible exact LeO.none _)
      | (with_reducible refine LeO.ite ?_ ?_)
      | (with_reducible refine LeO.bind ?_ (fun _ => ?_))
      | exact ih0 _ _ _
      | exact ih1 _ _ _
      | exact ih2 _ _ _ _ _ _
      | exact ih3 _ _ _ _ _ _ _
      | exact ih4 _ _ _ _ _ _ _ _
      | exact ih5 _ _ _ _ _ _ _ _ _
      | exact flatironlaw01_lives.mono _
      | exact flatironref01_Base.mono _ _
      | exact flatironref01_Dir.mono _ _
      | exact flatironref01_In.mono _ _ _
      | exact flatironref01_Join.mono _ _
      | exact flatironref01_Split.mono _ _
      | exact flatironref01_Text.mono _ _
      | exact path_In.mono _ _ _
      | exact path_Join.mono _ _
      | exact path_To.mono _ _ _
      | exact LeO.none _
      | refine LeO.ite ?_ ?_
      | refine LeO.bind ?_ (fun _ => ?_)
    · intro y0 y1 y2
      unfold flatironlaw01_PathWays.j1
      repeat' first
      | (with_reducible exact ih0 _ _ _)
      | (with_reducible exact ih1 _ _ _)
      | (with_reducible exact ih2 _ _ _ _ _ _)
      | (with_reducible exact ih3 _ _ _ _ _ _ _)
      | (with_reducible exact ih4 _ _ _ _ _ _ _ _)
      | (with_reducible exact ih5 _ _ _ _ _ _ _ _ _)
      | (with_reducible exact flatironlaw01_lives.mono _)
      | (with_reducible exact flatironref01_Base.mono _ _)
      | (with_reducible exact flatironref01_Dir.mono _ _)
      | (with_reducible exact flatironref01_In.mono _ _ _)
      | (with_reducible exact flatironref01_Join.mono _ _)
      | (with_reducible exact flatironref01_Split.mono _ _)
      | (with_reducible exact flatironref01_Text.mono _ _)
      | (with_reducible exact path_In.mono _ _ _)
      | (with_reducible exact path_Join.mono _ _)
      | (with_reducible exact path_To.mono _ _ _)
      | (with_reducible exact LeO.refl _)
      | (with_reducible exact LeO.none _)
      | (with_reducible refine LeO.ite ?_ ?_)
      | (with_reducible refine LeO.bind ?_ (fun _ => ?_))
      | exact ih0 _ _ _
      | exact ih1 _ _ _
      | exact ih2 _ _ _ _ _ _
      | exact ih3 _ _ _ _ _ _ _
      | exact ih4 _ _ _ _ _ _ _ _
      | exact ih5 _ _ _ _ _ _ _ _ _
      | exact flatironlaw01_lives.mono _
      | exact flatironref01_Base.mono _ _
      | exact flatironref01_Dir.mono _ _
      | exact flatironref01_In.mono _ _ _
      | exact flatironref01_Join.mono _ _
      | exact flatironref01_Split.mono _ _
      | exact flatironref01_Text.mono _ _
      | exact path_In.mono _ _ _
      | exact path_Join.mono _ _
      | exact path_To.mono _ _ _
      | exact LeO.none _
      | refine LeO.ite ?_ ?_
      | refine LeO.bind ?_ (fun _ => ?_)
    · intro y0 y1 y2 y3 y4 y5
      unfold flatironlaw01_PathWays.j2
      repeat' first
      | (with_reducible exact ih0 _ _ _)
      | (with_reducible exact ih1 _ _ _)
      | (with_reducible exact ih2 _ _ _ _ _ _)
      | (with_reducible exact ih3 _ _ _ _ _ _ _)
      | (with_reducible exact ih4 _ _ _ _ _ _ _ _)
      | (with_reducible exact ih5 _ _ _ _ _ _ _ _ _)
      | (with_reducible exact flatironlaw01_lives.mono _)
      | (with_reducible exact flatironref01_Base.mono _ _)
      | (with_reducible exact flatironref01_Dir.mono _ _)
      | (with_reducible exact flatironref01_In.mono _ _ _)
      | (with_reducible exact flatironref01_Join.mono _ _)
      | (with_reducible exact flatironref01_Split.mono _ _)
      | (with_reducible exact flatironref01_Text.mono _ _)
      | (with_reducible exact path_In.mono _ _ _)
      | (with_reducible exact path_Join.mono _ _)
      | (with_reducible exact path_To.mono _ _ _)
      | (with_reducible exact LeO.refl _)
      | (with_reducible exact LeO.none _)
      | (with_reducible refine LeO.ite ?_ ?_)
      | (with_reducible refine LeO.bind ?_ (fun _ => ?_))
      | exact ih0 _ _ _
      | exact ih1 _ _ _
      | exact ih2 _ _ _ _ _ _
      | exact ih3 _ _ _ _ _ _ _
      | exact ih4 _ _ _ _ _ _ _ _
      | exact ih5 _ _ _ _ _ _ _ _ _
      | exact flatironlaw01_lives.mono _
      | exact flatironref01_Base.mono _ _
      | exact flatironref01_Dir.mono _ _
      | exact flatironref01_In.mono _ _ _
      | exact flatironref01_Join.mono _ _
      | exact flatironref01_Split.mono _ _
      | exact flatironref01_Text.mono _ _
      | exact path_In.mono _ _ _
      | exact path_Join.mono _ _
      | exact path_To.mono _ _ _
      | exact LeO.none _
      | refine LeO.ite ?_ ?_
      | refine LeO.bind ?_ (fun _ => ?_)
    · intro y0 y1 y2 y3 y4 y5 y6
      unfold flatironlaw01_PathWays.l0
      repeat' first
      | (with_reducible exact ih0 _ _ _)
      | (with_reducible exact ih1 _ _ _)
      | (with_reducible exact ih2 _ _ _ _ _ _)
      | (with_reducible exact ih3 _ _ _ _ _ _ _)
      | (with_reducible exact ih4 _ _ _ _ _ _ _ _)
      | (with_reducible exact ih5 _ _ _ _ _ _ _ _ _)
      | (with_reducible exact flatironlaw01_lives.mono _)
      | (with_reducible exact flatironref01_Base.mono _ _)
      | (with_reducible exact flatironref01_Dir.mono _ _)
      | (with_reducible exact flatironref01_In.mono _ _ _)
      | (with_reducible exact flatironref01_Join.mono _ _)
      | (with_reducible exact flatironref01_Split.mono _ _)
      | (with_reducible exact flatironref01_Text.mono _ _)
      | (with_reducible exact path_In.mono _ _ _)
      | (with_reducible exact path_Join.mono _ _)
      | (with_reducible exact path_To.mono _ _ _)
      | (with_reducible exact LeO.refl _)
      | (with_reducible exact LeO.none _)
      | (with_reducible refine LeO.ite ?_ ?_)
      | (with_reducible refine LeO.bind ?_ (fun _ => ?_))
      | exact ih0 _ _ _
      | exact ih1 _ _ _
      | exact ih2 _ _ _ _ _ _
      | exact ih3 _ _ _ _ _ _ _
      | exact ih4 _ _ _ _ _ _ _ _
      | exact ih5 _ _ _ _ _ _ _ _ _
      | exact flatironlaw01_lives.mono _
      | exact flatironref01_Base.mono _ _
      | exact flatironref01_Dir.mono _ _
      | exact flatironref01_In.mono _ _ _
      | exact flatironref01_Join.mono _ _
      | exact flatironref01_Split.mono _ _
      | exact flatironref01_Text.mono _ _
      | exact path_In.mono _ _ _
      | exact path_Join.mono _ _
      | exact path_To.mono _ _ _
      | exact LeO.none _
      | refine LeO.ite ?_ ?_
      | refine LeO.bind ?_ (fun _ => ?_)
    · intro y0 y1 y2 y3 y4 y5 y6 y7
      unfold flatironlaw01_PathWays.j4
      repeat' first
      | (with_reducible exact ih0 _ _ _)
      | (with_reducible exact ih1 _ _ _)
      | (with_reducible exact ih2 _ _ _ _ _ _)
      | (with_reducible exact ih3 _ _ _ _ _ _ _)
      | (with_reducible exact ih4 _ _ _ _ _ _ _ _)
      | (with_reducible exact ih5 _ _ _ _ _ _ _ _ _)
      | (with_reducible exact flatironlaw01_lives.mono _)
      | (with_reducible exact flatironref01_Base.mono _ _)
      | (with_reducible exact flatironref01_Dir.mono _ _)
      | (with_reducible exact flatironref01_In.mono _ _ _)
      | (with_reducible exact flatironref01_Join.mono _ _)
      | (with_reducible exact flatironref01_Split.mono _ _)
      | (with_reducible exact flatironref01_Text.mono _ _)
      | (with_reducible exact path_In.mono _ _ _)
      | (with_reducible exact path_Join.mono _ _)
      | (with_reducible exact path_To.mono _ _ _)
      | (with_reducible exact LeO.refl _)
      | (with_reducible exact LeO.none _)
      | (with_reducible refine LeO.ite ?_ ?_)
      | (with_reducible refine LeO.bind ?_ (fun _ => ?_))
      | exact ih0 _ _ _
      | exact ih1 _ _ _
      | exact ih2 _ _ _ _ _ _
      | exact ih3 _ _ _ _ _ _ _
      | exact ih4 _ _ _ _ _ _ _ _
      | exact ih5 _ _ _ _ _ _ _ _ _
      | exact flatironlaw01_lives.mono _
      | exact flatironref01_Base.mono _ _
      | exact flatironref01_Dir.mono _ _
      | exact flatironref01_In.mono _ _ _
      | exact flatironref01_Join.mono _ _
      | exact flatironref01_Split.mono _ _
      | exact flatironref01_Text.mono _ _
      | exact path_In.mono _ _ _
      | exact path_Join.mono _ _
      | exact path_To.mono _ _ _
      | exact LeO.none _
      | refine LeO.ite ?_ ?_
      | refine LeO.bind ?_ (fun _ => ?_)
    · intro y0 y1 y2 y3 y4 y5 y6 y7 y8
      unfold flatironlaw01_PathWays.j5
      repeat' first
      | (with_reducible exact ih0 _ _ _)
      | (with_reducible exact ih1 _ _ _)
      | (with_reducible exact ih2 _ _ _ _ _ _)
      | (with_reducible exact ih3 _ _ _ _ _ _ _)
      | (with_reducible exact ih4 _ _ _ _ _ _ _ _)
      | (with_reducible exact ih5 _ _ _ _ _ _ _ _ _)
      | (with_reducible exact flatironlaw01_lives.mono _)
      | (with_reducible exact flatironref01_Base.mono _ _)
      | (with_reducible exact flatironref01_Dir.mono _ _)
      | (with_reducible exact flatironref01_In.mono _ _ _)
      | (with_reducible exact flatironref01_Join.mono _ _)
      | (with_reducible exact flatironref01_Split.mono _ _)
      | (with_reducible exact flatironref01_Text.mono _ _)
      | (with_reducible exact path_In.mono _ _ _)
      | (with_reducible exact path_Join.mono _ _)
      | (with_reducible exact path_To.mono _ _ _)
      | (with_reducible exact LeO.refl _)
      | (with_reducible exact LeO.none _)
      | (with_reducible refine LeO.ite ?_ ?_)
      | (with_reducible refine LeO.bind ?_ (fun _ => ?_))
      | exact ih0 _ _ _
      | exact ih1 _ _ _
      | exact ih2 _ _ _ _ _ _
      | exact ih3 _ _ _ _ _ _ _
      | exact ih4 _ _ _ _ _ _ _ _
      | exact ih5 _ _ _ _ _ _ _ _ _
      | exact flatironlaw01_lives.mono _
      | exact flatironref01_Base.mono _ _
      | exact flatironref01_Dir.mono _ _
      | exact flatironref01_In.mono _ _ _
      | exact flatironref01_Join.mono _ _
      | exact flatironref01_Split.mono _ _
      | exact flatironref01_Text.mono _ _
      | exact path_In.mono _ _ _
      | exact path_Join.mono _ _
      | exact path_To.mono _ _ _
      | exact LeO.none _
      | refine LeO.ite ?_ ?_
      | refine LeO.bind ?_ (fun _ => ?_)
theorem flatironlaw01_PathWays.mono : ∀ a0 a1 k, LeO (flatironlaw01_PathWays.f k a0 a1) (flatironlaw01_PathWays.f (k + 1) a0 a1) := by
  intro a0 a1 k
  obtain ⟨ih0, ih1, ih2, ih3, ih4, ih5⟩ := flatironlaw01_PathWays.mono_l k
  unfold flatironlaw01_PathWays.f
  repeat' first
      | (with_reducible exact ih0 _ _ _)
      | (with_reducible exact ih1 _ _ _)
      | (with_reducible exact ih2 _ _ _ _ _ _)
      | (with_reducible exact ih3 _ _ _ _ _ _ _)
      | (with_reducible exact ih4 _ _ _ _ _ _ _ _)
      | (with_reducible exact ih5 _ _ _ _ _ _ _ _ _)
      | (with_reducible exact flatironlaw01_lives.mono _)
      | (with_reducible exact flatironref01_Base.mono _ _)
      | (with_reducible exact flatironref01_Dir.mono _ _)
      | (with_reducible exact flatironref01_In.mono _ _ _)
      | (with_reducible exact flatironref01_Join.mono _ _)
      | (with_reducible exact flatironref01_Split.mono _ _)
      | (with_reducible exact flatironref01_Text.mono _ _)
      | (with_reducible exact path_In.mono _ _ _)
      | (with_reducible exact path_Join.mono _ _)
      | (with_reducible exact path_To.mono _ _ _)
      | (with_reducible exact LeO.refl _)
      | (with_reducible exact LeO.none _)
      | (with_reducible refine LeO.ite ?_ ?_)
      | (with_reducible refine LeO.bind ?_ (fun _ => ?_))
      | exact ih0 _ _ _
      | exact ih1 _ _ _
      | exact ih2 _ _ _ _ _ _
      | exact ih3 _ _ _ _ _ _ _
      | exact ih4 _ _ _ _ _ _ _ _
      | exact ih5 _ _ _ _ _ _ _ _ _
      | exact flatironlaw01_lives.mono _
      | exact flatironref01_Base.mono _ _
      | exact flatironref01_Dir.mono _ _
      | exact flatironref01_In.mono _ _ _
      | exact flatironref01_Join.mono _ _
      | exact flatironref01_Split.mono _ _
      | exact flatironref01_Text.mono _ _
      | exact path_In.mono _ _ _
      | exact path_Join.mono _ _
      | exact path_To.mono _ _ _
      | exact LeO.none _
      | refine LeO.ite ?_ ?_
      | refine LeO.bind ?_ (fun _ => ?_)
set_option maxHeartbeats 8000000 in
set_option maxRecDepth 100000 in
theorem flatironlaw01_PathWays.calls (k : Nat) (a0 : ByteArray) (a1 : ByteArray) (r : Bool) (w : World) (hSH : Shp w) (h : flatironlaw01_PathWays.f k a0 a1 = some r) :
    Calls Tryd.prog 7 #[.string a0, .string a1] w fun e w' => e = .returned (.bool r) ∧ Below w.heap.size w w' := by
  have HSH := Aside0.mk hSH
  clear hSH
  have HB := Aside0.mk (Below.refl w.heap.size w)
  have H : ((flatironlaw01_lives.f k).bind fun t256 => (if t256 = true then (flatironlaw01_PathWays.j0 k a0 a1 (decide ((wrap64 ((a0.size : Int) + (a1.size : Int))) > 600))) else (flatironlaw01_PathWays.j0 k a0 a1 true))) = some r := h
  clear h
  have HC3 := Aside0.mk H
  clear H
  go_enter Tryd.func7, Tryd.ntmps7
  go_upto_region 1 with (fail)
  repeat (go_quiet (fail); go_upto_region 1 with (fail))
  go_cut [27] (fun v27 wc => ∃ (kq : Nat) (x27_2 : Bool), v27 = .bool x27_2 ∧ Aside0 (flatironlaw01_PathWays.j0 kq a0 a1 x27_2 = some r) ∧ Aside0 (kq ≤ k) ∧ Aside0 (Below w.heap.size w wc))
  case first =>
    have H := HC3.out
    clear HC3
    replace H := Option.bind_eq_some_iff.mp H
    obtain ⟨t256, A40, H⟩ := H
    replace H : (if t256 = true then (flatironlaw01_PathWays.j0 k a0 a1 (decide ((wrap64 ((a0.size : Int) + (a1.size : Int))) > 600))) else (flatironlaw01_PathWays.j0 k a0 a1 true)) = some r := H
    have A4 := Aside0.mk A40
    clear A40
    by_cases c5 : t256 = true
    · subst c5
      have H1 : (flatironlaw01_PathWays.j0 k a0 a1 (decide ((wrap64 ((a0.size : Int) + (a1.size : Int))) > 600))) = some r := by rw [if_pos rfl] at H; exact H
      clear H
      have H := H1
      clear H1
      have H' := Aside0.mk H
      clear H
      go_wp2_with (first | (go_at_call 26; (with_reducible refine (flatironlaw01_lives.calls k  true _ ?side1 A4.out).mono ?_); (case side1 => first | exact HSH.out | exact Shp.below HSH.out (by repeat (first | (with_reducible first | exact HB.out | apply below_alloc | apply pw_below_drewN | apply below_drew1) | exact HB.out))); (try clear A4); rintro e w6 ⟨rfl, hb⟩; have n0_ := Aside0.mk (below_step (by repeat (first | (with_reducible first | exact HB.out | apply below_alloc | apply pw_below_drewN | apply below_drew1) | exact HB.out)) hb); clear HB; have HB := n0_; clear n0_; (try clear hb); (try clear hb2); (try clear hk); (try clear hi)))
      repeat (go_quiet (first | (go_at_call 26; (with_reducible refine (flatironlaw01_lives.calls k  true _ ?side1 A4.out).mono ?_); (case side1 => first | exact HSH.out | exact Shp.below HSH.out (by repeat (first | (with_reducible first | exact HB.out | apply below_alloc | apply pw_below_drewN | apply below_drew1) | exact HB.out))); (try clear A4); rintro e w6 ⟨rfl, hb⟩; have n0_ := Aside0.mk (below_step (by repeat (first | (with_reducible first | exact HB.out | apply below_alloc | apply pw_below_drewN | apply below_drew1) | exact HB.out)) hb); clear HB; have HB := n0_; clear n0_; (try clear hb); (try clear hb2); (try clear hk); (try clear hi))); try go_wp2_with (first | (go_at_call 26; (with_reducible refine (flatironlaw01_lives.calls k  true _ ?side1 A4.out).mono ?_); (case side1 => first | exact HSH.out | exact Shp.below HSH.out (by repeat (first | (with_reducible first | exact HB.out | apply below_alloc | apply pw_below_drewN | apply below_drew1) | exact HB.out))); (try clear A4); rintro e w6 ⟨rfl, hb⟩; have n0_ := Aside0.mk (below_step (by repeat (first | (with_reducible first | exact HB.out | apply below_alloc | apply pw_below_drewN | apply below_drew1) | exact HB.out)) hb); clear HB; have HB := n0_; clear n0_; (try clear hb); (try clear hb2); (try clear hk); (try clear hi))))
      go_meet
      case rel => exact ⟨_, (decide ((wrap64 ((a0.size : Int) + (a1.size : Int))) > 600)), (by first | rfl | (simp; done) | (simp [*]; done)), H', ⟨by first | omega | exact Nat.le_refl _⟩, ⟨by repeat (first | (with_reducible first | exact HB.out | apply below_alloc | apply pw_below_drewN | apply below_drew1) | exact HB.out)⟩⟩
    · replace c5 := Bool.eq_false_iff.mpr c5
      subst c5
      have H1 : (flatironlaw01_PathWays.j0 k a0 a1 true) = some r := by rw [if_neg (show ¬ (false = true) by decide)] at H; exact H
      clear H
      have H := H1
      clear H1
      have H' := Aside0.mk H
      clear H
      go_wp2_with (first | (go_at_call 26; (with_reducible refine (flatironlaw01_lives.calls k  false _ ?side1 A4.out).mono ?_); (case side1 => first | exact HSH.out | exact Shp.below HSH.out (by repeat (first | (with_reducible first | exact HB.out | apply below_alloc | apply pw_below_drewN | apply below_drew1) | exact HB.out))); (try clear A4); rintro e w7 ⟨rfl, hb⟩; have n0_ := Aside0.mk (below_step (by repeat (first | (with_reducible first | exact HB.out | apply below_alloc | apply pw_below_drewN | apply below_drew1) | exact HB.out)) hb); clear HB; have HB := n0_; clear n0_; (try clear hb); (try clear hb2); (try clear hk); (try clear hi)))
      repeat (go_quiet (first | (go_at_call 26; (with_reducible refine (flatironlaw01_lives.calls k  false _ ?side1 A4.out).mono ?_); (case side1 => first | exact HSH.out | exact Shp.below HSH.out (by repeat (first | (with_reducible first | exact HB.out | apply below_alloc | apply pw_below_drewN | apply below_drew1) | exact HB.out))); (try clear A4); rintro e w7 ⟨rfl, hb⟩; have n0_ := Aside0.mk (below_step (by repeat (first | (with_reducible first | exact HB.out | apply below_alloc | apply pw_below_drewN | apply below_drew1) | exact HB.out)) hb); clear HB; have HB := n0_; clear n0_; (try clear hb); (try clear hb2); (try clear hk); (try clear hi))); try go_wp2_with (first | (go_at_call 26; (with_reducible refine (flatironlaw01_lives.calls k  false _ ?side1 A4.out).mono ?_); (case side1 => first | exact HSH.out | exact Shp.below HSH.out (by repeat (first | (with_reducible first | exact HB.out | apply below_alloc | apply pw_below_drewN | apply below_drew1) | exact HB.out))); (try clear A4); rintro e w7 ⟨rfl, hb⟩; have n0_ := Aside0.mk (below_step (by repeat (first | (with_reducible first | exact HB.out | apply below_alloc | apply pw_below_drewN | apply below_drew1) | exact HB.out)) hb); clear HB; have HB := n0_; clear n0_; (try clear hb); (try clear hb2); (try clear hk); (try clear hi))))
      go_meet
      case rel => exact ⟨_, (true), (by first | rfl | (simp; done) | (simp [*]; done)), H', ⟨by first | omega | exact Nat.le_refl _⟩, ⟨by repeat (first | (with_reducible first | exact HB.out | apply below_alloc | apply pw_below_drewN | apply below_drew1) | exact HB.out)⟩⟩
  case rest =>
    clear HC3
    try clear p2
    try clear c5
    try clear p6
    try clear c7
    obtain ⟨kq, x27_2, rfl, HA, HJ2, HB⟩ := hcut
    cases kq with
    | zero => exact absurd HA.out (by simp [flatironlaw01_PathWays.j0])
    | succ kj2 =>
      have H := HA.out
      clear HA
      simp only [flatironlaw01_PathWays.j0] at H
      by_cases c8 : x27_2 = true
      · subst c8
        have H1 : ((flatironlaw01_lives.f kj2).bind fun t257 => (some t257)) = some r := by rw [if_pos rfl] at H; exact H
        clear H
        have H := H1
        clear H1
        replace H := Option.bind_eq_some_iff.mp H
        obtain ⟨t257, A90, H⟩ := H
        replace H : (some t257) = some r := H
        have A9 := Aside0.mk A90
        clear A90
        obtain rfl := Option.some.inj H
        go_wp2_with (first | (go_at_call 26; (with_reducible refine (flatironlaw01_lives.calls kj2  t257 _ ?side1 A9.out).mono ?_); (case side1 => first | exact HSH.out | exact Shp.below HSH.out (by repeat (first | (with_reducible first | exact HB.out | apply below_alloc | apply pw_below_drewN | apply below_drew1) | exact HB.out))); (try clear A9); rintro e w10 ⟨rfl, hb⟩; have n0_ := Aside0.mk (below_step (by repeat (first | (with_reducible first | exact HB.out | apply below_alloc | apply pw_below_drewN | apply below_drew1) | exact HB.out)) hb); clear HB; have HB := n0_; clear n0_; (try clear hb); (try clear hb2); (try clear hk); (try clear hi)))
        repeat (go_quiet (first | (go_at_call 26; (with_reducible refine (flatironlaw01_lives.calls kj2  t257 _ ?side1 A9.out).mono ?_); (case side1 => first | exact HSH.out | exact Shp.below HSH.out (by repeat (first | (with_reducible first | exact HB.out | apply below_alloc | apply pw_below_drewN | apply below_drew1) | exact HB.out))); (try clear A9); rintro e w10 ⟨rfl, hb⟩; have n0_ := Aside0.mk (below_step (by repeat (first | (with_reducible first | exact HB.out | apply below_alloc | apply pw_below_drewN | apply below_drew1) | exact HB.out)) hb); clear HB; have HB := n0_; clear n0_; (try clear hb); (try clear hb2); (try clear hk); (try clear hi))); try go_wp2_with (first | (go_at_call 26; (with_reducible refine (flatironlaw01_lives.calls kj2  t257 _ ?side1 A9.out).mono ?_); (case side1 => first | exact HSH.out | exact Shp.below HSH.out (by repeat (first | (with_reducible first | exact HB.out | apply below_alloc | apply pw_below_drewN | apply below_drew1) | exact HB.out))); (try clear A9); rintro e w10 ⟨rfl, hb⟩; have n0_ := Aside0.mk (below_step (by repeat (first | (with_reducible first | exact HB.out | apply below_alloc | apply pw_below_drewN | apply below_drew1) | exact HB.out)) hb); clear HB; have HB := n0_; clear n0_; (try clear hb); (try clear hb2); (try clear hk); (try clear hi))))
        go_ret
        exact ⟨by first | rfl | (simp [errW_none, errW_some] <;> rfl) | (simp [*, errW_none, errW_some] <;> rfl), by repeat (first | (with_reducible first | exact HB.out | apply below_alloc | apply pw_below_drewN | apply below_drew1) | exact HB.out)⟩
      · replace c8 := Bool.eq_false_iff.mpr c8
        subst c8
        have H1 : ((flatironref01_Join.f kj2 (([a0] : List ByteArray))).bind fun bt261 => ((flatironref01_Join.f kj2 (([a1] : List ByteArray))).bind fun bt266 => (if bt261.2 = true then (flatironlaw01_PathWays.j1 kj2 bt261.1 bt266.1 (!bt266.2)) else (flatironlaw01_PathWays.j1 kj2 bt261.1 bt266.1 true)))) = some r := by rw [if_neg (show ¬ (false = true) by decide)] at H; exact H
        clear H
        have H := H1
        clear H1
        obtain ⟨y258, hy258⟩ : ∃ y_ : List ByteArray, y_ = (([a0] : List ByteArray)) := ⟨_, rfl⟩
        replace H : ((flatironref01_Join.f kj2 y258).bind fun bt261 => ((flatironref01_Join.f kj2 (([a1] : List ByteArray))).bind fun bt266 => (if bt261.2 = true then (flatironlaw01_PathWays.j1 kj2 bt261.1 bt266.1 (!bt266.2)) else (flatironlaw01_PathWays.j1 kj2 bt261.1 bt266.1 true)))) = some r := by first | (rw [hy258]; with_reducible exact H) | (have H2_ := (Option.bind_some _ _).symm.trans H; rw [hy258]; with_reducible exact H2_) | (have H2_ := (Option.bind_some _ _).symm.trans H; with_reducible exact H2_) | with_reducible exact H | (rw [hy258]; exact H) | exact H
        have Ny258 := Aside0.mk hy258
        clear hy258
        replace H := Option.bind_eq_some_iff.mp H
        obtain ⟨⟨t261, t262⟩, A110, H⟩ := H
        replace H : ((flatironref01_Join.f kj2 (([a1] : List ByteArray))).bind fun bt266 => (if t262 = true then (flatironlaw01_PathWays.j1 kj2 t261 bt266.1 (!bt266.2)) else (flatironlaw01_PathWays.j1 kj2 t261 bt266.1 true))) = some r := H
        have A11 := Aside0.mk A110
        clear A110
        obtain ⟨y263, hy263⟩ : ∃ y_ : List ByteArray, y_ = (([a1] : List ByteArray)) := ⟨_, rfl⟩
        replace H : ((flatironref01_Join.f kj2 y263).bind fun bt266 => (if t262 = true then (flatironlaw01_PathWays.j1 kj2 t261 bt266.1 (!bt266.2)) else (flatironlaw01_PathWays.j1 kj2 t261 bt266.1 true))) = some r := by first | (rw [hy263]; with_reducible exact H) | (have H2_ := (Option.bind_some _ _).symm.trans H; rw [hy263]; with_reducible exact H2_) | (have H2_ := (Option.bind_some _ _).symm.trans H; with_reducible exact H2_) | with_reducible exact H | (rw [hy263]; exact H) | exact H
        have Ny263 := Aside0.mk hy263
        clear hy263
        replace H := Option.bind_eq_some_iff.mp H
        obtain ⟨⟨t266, t267⟩, A120, H⟩ := H
        replace H : (if t262 = true then (flatironlaw01_PathWays.j1 kj2 t261 t266 (!t267)) else (flatironlaw01_PathWays.j1 kj2 t261 t266 true)) = some r := H
        have A12 := Aside0.mk A120
        clear A120
        have HC13 := Aside0.mk H
        clear H
        go_upto_region 5 with (first | ((with_reducible refine gate_dst (N := 31) rfl ?_); (try (refine gate_guard (by rfl) ?_; dsimp only)); refine Kd.R_lit Kd.string _ 9 ?hg (N := 31) ?hd (xs := ([a0] : List ByteArray)) (inner := [.string a0]) (ok := fun _ => True) (okp := fun _ => True) ?hr ?hp (fun _ hk => hk) trivial (Below.refl _ _) (Nat.le_refl _) (by simp) ?_; (case hd => rfl); (case hg => rfl); (case hr => first | (go_simp; done) | (go_simp; rfl)); (case hp => exact (Reps.one (show Kd.M Kd.string _ _ _ a0 [.string a0] from rfl) (Reps.none _ _))); intro v259 w14 ho15 hb hg_ hnew_; clear hg_ hnew_; (first | rw [← Ny258.out] at ho15 | (simp only [Int.reduceToNat] at ho15; rw [← Ny258.out] at ho15)); have n0_ := Aside0.mk (Kd.R_lower ho15 (below_size (by repeat (first | (with_reducible first | exact HB.out | apply below_alloc | apply pw_below_drewN | apply below_drew1) | exact HB.out)))); have n1_ := Aside0.mk (below_step (by repeat (first | (with_reducible first | exact HB.out | apply below_alloc | apply pw_below_drewN | apply below_drew1) | exact HB.out)) hb); clear HB; have HO260 := n0_; have HB := n1_; clear n0_ n1_; clear hb ho15; obtain ⟨Ao16, co16, eo16⟩ := Kd.R_slice HO260.out; subst eo16) | (go_at_call 27; (with_reducible refine (flatironref01_Join.calls kj2 _ _ y258 t261 t262 _ ?side1 ?side2 A11.out).mono ?_); (case side1 => repeat (first | exact (Kd.R_reads' HO260.out).2.2 | (with_reducible refine Kd.C_alloc ?_ _) | (with_reducible refine Kd.C_drewN ?_ _) | (with_reducible refine Kd.C_drew ?_))); (case side2 => exact (Kd.R_reads' HO260.out).2.1); (try clear A11); rintro e w17 ⟨rfl, hb⟩; have n0_ := Aside0.mk (Kd.R_below (by (with_reducible repeat (first | apply Kd.R_alloc | apply Kd.R_drewN | apply Kd.R_drew)); (first | exact HO260.out | (first | refine Kd.R_mono HO260.out (fun _ hk => ?_) | refine Kd.S_mono HO260.out (fun _ hk => ?_) | refine Kd.Q_mono HO260.out (fun _ hk => ?_)); simp only [ownBlock_slice] at hk ⊢; exact hk)) hb); have n1_ := Aside0.mk (below_step (by repeat (first | (with_reducible first | exact HB.out | apply below_alloc | apply pw_below_drewN | apply below_drew1) | exact HB.out)) hb); clear HO260; clear HB; have HO260 := n0_; have HB := n1_; clear n0_ n1_; (try clear hb); (try clear hb2); (try clear hk); (try clear hi)) | ((with_reducible refine gate_dst (N := 37) rfl ?_); (try (refine gate_guard (by rfl) ?_; dsimp only)); refine Kd.R_lit Kd.string _ 9 ?hg (N := 37) ?hd (xs := ([a1] : List ByteArray)) (inner := [.string a1]) (ok := fun _ => True) (okp := fun _ => True) ?hr ?hp (fun _ hk => hk) trivial (Below.refl _ _) (Nat.le_refl _) (by simp) ?_; (case hd => rfl); (case hg => rfl); (case hr => first | (go_simp; done) | (go_simp; rfl)); (case hp => exact (Reps.one (show Kd.M Kd.string _ _ _ a1 [.string a1] from rfl) (Reps.none _ _))); intro v264 w18 ho19 hb hg_ hnew_; clear hg_ hnew_; (first | rw [← Ny263.out] at ho19 | (simp only [Int.reduceToNat] at ho19; rw [← Ny263.out] at ho19)); have n0_ := Aside0.mk (Kd.R_elder' (by (with_reducible repeat (first | apply Kd.R_alloc | apply Kd.R_drewN | apply Kd.R_drew)); (first | exact HO260.out | (first | refine Kd.R_mono HO260.out (fun _ hk => ?_) | refine Kd.S_mono HO260.out (fun _ hk => ?_) | refine Kd.Q_mono HO260.out (fun _ hk => ?_)); simp only [ownBlock_slice] at hk ⊢; exact hk)) (Kd.R_base ho19) hb); have n1_ := Aside0.mk (Kd.R_lower (Kd.R_new' ho19 (Kd.R_lt (by (with_reducible repeat (first | apply Kd.R_alloc | apply Kd.R_drewN | apply Kd.R_drew)); (first | exact HO260.out | (first | refine Kd.R_mono HO260.out (fun _ hk => ?_) | refine Kd.S_mono HO260.out (fun _ hk => ?_) | refine Kd.Q_mono HO260.out (fun _ hk => ?_)); simp only [ownBlock_slice] at hk ⊢; exact hk)))) (below_size (by repeat (first | (with_reducible first | exact HB.out | apply below_alloc | apply pw_below_drewN | apply below_drew1) | exact HB.out)))); have n2_ := Aside0.mk (below_step (by repeat (first | (with_reducible first | exact HB.out | apply below_alloc | apply pw_below_drewN | apply below_drew1) | exact HB.out)) hb); clear HO260; clear HB; have HO260 := n0_; have HO265 := n1_; have HB := n2_; clear n0_ n1_ n2_; clear hb ho19; obtain ⟨Ao20, co20, eo20⟩ := Kd.R_slice HO265.out; subst eo20) | (go_at_call 27; (with_reducible refine (flatironref01_Join.calls kj2 _ _ y263 t266 t267 _ ?side1 ?side2 A12.out).mono ?_); (case side1 => repeat (first | exact (Kd.R_reads' HO265.out).2.2 | (with_reducible refine Kd.C_alloc ?_ _) | (with_reducible refine Kd.C_drewN ?_ _) | (with_reducible refine Kd.C_drew ?_))); (case side2 => exact (Kd.R_reads' HO265.out).2.1); (try clear A12); rintro e w21 ⟨rfl, hb⟩; have n0_ := Aside0.mk (Kd.R_below (by (with_reducible repeat (first | apply Kd.R_alloc | apply Kd.R_drewN | apply Kd.R_drew)); (first | exact HO260.out | (first | refine Kd.R_mono HO260.out (fun _ hk => ?_) | refine Kd.S_mono HO260.out (fun _ hk => ?_) | refine Kd.Q_mono HO260.out (fun _ hk => ?_)); simp only [ownBlock_slice] at hk ⊢; exact hk)) hb); have n1_ := Aside0.mk (Kd.R_below (by (with_reducible repeat (first | apply Kd.R_alloc | apply Kd.R_drewN | apply Kd.R_drew)); (first | exact HO265.out | (first | refine Kd.R_mono HO265.out (fun _ hk => ?_) | refine Kd.S_mono HO265.out (fun _ hk => ?_) | refine Kd.Q_mono HO265.out (fun _ hk => ?_)); simp only [ownBlock_slice] at hk ⊢; exact hk)) hb); have n2_ := Aside0.mk (below_step (by repeat (first | (with_reducible first | exact HB.out | apply below_alloc | apply pw_below_drewN | apply below_drew1) | exact HB.out)) hb); clear HO260; clear HO265; clear HB; have HO260 := n0_; have HO265 := n1_; have HB := n2_; clear n0_ n1_ n2_; (try clear hb); (try clear hb2); (try clear hk); (try clear hi)))
        repeat (go_quiet (first | ((with_reducible refine gate_dst (N := 31) rfl ?_); (try (refine gate_guard (by rfl) ?_; dsimp only)); refine Kd.R_lit Kd.string _ 9 ?hg (N := 31) ?hd (xs := ([a0] : List ByteArray)) (inner := [.string a0]) (ok := fun _ => True) (okp := fun _ => True) ?hr ?hp (fun _ hk => hk) trivial (Below.refl _ _) (Nat.le_refl _) (by simp) ?_; (case hd => rfl); (case hg => rfl); (case hr => first | (go_simp; done) | (go_simp; rfl)); (case hp => exact (Reps.one (show Kd.M Kd.string _ _ _ a0 [.string a0] from rfl) (Reps.none _ _))); intro v259 w14 ho15 hb hg_ hnew_; clear hg_ hnew_; (first | rw [← Ny258.out] at ho15 | (simp only [Int.reduceToNat] at ho15; rw [← Ny258.out] at ho15)); have n0_ := Aside0.mk (Kd.R_lower ho15 (below_size (by repeat (first | (with_reducible first | exact HB.out | apply below_alloc | apply pw_below_drewN | apply below_drew1) | exact HB.out)))); have n1_ := Aside0.mk (below_step (by repeat (first | (with_reducible first | exact HB.out | apply below_alloc | apply pw_below_drewN | apply below_drew1) | exact HB.out)) hb); clear HB; have HO260 := n0_; have HB := n1_; clear n0_ n1_; clear hb ho15; obtain ⟨Ao16, co16, eo16⟩ := Kd.R_slice HO260.out; subst eo16) | (go_at_call 27; (with_reducible refine (flatironref01_Join.calls kj2 _ _ y258 t261 t262 _ ?side1 ?side2 A11.out).mono ?_); (case side1 => repeat (first | exact (Kd.R_reads' HO260.out).2.2 | (with_reducible refine Kd.C_alloc ?_ _) | (with_reducible refine Kd.C_drewN ?_ _) | (with_reducible refine Kd.C_drew ?_))); (case side2 => exact (Kd.R_reads' HO260.out).2.1); (try clear A11); rintro e w17 ⟨rfl, hb⟩; have n0_ := Aside0.mk (Kd.R_below (by (with_reducible repeat (first | apply Kd.R_alloc | apply Kd.R_drewN | apply Kd.R_drew)); (first | exact HO260.out | (first | refine Kd.R_mono HO260.out (fun _ hk => ?_) | refine Kd.S_mono HO260.out (fun _ hk => ?_) | refine Kd.Q_mono HO260.out (fun _ hk => ?_)); simp only [ownBlock_slice] at hk ⊢; exact hk)) hb); have n1_ := Aside0.mk (below_step (by repeat (first | (with_reducible first | exact HB.out | apply below_alloc | apply pw_below_drewN | apply below_drew1) | exact HB.out)) hb); clear HO260; clear HB; have HO260 := n0_; have HB := n1_; clear n0_ n1_; (try clear hb); (try clear hb2); (try clear hk); (try clear hi)) | ((with_reducible refine gate_dst (N := 37) rfl ?_); (try (refine gate_guard (by rfl) ?_; dsimp only)); refine Kd.R_lit Kd.string _ 9 ?hg (N := 37) ?hd (xs := ([a1] : List ByteArray)) (inner := [.string a1]) (ok := fun _ => True) (okp := fun _ => True) ?hr ?hp (fun _ hk => hk) trivial (Below.refl _ _) (Nat.le_refl _) (by simp) ?_; (case hd => rfl); (case hg => rfl); (case hr => first | (go_simp; done) | (go_simp; rfl)); (case hp => exact (Reps.one (show Kd.M Kd.string _ _ _ a1 [.string a1] from rfl) (Reps.none _ _))); intro v264 w18 ho19 hb hg_ hnew_; clear hg_ hnew_; (first | rw [← Ny263.out] at ho19 | (simp only [Int.reduceToNat] at ho19; rw [← Ny263.out] at ho19)); have n0_ := Aside0.mk (Kd.R_elder' (by (with_reducible repeat (first | apply Kd.R_alloc | apply Kd.R_drewN | apply Kd.R_drew)); (first | exact HO260.out | (first | refine Kd.R_mono HO260.out (fun _ hk => ?_) | refine Kd.S_mono HO260.out (fun _ hk => ?_) | refine Kd.Q_mono HO260.out (fun _ hk => ?_)); simp only [ownBlock_slice] at hk ⊢; exact hk)) (Kd.R_base ho19) hb); have n1_ := Aside0.mk (Kd.R_lower (Kd.R_new' ho19 (Kd.R_lt (by (with_reducible repeat (first | apply Kd.R_alloc | apply Kd.R_drewN | apply Kd.R_drew)); (first | exact HO260.out | (first | refine Kd.R_mono HO260.out (fun _ hk => ?_) | refine Kd.S_mono HO260.out (fun _ hk => ?_) | refine Kd.Q_mono HO260.out (fun _ hk => ?_)); simp only [ownBlock_slice] at hk ⊢; exact hk)))) (below_size (by repeat (first | (with_reducible first | exact HB.out | apply below_alloc | apply pw_below_drewN | apply below_drew1) | exact HB.out)))); have n2_ := Aside0.mk (below_step (by repeat (first | (with_reducible first | exact HB.out | apply below_alloc | apply pw_below_drewN | apply below_drew1) | exact HB.out)) hb); clear HO260; clear HB; have HO260 := n0_; have HO265 := n1_; have HB := n2_; clear n0_ n1_ n2_; clear hb ho19; obtain ⟨Ao20, co20, eo20⟩ := Kd.R_slice HO265.out; subst eo20) | (go_at_call 27; (with_reducible refine (flatironref01_Join.calls kj2 _ _ y263 t266 t267 _ ?side1 ?side2 A12.out).mono ?_); (case side1 => repeat (first | exact (Kd.R_reads' HO265.out).2.2 | (with_reducible refine Kd.C_alloc ?_ _) | (with_reducible refine Kd.C_drewN ?_ _) | (with_reducible refine Kd.C_drew ?_))); (case side2 => exact (Kd.R_reads' HO265.out).2.1); (try clear A12); rintro e w21 ⟨rfl, hb⟩; have n0_ := Aside0.mk (Kd.R_below (by (with_reducible repeat (first | apply Kd.R_alloc | apply Kd.R_drewN | apply Kd.R_drew)); (first | exact HO260.out | (first | refine Kd.R_mono HO260.out (fun _ hk => ?_) | refine Kd.S_mono HO260.out (fun _ hk => ?_) | refine Kd.Q_mono HO260.out (fun _ hk => ?_)); simp only [ownBlock_slice] at hk ⊢; exact hk)) hb); have n1_ := Aside0.mk (Kd.R_below (by (with_reducible repeat (first | apply Kd.R_alloc | apply Kd.R_drewN | apply Kd.R_drew)); (first | exact HO265.out | (first | refine Kd.R_mono HO265.out (fun _ hk => ?_) | refine Kd.S_mono HO265.out (fun _ hk => ?_) | refine Kd.Q_mono HO265.out (fun _ hk => ?_)); simp only [ownBlock_slice] at hk ⊢; exact hk)) hb); have n2_ := Aside0.mk (below_step (by repeat (first | (with_reducible first | exact HB.out | apply below_alloc | apply pw_below_drewN | apply below_drew1) | exact HB.out)) hb); clear HO260; clear HO265; clear HB; have HO260 := n0_; have HO265 := n1_; have HB := n2_; clear n0_ n1_ n2_; (try clear hb); (try clear hb2); (try clear hk); (try clear hi))); go_upto_region 5 with (first | ((with_reducible refine gate_dst (N := 31) rfl ?_); (try (refine gate_guard (by rfl) ?_; dsimp only)); refine Kd.R_lit Kd.string _ 9 ?hg (N := 31) ?hd (xs := ([a0] : List ByteArray)) (inner := [.string a0]) (ok := fun _ => True) (okp := fun _ => True) ?hr ?hp (fun _ hk => hk) trivial (Below.refl _ _) (Nat.le_refl _) (by simp) ?_; (case hd => rfl); (case hg => rfl); (case hr => first | (go_simp; done) | (go_simp; rfl)); (case hp => exact (Reps.one (show Kd.M Kd.string _ _ _ a0 [.string a0] from rfl) (Reps.none _ _))); intro v259 w14 ho15 hb hg_ hnew_; clear hg_ hnew_; (first | rw [← Ny258.out] at ho15 | (simp only [Int.reduceToNat] at ho15; rw [← Ny258.out] at ho15)); have n0_ := Aside0.mk (Kd.R_lower ho15 (below_size (by repeat (first | (with_reducible first | exact HB.out | apply below_alloc | apply pw_below_drewN | apply below_drew1) | exact HB.out)))); have n1_ := Aside0.mk (below_step (by repeat (first | (with_reducible first | exact HB.out | apply below_alloc | apply pw_below_drewN | apply below_drew1) | exact HB.out)) hb); clear HB; have HO260 := n0_; have HB := n1_; clear n0_ n1_; clear hb ho15; obtain ⟨Ao16, co16, eo16⟩ := Kd.R_slice HO260.out; subst eo16) | (go_at_call 27; (with_reducible refine (flatironref01_Join.calls kj2 _ _ y258 t261 t262 _ ?side1 ?side2 A11.out).mono ?_); (case side1 => repeat (first | exact (Kd.R_reads' HO260.out).2.2 | (with_reducible refine Kd.C_alloc ?_ _) | (with_reducible refine Kd.C_drewN ?_ _) | (with_reducible refine Kd.C_drew ?_))); (case side2 => exact (Kd.R_reads' HO260.out).2.1); (try clear A11); rintro e w17 ⟨rfl, hb⟩; have n0_ := Aside0.mk (Kd.R_below (by (with_reducible repeat (first | apply Kd.R_alloc | apply Kd.R_drewN | apply Kd.R_drew)); (first | exact HO260.out | (first | refine Kd.R_mono HO260.out (fun _ hk => ?_) | refine Kd.S_mono HO260.out (fun _ hk => ?_) | refine Kd.Q_mono HO260.out (fun _ hk => ?_)); simp only [ownBlock_slice] at hk ⊢; exact hk)) hb); have n1_ := Aside0.mk (below_step (by repeat (first | (with_reducible first | exact HB.out | apply below_alloc | apply pw_below_drewN | apply below_drew1) | exact HB.out)) hb); clear HO260; clear HB; have HO260 := n0_; have HB := n1_; clear n0_ n1_; (try clear hb); (try clear hb2); (try clear hk); (try clear hi)) | ((with_reducible refine gate_dst (N := 37) rfl ?_); (try (refine gate_guard (by rfl) ?_; dsimp only)); refine Kd.R_lit Kd.string _ 9 ?hg (N := 37) ?hd (xs := ([a1] : List ByteArray)) (inner := [.string a1]) (ok := fun _ => True) (okp := fun _ => True) ?hr ?hp (fun _ hk => hk) trivial (Below.refl _ _) (Nat.le_refl _) (by simp) ?_; (case hd => rfl); (case hg => rfl); (case hr => first | (go_simp; done) | (go_simp; rfl)); (case hp => exact (Reps.one (show Kd.M Kd.string _ _ _ a1 [.string a1] from rfl) (Reps.none _ _))); intro v264 w18 ho19 hb hg_ hnew_; clear hg_ hnew_; (first | rw [← Ny263.out] at ho19 | (simp only [Int.reduceToNat] at ho19; rw [← Ny263.out] at ho19)); have n0_ := Aside0.mk (Kd.R_elder' (by (with_reducible repeat (first | apply Kd.R_alloc | apply Kd.R_drewN | apply Kd.R_drew)); (first | exact HO260.out | (first | refine Kd.R_mono HO260.out (fun _ hk => ?_) | refine Kd.S_mono HO260.out (fun _ hk => ?_) | refine Kd.Q_mono HO260.out (fun _ hk => ?_)); simp only [ownBlock_slice] at hk ⊢; exact hk)) (Kd.R_base ho19) hb); have n1_ := Aside0.mk (Kd.R_lower (Kd.R_new' ho19 (Kd.R_lt (by (with_reducible repeat (first | apply Kd.R_alloc | apply Kd.R_drewN | apply Kd.R_drew)); (first | exact HO260.out | (first | refine Kd.R_mono HO260.out (fun _ hk => ?_) | refine Kd.S_mono HO260.out (fun _ hk => ?_) | refine Kd.Q_mono HO260.out (fun _ hk => ?_)); simp only [ownBlock_slice] at hk ⊢; exact hk)))) (below_size (by repeat (first | (with_reducible first | exact HB.out | apply below_alloc | apply pw_below_drewN | apply below_drew1) | exact HB.out)))); have n2_ := Aside0.mk (below_step (by repeat (first | (with_reducible first | exact HB.out | apply below_alloc | apply pw_below_drewN | apply below_drew1) | exact HB.out)) hb); clear HO260; clear HB; have HO260 := n0_; have HO265 := n1_; have HB := n2_; clear n0_ n1_ n2_; clear hb ho19; obtain ⟨Ao20, co20, eo20⟩ := Kd.R_slice HO265.out; subst eo20) | (go_at_call 27; (with_reducible refine (flatironref01_Join.calls kj2 _ _ y263 t266 t267 _ ?side1 ?side2 A12.out).mono ?_); (case side1 => repeat (first | exact (Kd.R_reads' HO265.out).2.2 | (with_reducible refine Kd.C_alloc ?_ _) | (with_reducible refine Kd.C_drewN ?_ _) | (with_reducible refine Kd.C_drew ?_))); (case side2 => exact (Kd.R_reads' HO265.out).2.1); (try clear A12); rintro e w21 ⟨rfl, hb⟩; have n0_ := Aside0.mk (Kd.R_below (by (with_reducible repeat (first | apply Kd.R_alloc | apply Kd.R_drewN | apply Kd.R_drew)); (first | exact HO260.out | (first | refine Kd.R_mono HO260.out (fun _ hk => ?_) | refine Kd.S_mono HO260.out (fun _ hk => ?_) | refine Kd.Q_mono HO260.out (fun _ hk => ?_)); simp only [ownBlock_slice] at hk ⊢; exact hk)) hb); have n1_ := Aside0.mk (Kd.R_below (by (with_reducible repeat (first | apply Kd.R_alloc | apply Kd.R_drewN | apply Kd.R_drew)); (first | exact HO265.out | (first | refine Kd.R_mono HO265.out (fun _ hk => ?_) | refine Kd.S_mono HO265.out (fun _ hk => ?_) | refine Kd.Q_mono HO265.out (fun _ hk => ?_)); simp only [ownBlock_slice] at hk ⊢; exact hk)) hb); have n2_ := Aside0.mk (below_step (by repeat (first | (with_reducible first | exact HB.out | apply below_alloc | apply pw_below_drewN | apply below_drew1) | exact HB.out)) hb); clear HO260; clear HO265; clear HB; have HO260 := n0_; have HO265 := n1_; have HB := n2_; clear n0_ n1_ n2_; (try clear hb); (try clear hb2); (try clear hk); (try clear hi))))
        (try simp only [Act.put, List.setIfInBounds_toArray, List.set_cons_zero, List.set_cons_succ])
        go_cut [46] (fun v46 wc => ∃ (kq : Nat) (x46_12 : Bool), v46 = .bool x46_12 ∧ Aside0 (flatironlaw01_PathWays.j1 kq t261 t266 x46_12 = some r) ∧ Aside0 (kq ≤ kj2) ∧ Aside0 (Below w.heap.size w wc))
        case first =>
          have H := HC13.out
          clear HC13
          by_cases c22 : t262 = true
          · subst c22
            have H1 : (flatironlaw01_PathWays.j1 kj2 t261 t266 (!t267)) = some r := by rw [if_pos rfl] at H; exact H
            clear H
            have H := H1
            clear H1
            have H' := Aside0.mk H
            clear H
            go_wp2
            repeat (go_quiet (fail); try go_wp2)
            go_meet
            case rel => exact ⟨_, (!t267), (by first | rfl | (simp; done) | (simp [*]; done)), H', ⟨by have := HJ2.out; first | omega | exact Nat.le_refl _⟩, ⟨by repeat (first | (with_reducible first | exact HB.out | apply below_alloc | apply pw_below_drewN | apply below_drew1) | exact HB.out)⟩⟩
          · replace c22 := Bool.eq_false_iff.mpr c22
            subst c22
            have H1 : (flatironlaw01_PathWays.j1 kj2 t261 t266 true) = some r := by rw [if_neg (show ¬ (false = true) by decide)] at H; exact H
            clear H
            have H := H1
            clear H1
            have H' := Aside0.mk H
            clear H
            go_wp2
            repeat (go_quiet (fail); try go_wp2)
            go_meet
            case rel => exact ⟨_, (true), (by first | rfl | (simp; done) | (simp [*]; done)), H', ⟨by have := HJ2.out; first | omega | exact Nat.le_refl _⟩, ⟨by repeat (first | (with_reducible first | exact HB.out | apply below_alloc | apply pw_below_drewN | apply below_drew1) | exact HB.out)⟩⟩
        case rest =>
          clear HC13
          try clear c2
          try clear p2
          try clear c5
          try clear p6
          try clear c7
          try clear c8
          try clear c22
          try clear p2
          try clear p6
          obtain ⟨kq, x46_12, rfl, HA, HJ12, HB⟩ := hcut
          cases kq with
          | zero => exact absurd HA.out (by simp [flatironlaw01_PathWays.j1])
          | succ kj12 =>
            have H := HA.out
            clear HA
            simp only [flatironlaw01_PathWays.j1] at H
            by_cases c23 : x46_12 = true
            · subst c23
              have H1 : (some true) = some r := by rw [if_pos rfl] at H; exact H
              clear H
              have H := H1
              clear H1
              obtain rfl := Option.some.inj H
              go_wp2
              repeat (go_quiet (fail); try go_wp2)
              go_ret
              exact ⟨by first | rfl | (simp [errW_none, errW_some] <;> rfl) | (simp [*, errW_none, errW_some] <;> rfl), by repeat (first | (with_reducible first | exact HB.out | apply below_alloc | apply pw_below_drewN | apply below_drew1) | exact HB.out)⟩
            · replace c23 := Bool.eq_false_iff.mpr c23
              subst c23
              have H1 : ((path_To.f kj12 t261 t266).bind fun t268 => ((path_Join.f kj12 (([t266, t268] : List ByteArray))).bind fun bt272 => ((path_Dir.f t261).bind fun t274 => ((flatironref01_Dir.f kj12 t261).bind fun t275 => (if t274.toList = t275.toList then ((path_Base.f t261).bind fun t276 => ((flatironref01_Base.f kj12 t261).bind fun t277 => (if t276.toList = t277.toList then ((path_In.f kj12 t261 t266).bind fun t278 => ((flatironref01_In.f kj12 t261 t266).bind fun t279 => (flatironlaw01_PathWays.j2 kj12 t261 t266 t268 bt272.1 bt272.2 (t278 != t279)))) else (flatironlaw01_PathWays.j2 kj12 t261 t266 t268 bt272.1 bt272.2 true)))) else (flatironlaw01_PathWays.j2 kj12 t261 t266 t268 bt272.1 bt272.2 true)))))) = some r := by rw [if_neg (show ¬ (false = true) by decide)] at H; exact H
              clear H
              have H := H1
              clear H1
              replace H := Option.bind_eq_some_iff.mp H
              obtain ⟨t268, A240, H⟩ := H
              replace H : ((path_Join.f kj12 (([t266, t268] : List ByteArray))).bind fun bt272 => ((path_Dir.f t261).bind fun t274 => ((flatironref01_Dir.f kj12 t261).bind fun t275 => (if t274.toList = t275.toList then ((path_Base.f t261).bind fun t276 => ((flatironref01_Base.f kj12 t261).bind fun t277 => (if t276.toList = t277.toList then ((path_In.f kj12 t261 t266).bind fun t278 => ((flatironref01_In.f kj12 t261 t266).bind fun t279 => (flatironlaw01_PathWays.j2 kj12 t261 t266 t268 bt272.1 bt272.2 (t278 != t279)))) else (flatironlaw01_PathWays.j2 kj12 t261 t266 t268 bt272.1 bt272.2 true)))) else (flatironlaw01_PathWays.j2 kj12 t261 t266 t268 bt272.1 bt272.2 true))))) = some r := H
              have A24 := Aside0.mk A240
              clear A240
              obtain ⟨y269, hy269⟩ : ∃ y_ : List ByteArray, y_ = (([t266, t268] : List ByteArray)) := ⟨_, rfl⟩
              replace H : ((path_Join.f kj12 y269).bind fun bt272 => ((path_Dir.f t261).bind fun t274 => ((flatironref01_Dir.f kj12 t261).bind fun t275 => (if t274.toList = t275.toList then ((path_Base.f t261).bind fun t276 => ((flatironref01_Base.f kj12 t261).bind fun t277 => (if t276.toList = t277.toList then ((path_In.f kj12 t261 t266).bind fun t278 => ((flatironref01_In.f kj12 t261 t266).bind fun t279 => (flatironlaw01_PathWays.j2 kj12 t261 t266 t268 bt272.1 bt272.2 (t278 != t279)))) else (flatironlaw01_PathWays.j2 kj12 t261 t266 t268 bt272.1 bt272.2 true)))) else (flatironlaw01_PathWays.j2 kj12 t261 t266 t268 bt272.1 bt272.2 true))))) = some r := by first | (rw [hy269]; with_reducible exact H) | (have H2_ := (Option.bind_some _ _).symm.trans H; rw [hy269]; with_reducible exact H2_) | (have H2_ := (Option.bind_some _ _).symm.trans H; with_reducible exact H2_) | with_reducible exact H | (rw [hy269]; exact H) | exact H
              have Ny269 := Aside0.mk hy269
              clear hy269
              replace H := Option.bind_eq_some_iff.mp H
              obtain ⟨⟨t272, t273⟩, A250, H⟩ := H
              replace H : ((path_Dir.f t261).bind fun t274 => ((flatironref01_Dir.f kj12 t261).bind fun t275 => (if t274.toList = t275.toList then ((path_Base.f t261).bind fun t276 => ((flatironref01_Base.f kj12 t261).bind fun t277 => (if t276.toList = t277.toList then ((path_In.f kj12 t261 t266).bind fun t278 => ((flatironref01_In.f kj12 t261 t266).bind fun t279 => (flatironlaw01_PathWays.j2 kj12 t261 t266 t268 t272 t273 (t278 != t279)))) else (flatironlaw01_PathWays.j2 kj12 t261 t266 t268 t272 t273 true)))) else (flatironlaw01_PathWays.j2 kj12 t261 t266 t268 t272 t273 true)))) = some r := H
              have A25 := Aside0.mk A250
              clear A250
              have HC26 := Aside0.mk H
              clear H
              go_upto_region 9 with (first | (go_at_call 30; (with_reducible refine (path_To.calls kj12 t261 t266 t268 _ ?side1 A24.out).mono ?_); (case side1 => first | exact HSH.out | exact Shp.below HSH.out (by repeat (first | (with_reducible first | exact HB.out | apply below_alloc | apply pw_below_drewN | apply below_drew1) | exact HB.out))); (try clear A24); rintro e w27 ⟨rfl, hb⟩; have n0_ := Aside0.mk (below_step (by repeat (first | (with_reducible first | exact HB.out | apply below_alloc | apply pw_below_drewN | apply below_drew1) | exact HB.out)) hb); clear HB; have HB := n0_; clear n0_; (try clear hb); (try clear hb2); (try clear hk); (try clear hi)) | ((with_reducible refine gate_dst (N := 53) rfl ?_); (try (refine gate_guard (by rfl) ?_; dsimp only)); refine Kd.R_lit Kd.string _ 9 ?hg (N := 53) ?hd (xs := ([t266, t268] : List ByteArray)) (inner := [.string t266, .string t268]) (ok := fun _ => True) (okp := fun _ => True) ?hr ?hp (fun _ hk => hk) trivial (Below.refl _ _) (Nat.le_refl _) (by simp) ?_; (case hd => rfl); (case hg => rfl); (case hr => first | (go_simp; done) | (go_simp; rfl)); (case hp => exact (Reps.one (show Kd.M Kd.string _ _ _ t266 [.string t266] from rfl) (Reps.one (show Kd.M Kd.string _ _ _ t268 [.string t268] from rfl) (Reps.none _ _)))); intro v270 w28 ho29 hb hg_ hnew_; clear hg_ hnew_; (first | rw [← Ny269.out] at ho29 | (simp only [Int.reduceToNat] at ho29; rw [← Ny269.out] at ho29)); have n0_ := Aside0.mk (Kd.R_lower ho29 (below_size (by repeat (first | (with_reducible first | exact HB.out | apply below_alloc | apply pw_below_drewN | apply below_drew1) | exact HB.out)))); have n1_ := Aside0.mk (below_step (by repeat (first | (with_reducible first | exact HB.out | apply below_alloc | apply pw_below_drewN | apply below_drew1) | exact HB.out)) hb); clear HB; have HO271 := n0_; have HB := n1_; clear n0_ n1_; clear hb ho29; obtain ⟨Ao30, co30, eo30⟩ := Kd.R_slice HO271.out; subst eo30) | (go_at_call 29; (with_reducible refine (path_Join.calls kj12 _ _ y269 t272 t273 _ ?side1 ?side2 ?side3 A25.out).mono ?_); (case side1 => first | exact HSH.out | exact Shp.below HSH.out (by repeat (first | (with_reducible first | exact HB.out | apply below_alloc | apply pw_below_drewN | apply below_drew1) | exact HB.out))); (case side2 => repeat (first | exact (Kd.R_reads' HO271.out).2.2 | (with_reducible refine Kd.C_alloc ?_ _) | (with_reducible refine Kd.C_drewN ?_ _) | (with_reducible refine Kd.C_drew ?_))); (case side3 => exact (Kd.R_reads' HO271.out).2.1); (try clear A25); rintro e w31 ⟨rfl, hb⟩; have n0_ := Aside0.mk (Kd.R_below (by (with_reducible repeat (first | apply Kd.R_alloc | apply Kd.R_drewN | apply Kd.R_drew)); (first | exact HO271.out | (first | refine Kd.R_mono HO271.out (fun _ hk => ?_) | refine Kd.S_mono HO271.out (fun _ hk => ?_) | refine Kd.Q_mono HO271.out (fun _ hk => ?_)); simp only [ownBlock_slice] at hk ⊢; exact hk)) hb); have n1_ := Aside0.mk (below_step (by repeat (first | (with_reducible first | exact HB.out | apply below_alloc | apply pw_below_drewN | apply below_drew1) | exact HB.out)) hb); clear HO271; clear HB; have HO271 := n0_; have HB := n1_; clear n0_ n1_; (try clear hb); (try clear hb2); (try clear hk); (try clear hi)))
              repeat (go_quiet (first | (go_at_call 30; (with_reducible refine (path_To.calls kj12 t261 t266 t268 _ ?side1 A24.out).mono ?_); (case side1 => first | exact HSH.out | exact Shp.below HSH.out (by repeat (first | (with_reducible first | exact HB.out | apply below_alloc | apply pw_below_drewN | apply below_drew1) | exact HB.out))); (try clear A24); rintro e w27 ⟨rfl, hb⟩; have n0_ := Aside0.mk (below_step (by repeat (first | (with_reducible first | exact HB.out | apply below_alloc | apply pw_below_drewN | apply below_drew1) | exact HB.out)) hb); clear HB; have HB := n0_; clear n0_; (try clear hb); (try clear hb2); (try clear hk); (try clear hi)) | ((with_reducible refine gate_dst (N := 53) rfl ?_); (try (refine gate_guard (by rfl) ?_; dsimp only)); refine Kd.R_lit Kd.string _ 9 ?hg (N := 53) ?hd (xs := ([t266, t268] : List ByteArray)) (inner := [.string t266, .string t268]) (ok := fun _ => True) (okp := fun _ => True) ?hr ?hp (fun _ hk => hk) trivial (Below.refl _ _) (Nat.le_refl _) (by simp) ?_; (case hd => rfl); (case hg => rfl); (case hr => first | (go_simp; done) | (go_simp; rfl)); (case hp => exact (Reps.one (show Kd.M Kd.string _ _ _ t266 [.string t266] from rfl) (Reps.one (show Kd.M Kd.string _ _ _ t268 [.string t268] from rfl) (Reps.none _ _)))); intro v270 w28 ho29 hb hg_ hnew_; clear hg_ hnew_; (first | rw [← Ny269.out] at ho29 | (simp only [Int.reduceToNat] at ho29; rw [← Ny269.out] at ho29)); have n0_ := Aside0.mk (Kd.R_lower ho29 (below_size (by repeat (first | (with_reducible first | exact HB.out | apply below_alloc | apply pw_below_drewN | apply below_drew1) | exact HB.out)))); have n1_ := Aside0.mk (below_step (by repeat (first | (with_reducible first | exact HB.out | apply below_alloc | apply pw_below_drewN | apply below_drew1) | exact HB.out)) hb); clear HB; have HO271 := n0_; have HB := n1_; clear n0_ n1_; clear hb ho29; obtain ⟨Ao30, co30, eo30⟩ := Kd.R_slice HO271.out; subst eo30) | (go_at_call 29; (with_reducible refine (path_Join.calls kj12 _ _ y269 t272 t273 _ ?side1 ?side2 ?side3 A25.out).mono ?_); (case side1 => first | exact HSH.out | exact Shp.below HSH.out (by repeat (first | (with_reducible first | exact HB.out | apply below_alloc | apply pw_below_drewN | apply below_drew1) | exact HB.out))); (case side2 => repeat (first | exact (Kd.R_reads' HO271.out).2.2 | (with_reducible refine Kd.C_alloc ?_ _) | (with_reducible refine Kd.C_drewN ?_ _) | (with_reducible refine Kd.C_drew ?_))); (case side3 => exact (Kd.R_reads' HO271.out).2.1); (try clear A25); rintro e w31 ⟨rfl, hb⟩; have n0_ := Aside0.mk (Kd.R_below (by (with_reducible repeat (first | apply Kd.R_alloc | apply Kd.R_drewN | apply Kd.R_drew)); (first | exact HO271.out | (first | refine Kd.R_mono HO271.out (fun _ hk => ?_) | refine Kd.S_mono HO271.out (fun _ hk => ?_) | refine Kd.Q_mono HO271.out (fun _ hk => ?_)); simp only [ownBlock_slice] at hk ⊢; exact hk)) hb); have n1_ := Aside0.mk (below_step (by repeat (first | (with_reducible first | exact HB.out | apply below_alloc | apply pw_below_drewN | apply below_drew1) | exact HB.out)) hb); clear HO271; clear HB; have HO271 := n0_; have HB := n1_; clear n0_ n1_; (try clear hb); (try clear hb2); (try clear hk); (try clear hi))); go_upto_region 9 with (first | (go_at_call 30; (with_reducible refine (path_To.calls kj12 t261 t266 t268 _ ?side1 A24.out).mono ?_); (case side1 => first | exact HSH.out | exact Shp.below HSH.out (by repeat (first | (with_reducible first | exact HB.out | apply below_alloc | apply pw_below_drewN | apply below_drew1) | exact HB.out))); (try clear A24); rintro e w27 ⟨rfl, hb⟩; have n0_ := Aside0.mk (below_step (by repeat (first | (with_reducible first | exact HB.out | apply below_alloc | apply pw_below_drewN | apply below_drew1) | exact HB.out)) hb); clear HB; have HB := n0_; clear n0_; (try clear hb); (try clear hb2); (try clear hk); (try clear hi)) | ((with_reducible refine gate_dst (N := 53) rfl ?_); (try (refine gate_guard (by rfl) ?_; dsimp only)); refine Kd.R_lit Kd.string _ 9 ?hg (N := 53) ?hd (xs := ([t266, t268] : List ByteArray)) (inner := [.string t266, .string t268]) (ok := fun _ => True) (okp := fun _ => True) ?hr ?hp (fun _ hk => hk) trivial (Below.refl _ _) (Nat.le_refl _) (by simp) ?_; (case hd => rfl); (case hg => rfl); (case hr => first | (go_simp; done) | (go_simp; rfl)); (case hp => exact (Reps.one (show Kd.M Kd.string _ _ _ t266 [.string t266] from rfl) (Reps.one (show Kd.M Kd.string _ _ _ t268 [.string t268] from rfl) (Reps.none _ _)))); intro v270 w28 ho29 hb hg_ hnew_; clear hg_ hnew_; (first | rw [← Ny269.out] at ho29 | (simp only [Int.reduceToNat] at ho29; rw [← Ny269.out] at ho29)); have n0_ := Aside0.mk (Kd.R_lower ho29 (below_size (by repeat (first | (with_reducible first | exact HB.out | apply below_alloc | apply pw_below_drewN | apply below_drew1) | exact HB.out)))); have n1_ := Aside0.mk (below_step (by repeat (first | (with_reducible first | exact HB.out | apply below_alloc | apply pw_below_drewN | apply below_drew1) | exact HB.out)) hb); clear HB; have HO271 := n0_; have HB := n1_; clear n0_ n1_; clear hb ho29; obtain ⟨Ao30, co30, eo30⟩ := Kd.R_slice HO271.out; subst eo30) | (go_at_call 29; (with_reducible refine (path_Join.calls kj12 _ _ y269 t272 t273 _ ?side1 ?side2 ?side3 A25.out).mono ?_); (case side1 => first | exact HSH.out | exact Shp.below HSH.out (by repeat (first | (with_reducible first | exact HB.out | apply below_alloc | apply pw_below_drewN | apply below_drew1) | exact HB.out))); (case side2 => repeat (first | exact (Kd.R_reads' HO271.out).2.2 | (with_reducible refine Kd.C_alloc ?_ _) | (with_reducible refine Kd.C_drewN ?_ _) | (with_reducible refine Kd.C_drew ?_))); (case side3 => exact (Kd.R_reads' HO271.out).2.1); (try clear A25); rintro e w31 ⟨rfl, hb⟩; have n0_ := Aside0.mk (Kd.R_below (by (with_reducible repeat (first | apply Kd.R_alloc | apply Kd.R_drewN | apply Kd.R_drew)); (first | exact HO271.out | (first | refine Kd.R_mono HO271.out (fun _ hk => ?_) | refine Kd.S_mono HO271.out (fun _ hk => ?_) | refine Kd.Q_mono HO271.out (fun _ hk => ?_)); simp only [ownBlock_slice] at hk ⊢; exact hk)) hb); have n1_ := Aside0.mk (below_step (by repeat (first | (with_reducible first | exact HB.out | apply below_alloc | apply pw_below_drewN | apply below_drew1) | exact HB.out)) hb); clear HO271; clear HB; have HO271 := n0_; have HB := n1_; clear n0_ n1_; (try clear hb); (try clear hb2); (try clear hk); (try clear hi))))
              (try simp only [Act.put, List.setIfInBounds_toArray, List.set_cons_zero, List.set_cons_succ])
              go_cut [77] (fun v77 wc => ∃ (kq : Nat) (x77_25 : Bool), v77 = .bool x77_25 ∧ Aside0 (flatironlaw01_PathWays.j2 kq t261 t266 t268 t272 t273 x77_25 = some r) ∧ Aside0 (kq ≤ kj12) ∧ Aside0 (Below w.heap.size w wc))
              case first =>
                have H := HC26.out
                clear HC26
                replace H := Option.bind_eq_some_iff.mp H
                obtain ⟨t274, A320, H⟩ := H
                replace H : ((flatironref01_Dir.f kj12 t261).bind fun t275 => (if t274.toList = t275.toList then ((path_Base.f t261).bind fun t276 => ((flatironref01_Base.f kj12 t261).bind fun t277 => (if t276.toList = t277.toList then ((path_In.f kj12 t261 t266).bind fun t278 => ((flatironref01_In.f kj12 t261 t266).bind fun t279 => (flatironlaw01_PathWays.j2 kj12 t261 t266 t268 t272 t273 (t278 != t279)))) else (flatironlaw01_PathWays.j2 kj12 t261 t266 t268 t272 t273 true)))) else (flatironlaw01_PathWays.j2 kj12 t261 t266 t268 t272 t273 true))) = some r := H
                have A32 := Aside0.mk A320
                clear A320
                replace H := Option.bind_eq_some_iff.mp H
                obtain ⟨t275, A330, H⟩ := H
                replace H : (if t274.toList = t275.toList then ((path_Base.f t261).bind fun t276 => ((flatironref01_Base.f kj12 t261).bind fun t277 => (if t276.toList = t277.toList then ((path_In.f kj12 t261 t266).bind fun t278 => ((flatironref01_In.f kj12 t261 t266).bind fun t279 => (flatironlaw01_PathWays.j2 kj12 t261 t266 t268 t272 t273 (t278 != t279)))) else (flatironlaw01_PathWays.j2 kj12 t261 t266 t268 t272 t273 true)))) else (flatironlaw01_PathWays.j2 kj12 t261 t266 t268 t272 t273 true)) = some r := H
                have A33 := Aside0.mk A330
                clear A330
                by_cases c34 : t274.toList = t275.toList
                · rw [if_pos c34] at H
                  have c34b0 : (t274.toList == t275.toList) = true := beq_iff_eq.mpr c34
                  have c34b1 : (t274.toList != t275.toList) = false := bne_eq_false_iff_eq.mpr c34
                  clear c34
                  (first | rw [c34b0] | (simp only [i64_w, i32_w]; rw [c34b0]) | skip)
                  replace H := Option.bind_eq_some_iff.mp H
                  obtain ⟨t276, A350, H⟩ := H
                  replace H : ((flatironref01_Base.f kj12 t261).bind fun t277 => (if t276.toList = t277.toList then ((path_In.f kj12 t261 t266).bind fun t278 => ((flatironref01_In.f kj12 t261 t266).bind fun t279 => (flatironlaw01_PathWays.j2 kj12 t261 t266 t268 t272 t273 (t278 != t279)))) else (flatironlaw01_PathWays.j2 kj12 t261 t266 t268 t272 t273 true))) = some r := H
                  have A35 := Aside0.mk A350
                  clear A350
                  replace H := Option.bind_eq_some_iff.mp H
                  obtain ⟨t277, A360, H⟩ := H
                  replace H : (if t276.toList = t277.toList then ((path_In.f kj12 t261 t266).bind fun t278 => ((flatironref01_In.f kj12 t261 t266).bind fun t279 => (flatironlaw01_PathWays.j2 kj12 t261 t266 t268 t272 t273 (t278 != t279)))) else (flatironlaw01_PathWays.j2 kj12 t261 t266 t268 t272 t273 true)) = some r := H
                  have A36 := Aside0.mk A360
                  clear A360
                  by_cases c37 : t276.toList = t277.toList
                  · rw [if_pos c37] at H
                    have c37b0 : (t276.toList == t277.toList) = true := beq_iff_eq.mpr c37
                    have c37b1 : (t276.toList != t277.toList) = false := bne_eq_false_iff_eq.mpr c37
                    clear c37
                    replace H := Option.bind_eq_some_iff.mp H
                    obtain ⟨t278, A380, H⟩ := H
                    replace H : ((flatironref01_In.f kj12 t261 t266).bind fun t279 => (flatironlaw01_PathWays.j2 kj12 t261 t266 t268 t272 t273 (t278 != t279))) = some r := H
                    have A38 := Aside0.mk A380
                    clear A380
                    replace H := Option.bind_eq_some_iff.mp H
                    obtain ⟨t279, A390, H⟩ := H
                    replace H : (flatironlaw01_PathWays.j2 kj12 t261 t266 t268 t272 t273 (t278 != t279)) = some r := H
                    have A39 := Aside0.mk A390
                    clear A390
                    have H' := Aside0.mk H
                    clear H
                    go_wp2_with (first | (go_at_call 31; (with_reducible refine (path_Dir.calls t261 t274 _ ?side1 A32.out).mono ?_); (case side1 => first | exact HSH.out | exact Shp.below HSH.out (by repeat (first | (with_reducible first | exact HB.out | apply below_alloc | apply pw_below_drewN | apply below_drew1) | exact HB.out))); (try clear A32); rintro e w40 ⟨rfl, hb⟩; have n0_ := Aside0.mk (Kd.R_below (by (with_reducible repeat (first | apply Kd.R_alloc | apply Kd.R_drewN | apply Kd.R_drew)); (first | exact HO271.out | (first | refine Kd.R_mono HO271.out (fun _ hk => ?_) | refine Kd.S_mono HO271.out (fun _ hk => ?_) | refine Kd.Q_mono HO271.out (fun _ hk => ?_)); simp only [ownBlock_slice] at hk ⊢; exact hk)) hb); have n1_ := Aside0.mk (below_step (by repeat (first | (with_reducible first | exact HB.out | apply below_alloc | apply pw_below_drewN | apply below_drew1) | exact HB.out)) hb); clear HO271; clear HB; have HO271 := n0_; have HB := n1_; clear n0_ n1_; (try clear hb); (try clear hb2); (try clear hk); (try clear hi)) | (go_at_call 32; (with_reducible refine (flatironref01_Dir.calls kj12 t261 t275 _ A33.out).mono ?_); (try clear A33); rintro e w41 ⟨rfl, hb⟩; have n0_ := Aside0.mk (Kd.R_below (by (with_reducible repeat (first | apply Kd.R_alloc | apply Kd.R_drewN | apply Kd.R_drew)); (first | exact HO271.out | (first | refine Kd.R_mono HO271.out (fun _ hk => ?_) | refine Kd.S_mono HO271.out (fun _ hk => ?_) | refine Kd.Q_mono HO271.out (fun _ hk => ?_)); simp only [ownBlock_slice] at hk ⊢; exact hk)) hb); have n1_ := Aside0.mk (below_step (by repeat (first | (with_reducible first | exact HB.out | apply below_alloc | apply pw_below_drewN | apply below_drew1) | exact HB.out)) hb); clear HO271; clear HB; have HO271 := n0_; have HB := n1_; clear n0_ n1_; (try clear hb); (try clear hb2); (try clear hk); (try clear hi)) | (go_at_call 33; (with_reducible refine (path_Base.calls t261 t276 _ ?side1 A35.out).mono ?_); (case side1 => first | exact HSH.out | exact Shp.below HSH.out (by repeat (first | (with_reducible first | exact HB.out | apply below_alloc | apply pw_below_drewN | apply below_drew1) | exact HB.out))); (try clear A35); rintro e w42 ⟨rfl, hb⟩; have n0_ := Aside0.mk (Kd.R_below (by (with_reducible repeat (first | apply Kd.R_alloc | apply Kd.R_drewN | apply Kd.R_drew)); (first | exact HO271.out | (first | refine Kd.R_mono HO271.out (fun _ hk => ?_) | refine Kd.S_mono HO271.out (fun _ hk => ?_) | refine Kd.Q_mono HO271.out (fun _ hk => ?_)); simp only [ownBlock_slice] at hk ⊢; exact hk)) hb); have n1_ := Aside0.mk (below_step (by repeat (first | (with_reducible first | exact HB.out | apply below_alloc | apply pw_below_drewN | apply below_drew1) | exact HB.out)) hb); clear HO271; clear HB; have HO271 := n0_; have HB := n1_; clear n0_ n1_; (try clear hb); (try clear hb2); (try clear hk); (try clear hi)) | (go_at_call 34; (with_reducible refine (flatironref01_Base.calls kj12 t261 t277 _ A36.out).mono ?_); (try clear A36); rintro e w43 ⟨rfl, hb⟩; have n0_ := Aside0.mk (Kd.R_below (by (with_reducible repeat (first | apply Kd.R_alloc | apply Kd.R_drewN | apply Kd.R_drew)); (first | exact HO271.out | (first | refine Kd.R_mono HO271.out (fun _ hk => ?_) | refine Kd.S_mono HO271.out (fun _ hk => ?_) | refine Kd.Q_mono HO271.out (fun _ hk => ?_)); simp only [ownBlock_slice] at hk ⊢; exact hk)) hb); have n1_ := Aside0.mk (below_step (by repeat (first | (with_reducible first | exact HB.out | apply below_alloc | apply pw_below_drewN | apply below_drew1) | exact HB.out)) hb); clear HO271; clear HB; have HO271 := n0_; have HB := n1_; clear n0_ n1_; (try clear hb); (try clear hb2); (try clear hk); (try clear hi)) | (go_at_call 35; (with_reducible refine (path_In.calls kj12 t261 t266 t278 _ ?side1 A38.out).mono ?_); (case side1 => first | exact HSH.out | exact Shp.below HSH.out (by repeat (first | (with_reducible first | exact HB.out | apply below_alloc | apply pw_below_drewN | apply below_drew1) | exact HB.out))); (try clear A38); rintro e w44 ⟨rfl, hb⟩; have n0_ := Aside0.mk (Kd.R_below (by (with_reducible repeat (first | apply Kd.R_alloc | apply Kd.R_drewN | apply Kd.R_drew)); (first | exact HO271.out | (first | refine Kd.R_mono HO271.out (fun _ hk => ?_) | refine Kd.S_mono HO271.out (fun _ hk => ?_) | refine Kd.Q_mono HO271.out (fun _ hk => ?_)); simp only [ownBlock_slice] at hk ⊢; exact hk)) hb); have n1_ := Aside0.mk (below_step (by repeat (first | (with_reducible first | exact HB.out | apply below_alloc | apply pw_below_drewN | apply below_drew1) | exact HB.out)) hb); clear HO271; clear HB; have HO271 := n0_; have HB := n1_; clear n0_ n1_; (try clear hb); (try clear hb2); (try clear hk); (try clear hi)) | (go_at_call 36; (with_reducible refine (flatironref01_In.calls kj12 t261 t266 t279 _ A39.out).mono ?_); (try clear A39); rintro e w45 ⟨rfl, hb⟩; have n0_ := Aside0.mk (Kd.R_below (by (with_reducible repeat (first | apply Kd.R_alloc | apply Kd.R_drewN | apply Kd.R_drew)); (first | exact HO271.out | (first | refine Kd.R_mono HO271.out (fun _ hk => ?_) | refine Kd.S_mono HO271.out (fun _ hk => ?_) | refine Kd.Q_mono HO271.out (fun _ hk => ?_)); simp only [ownBlock_slice] at hk ⊢; exact hk)) hb); have n1_ := Aside0.mk (below_step (by repeat (first | (with_reducible first | exact HB.out | apply below_alloc | apply pw_below_drewN | apply below_drew1) | exact HB.out)) hb); clear HO271; clear HB; have HO271 := n0_; have HB := n1_; clear n0_ n1_; (try clear hb); (try clear hb2); (try clear hk); (try clear hi)))
                    repeat (go_quiet (first | (go_at_call 31; (with_reducible refine (path_Dir.calls t261 t274 _ ?side1 A32.out).mono ?_); (case side1 => first | exact HSH.out | exact Shp.below HSH.out (by repeat (first | (with_reducible first | exact HB.out | apply below_alloc | apply pw_below_drewN | apply below_drew1) | exact HB.out))); (try clear A32); rintro e w40 ⟨rfl, hb⟩; have n0_ := Aside0.mk (Kd.R_below (by (with_reducible repeat (first | apply Kd.R_alloc | apply Kd.R_drewN | apply Kd.R_drew)); (first | exact HO271.out | (first | refine Kd.R_mono HO271.out (fun _ hk => ?_) | refine Kd.S_mono HO271.out (fun _ hk => ?_) | refine Kd.Q_mono HO271.out (fun _ hk => ?_)); simp only [ownBlock_slice] at hk ⊢; exact hk)) hb); have n1_ := Aside0.mk (below_step (by repeat (first | (with_reducible first | exact HB.out | apply below_alloc | apply pw_below_drewN | apply below_drew1) | exact HB.out)) hb); clear HO271; clear HB; have HO271 := n0_; have HB := n1_; clear n0_ n1_; (try clear hb); (try clear hb2); (try clear hk); (try clear hi)) | (go_at_call 32; (with_reducible refine (flatironref01_Dir.calls kj12 t261 t275 _ A33.out).mono ?_); (try clear A33); rintro e w41 ⟨rfl, hb⟩; have n0_ := Aside0.mk (Kd.R_below (by (with_reducible repeat (first | apply Kd.R_alloc | apply Kd.R_drewN | apply Kd.R_drew)); (first | exact HO271.out | (first | refine Kd.R_mono HO271.out (fun _ hk => ?_) | refine Kd.S_mono HO271.out (fun _ hk => ?_) | refine Kd.Q_mono HO271.out (fun _ hk => ?_)); simp only [ownBlock_slice] at hk ⊢; exact hk)) hb); have n1_ := Aside0.mk (below_step (by repeat (first | (with_reducible first | exact HB.out | apply below_alloc | apply pw_below_drewN | apply below_drew1) | exact HB.out)) hb); clear HO271; clear HB; have HO271 := n0_; have HB := n1_; clear n0_ n1_; (try clear hb); (try clear hb2); (try clear hk); (try clear hi)) | (go_at_call 33; (with_reducible refine (path_Base.calls t261 t276 _ ?side1 A35.out).mono ?_); (case side1 => first | exact HSH.out | exact Shp.below HSH.out (by repeat (first | (with_reducible first | exact HB.out | apply below_alloc | apply pw_below_drewN | apply below_drew1) | exact HB.out))); (try clear A35); rintro e w42 ⟨rfl, hb⟩; have n0_ := Aside0.mk (Kd.R_below (by (with_reducible repeat (first | apply Kd.R_alloc | apply Kd.R_drewN | apply Kd.R_drew)); (first | exact HO271.out | (first | refine Kd.R_mono HO271.out (fun _ hk => ?_) | refine Kd.S_mono HO271.out (fun _ hk => ?_) | refine Kd.Q_mono HO271.out (fun _ hk => ?_)); simp only [ownBlock_slice] at hk ⊢; exact hk)) hb); have n1_ := Aside0.mk (below_step (by repeat (first | (with_reducible first | exact HB.out | apply below_alloc | apply pw_below_drewN | apply below_drew1) | exact HB.out)) hb); clear HO271; clear HB; have HO271 := n0_; have HB := n1_; clear n0_ n1_; (try clear hb); (try clear hb2); (try clear hk); (try clear hi)) | (go_at_call 34; (with_reducible refine (flatironref01_Base.calls kj12 t261 t277 _ A36.out).mono ?_); (try clear A36); rintro e w43 ⟨rfl, hb⟩; have n0_ := Aside0.mk (Kd.R_below (by (with_reducible repeat (first | apply Kd.R_alloc | apply Kd.R_drewN | apply Kd.R_drew)); (first | exact HO271.out | (first | refine Kd.R_mono HO271.out (fun _ hk => ?_) | refine Kd.S_mono HO271.out (fun _ hk => ?_) | refine Kd.Q_mono HO271.out (fun _ hk => ?_)); simp only [ownBlock_slice] at hk ⊢; exact hk)) hb); have n1_ := Aside0.mk (below_step (by repeat (first | (with_reducible first | exact HB.out | apply below_alloc | apply pw_below_drewN | apply below_drew1) | exact HB.out)) hb); clear HO271; clear HB; have HO271 := n0_; have HB := n1_; clear n0_ n1_; (try clear hb); (try clear hb2); (try clear hk); (try clear hi)) | (go_at_call 35; (with_reducible refine (path_In.calls kj12 t261 t266 t278 _ ?side1 A38.out).mono ?_); (case side1 => first | exact HSH.out | exact Shp.below HSH.out (by repeat (first | (with_reducible first | exact HB.out | apply below_alloc | apply pw_below_drewN | apply below_drew1) | exact HB.out))); (try clear A38); rintro e w44 ⟨rfl, hb⟩; have n0_ := Aside0.mk (Kd.R_below (by (with_reducible repeat (first | apply Kd.R_alloc | apply Kd.R_drewN | apply Kd.R_drew)); (first | exact HO271.out | (first | refine Kd.R_mono HO271.out (fun _ hk => ?_) | refine Kd.S_mono HO271.out (fun _ hk => ?_) | refine Kd.Q_mono HO271.out (fun _ hk => ?_)); simp only [ownBlock_slice] at hk ⊢; exact hk)) hb); have n1_ := Aside0.mk (below_step (by repeat (first | (with_reducible first | exact HB.out | apply below_alloc | apply pw_below_drewN | apply below_drew1) | exact HB.out)) hb); clear HO271; clear HB; have HO271 := n0_; have HB := n1_; clear n0_ n1_; (try clear hb); (try clear hb2); (try clear hk); (try clear hi)) | (go_at_call 36; (with_reducible refine (flatironref01_In.calls kj12 t261 t266 t279 _ A39.out).mono ?_); (try clear A39); rintro e w45 ⟨rfl, hb⟩; have n0_ := Aside0.mk (Kd.R_below (by (with_reducible repeat (first | apply Kd.R_alloc | apply Kd.R_drewN | apply Kd.R_drew)); (first | exact HO271.out | (first | refine Kd.R_mono HO271.out (fun _ hk => ?_) | refine Kd.S_mono HO271.out (fun _ hk => ?_) | refine Kd.Q_mono HO271.out (fun _ hk => ?_)); simp only [ownBlock_slice] at hk ⊢; exact hk)) hb); have n1_ := Aside0.mk (below_step (by repeat (first | (with_reducible first | exact HB.out | apply below_alloc | apply pw_below_drewN | apply below_drew1) | exact HB.out)) hb); clear HO271; clear HB; have HO271 := n0_; have HB := n1_; clear n0_ n1_; (try clear hb); (try clear hb2); (try clear hk); (try clear hi))); try go_wp2_with (first | (go_at_call 31; (with_reducible refine (path_Dir.calls t261 t274 _ ?side1 A32.out).mono ?_); (case side1 => first | exact HSH.out | exact Shp.below HSH.out (by repeat (first | (with_reducible first | exact HB.out | apply below_alloc | apply pw_below_drewN | apply below_drew1) | exact HB.out))); (try clear A32); rintro e w40 ⟨rfl, hb⟩; have n0_ := Aside0.mk (Kd.R_below (by (with_reducible repeat (first | apply Kd.R_alloc | apply Kd.R_drewN | apply Kd.R_drew)); (first | exact HO271.out | (first | refine Kd.R_mono HO271.out (fun _ hk => ?_) | refine Kd.S_mono HO271.out (fun _ hk => ?_) | refine Kd.Q_mono HO271.out (fun _ hk => ?_)); simp only [ownBlock_slice] at hk ⊢; exact hk)) hb); have n1_ := Aside0.mk (below_step (by repeat (first | (with_reducible first | exact HB.out | apply below_alloc | apply pw_below_drewN | apply below_drew1) | exact HB.out)) hb); clear HO271; clear HB; have HO271 := n0_; have HB := n1_; clear n0_ n1_; (try clear hb); (try clear hb2); (try clear hk); (try clear hi)) | (go_at_call 32; (with_reducible refine (flatironref01_Dir.calls kj12 t261 t275 _ A33.out).mono ?_); (try clear A33); rintro e w41 ⟨rfl, hb⟩; have n0_ := Aside0.mk (Kd.R_below (by (with_reducible repeat (first | apply Kd.R_alloc | apply Kd.R_drewN | apply Kd.R_drew)); (first | exact HO271.out | (first | refine Kd.R_mono HO271.out (fun _ hk => ?_) | refine Kd.S_mono HO271.out (fun _ hk => ?_) | refine Kd.Q_mono HO271.out (fun _ hk => ?_)); simp only [ownBlock_slice] at hk ⊢; exact hk)) hb); have n1_ := Aside0.mk (below_step (by repeat (first | (with_reducible first | exact HB.out | apply below_alloc | apply pw_below_drewN | apply below_drew1) | exact HB.out)) hb); clear HO271; clear HB; have HO271 := n0_; have HB := n1_; clear n0_ n1_; (try clear hb); (try clear hb2); (try clear hk); (try clear hi)) | (go_at_call 33; (with_reducible refine (path_Base.calls t261 t276 _ ?side1 A35.out).mono ?_); (case side1 => first | exact HSH.out | exact Shp.below HSH.out (by repeat (first | (with_reducible first | exact HB.out | apply below_alloc | apply pw_below_drewN | apply below_drew1) | exact HB.out))); (try clear A35); rintro e w42 ⟨rfl, hb⟩; have n0_ := Aside0.mk (Kd.R_below (by (with_reducible repeat (first | apply Kd.R_alloc | apply Kd.R_drewN | apply Kd.R_drew)); (first | exact HO271.out | (first | refine Kd.R_mono HO271.out (fun _ hk => ?_) | refine Kd.S_mono HO271.out (fun _ hk => ?_) | refine Kd.Q_mono HO271.out (fun _ hk => ?_)); simp only [ownBlock_slice] at hk ⊢; exact hk)) hb); have n1_ := Aside0.mk (below_step (by repeat (first | (with_reducible first | exact HB.out | apply below_alloc | apply pw_below_drewN | apply below_drew1) | exact HB.out)) hb); clear HO271; clear HB; have HO271 := n0_; have HB := n1_; clear n0_ n1_; (try clear hb); (try clear hb2); (try clear hk); (try clear hi)) | (go_at_call 34; (with_reducible refine (flatironref01_Base.calls kj12 t261 t277 _ A36.out).mono ?_); (try clear A36); rintro e w43 ⟨rfl, hb⟩; have n0_ := Aside0.mk (Kd.R_below (by (with_reducible repeat (first | apply Kd.R_alloc | apply Kd.R_drewN | apply Kd.R_drew)); (first | exact HO271.out | (first | refine Kd.R_mono HO271.out (fun _ hk => ?_) | refine Kd.S_mono HO271.out (fun _ hk => ?_) | refine Kd.Q_mono HO271.out (fun _ hk => ?_)); simp only [ownBlock_slice] at hk ⊢; exact hk)) hb); have n1_ := Aside0.mk (below_step (by repeat (first | (with_reducible first | exact HB.out | apply below_alloc | apply pw_below_drewN | apply below_drew1) | exact HB.out)) hb); clear HO271; clear HB; have HO271 := n0_; have HB := n1_; clear n0_ n1_; (try clear hb); (try clear hb2); (try clear hk); (try clear hi)) | (go_at_call 35; (with_reducible refine (path_In.calls kj12 t261 t266 t278 _ ?side1 A38.out).mono ?_); (case side1 => first | exact HSH.out | exact Shp.below HSH.out (by repeat (first | (with_reducible first | exact HB.out | apply below_alloc | apply pw_below_drewN | apply below_drew1) | exact HB.out))); (try clear A38); rintro e w44 ⟨rfl, hb⟩; have n0_ := Aside0.mk (Kd.R_below (by (with_reducible repeat (first | apply Kd.R_alloc | apply Kd.R_drewN | apply Kd.R_drew)); (first | exact HO271.out | (first | refine Kd.R_mono HO271.out (fun _ hk => ?_) | refine Kd.S_mono HO271.out (fun _ hk => ?_) | refine Kd.Q_mono HO271.out (fun _ hk => ?_)); simp only [ownBlock_slice] at hk ⊢; exact hk)) hb); have n1_ := Aside0.mk (below_step (by repeat (first | (with_reducible first | exact HB.out | apply below_alloc | apply pw_below_drewN | apply below_drew1) | exact HB.out)) hb); clear HO271; clear HB; have HO271 := n0_; have HB := n1_; clear n0_ n1_; (try clear hb); (try clear hb2); (try clear hk); (try clear hi)) | (go_at_call 36; (with_reducible refine (flatironref01_In.calls kj12 t261 t266 t279 _ A39.out).mono ?_); (try clear A39); rintro e w45 ⟨rfl, hb⟩; have n0_ := Aside0.mk (Kd.R_below (by (with_reducible repeat (first | apply Kd.R_alloc | apply Kd.R_drewN | apply Kd.R_drew)); (first | exact HO271.out | (first | refine Kd.R_mono HO271.out (fun _ hk => ?_) | refine Kd.S_mono HO271.out (fun _ hk => ?_) | refine Kd.Q_mono HO271.out (fun _ hk => ?_)); simp only [ownBlock_slice] at hk ⊢; exact hk)) hb); have n1_ := Aside0.mk (below_step (by repeat (first | (with_reducible first | exact HB.out | apply below_alloc | apply pw_below_drewN | apply below_drew1) | exact HB.out)) hb); clear HO271; clear HB; have HO271 := n0_; have HB := n1_; clear n0_ n1_; (try clear hb); (try clear hb2); (try clear hk); (try clear hi))))
                    go_meet
                    case rel => exact ⟨_, ((t278 != t279)), (by first | rfl | (simp; done) | (simp [*]; done)), H', ⟨by have := HJ2.out; have := HJ12.out; first | omega | exact Nat.le_refl _⟩, ⟨by repeat (first | (with_reducible first | exact HB.out | apply below_alloc | apply pw_below_drewN | apply below_drew1) | exact HB.out)⟩⟩
                  · rw [if_neg c37] at H
                    have c37b0 : (t276.toList == t277.toList) = false := beq_eq_false_iff_ne.mpr c37
                    have c37b1 : (t276.toList != t277.toList) = true := bne_iff_ne.mpr c37
                    have H' := Aside0.mk H
                    clear H
                    go_wp2_with (first | (go_at_call 31; (with_reducible refine (path_Dir.calls t261 t274 _ ?side1 A32.out).mono ?_); (case side1 => first | exact HSH.out | exact Shp.below HSH.out (by repeat (first | (with_reducible first | exact HB.out | apply below_alloc | apply pw_below_drewN | apply below_drew1) | exact HB.out))); (try clear A32); rintro e w46 ⟨rfl, hb⟩; have n0_ := Aside0.mk (Kd.R_below (by (with_reducible repeat (first | apply Kd.R_alloc | apply Kd.R_drewN | apply Kd.R_drew)); (first | exact HO271.out | (first | refine Kd.R_mono HO271.out (fun _ hk => ?_) | refine Kd.S_mono HO271.out (fun _ hk => ?_) | refine Kd.Q_mono HO271.out (fun _ hk => ?_)); simp only [ownBlock_slice] at hk ⊢; exact hk)) hb); have n1_ := Aside0.mk (below_step (by repeat (first | (with_reducible first | exact HB.out | apply below_alloc | apply pw_below_drewN | apply below_drew1) | exact HB.out)) hb); clear HO271; clear HB; have HO271 := n0_; have HB := n1_; clear n0_ n1_; (try clear hb); (try clear hb2); (try clear hk); (try clear hi)) | (go_at_call 32; (with_reducible refine (flatironref01_Dir.calls kj12 t261 t275 _ A33.out).mono ?_); (try clear A33); rintro e w47 ⟨rfl, hb⟩; have n0_ := Aside0.mk (Kd.R_below (by (with_reducible repeat (first | apply Kd.R_alloc | apply Kd.R_drewN | apply Kd.R_drew)); (first | exact HO271.out | (first | refine Kd.R_mono HO271.out (fun _ hk => ?_) | refine Kd.S_mono HO271.out (fun _ hk => ?_) | refine Kd.Q_mono HO271.out (fun _ hk => ?_)); simp only [ownBlock_slice] at hk ⊢; exact hk)) hb); have n1_ := Aside0.mk (below_step (by repeat (first | (with_reducible first | exact HB.out | apply below_alloc | apply pw_below_drewN | apply below_drew1) | exact HB.out)) hb); clear HO271; clear HB; have HO271 := n0_; have HB := n1_; clear n0_ n1_; (try clear hb); (try clear hb2); (try clear hk); (try clear hi)) | (go_at_call 33; (with_reducible refine (path_Base.calls t261 t276 _ ?side1 A35.out).mono ?_); (case side1 => first | exact HSH.out | exact Shp.below HSH.out (by repeat (first | (with_reducible first | exact HB.out | apply below_alloc | apply pw_below_drewN | apply below_drew1) | exact HB.out))); (try clear A35); rintro e w48 ⟨rfl, hb⟩; have n0_ := Aside0.mk (Kd.R_below (by (with_reducible repeat (first | apply Kd.R_alloc | apply Kd.R_drewN | apply Kd.R_drew)); (first | exact HO271.out | (first | refine Kd.R_mono HO271.out (fun _ hk => ?_) | refine Kd.S_mono HO271.out (fun _ hk => ?_) | refine Kd.Q_mono HO271.out (fun _ hk => ?_)); simp only [ownBlock_slice] at hk ⊢; exact hk)) hb); have n1_ := Aside0.mk (below_step (by repeat (first | (with_reducible first | exact HB.out | apply below_alloc | apply pw_below_drewN | apply below_drew1) | exact HB.out)) hb); clear HO271; clear HB; have HO271 := n0_; have HB := n1_; clear n0_ n1_; (try clear hb); (try clear hb2); (try clear hk); (try clear hi)) | (go_at_call 34; (with_reducible refine (flatironref01_Base.calls kj12 t261 t277 _ A36.out).mono ?_); (try clear A36); rintro e w49 ⟨rfl, hb⟩; have n0_ := Aside0.mk (Kd.R_below (by (with_reducible repeat (first | apply Kd.R_alloc | apply Kd.R_drewN | apply Kd.R_drew)); (first | exact HO271.out | (first | refine Kd.R_mono HO271.out (fun _ hk => ?_) | refine Kd.S_mono HO271.out (fun _ hk => ?_) | refine Kd.Q_mono HO271.out (fun _ hk => ?_)); simp only [ownBlock_slice] at hk ⊢; exact hk)) hb); have n1_ := Aside0.mk (below_step (by repeat (first | (with_reducible first | exact HB.out | apply below_alloc | apply pw_below_drewN | apply below_drew1) | exact HB.out)) hb); clear HO271; clear HB; have HO271 := n0_; have HB := n1_; clear n0_ n1_; (try clear hb); (try clear hb2); (try clear hk); (try clear hi)))
                    repeat (go_quiet (first | (go_at_call 31; (with_reducible refine (path_Dir.calls t261 t274 _ ?side1 A32.out).mono ?_); (case side1 => first | exact HSH.out | exact Shp.below HSH.out (by repeat (first | (with_reducible first | exact HB.out | apply below_alloc | apply pw_below_drewN | apply below_drew1) | exact HB.out))); (try clear A32); rintro e w46 ⟨rfl, hb⟩; have n0_ := Aside0.mk (Kd.R_below (by (with_reducible repeat (first | apply Kd.R_alloc | apply Kd.R_drewN | apply Kd.R_drew)); (first | exact HO271.out | (first | refine Kd.R_mono HO271.out (fun _ hk => ?_) | refine Kd.S_mono HO271.out (fun _ hk => ?_) | refine Kd.Q_mono HO271.out (fun _ hk => ?_)); simp only [ownBlock_slice] at hk ⊢; exact hk)) hb); have n1_ := Aside0.mk (below_step (by repeat (first | (with_reducible first | exact HB.out | apply below_alloc | apply pw_below_drewN | apply below_drew1) | exact HB.out)) hb); clear HO271; clear HB; have HO271 := n0_; have HB := n1_; clear n0_ n1_; (try clear hb); (try clear hb2); (try clear hk); (try clear hi)) | (go_at_call 32; (with_reducible refine (flatironref01_Dir.calls kj12 t261 t275 _ A33.out).mono ?_); (try clear A33); rintro e w47 ⟨rfl, hb⟩; have n0_ := Aside0.mk (Kd.R_below (by (with_reducible repeat (first | apply Kd.R_alloc | apply Kd.R_drewN | apply Kd.R_drew)); (first | exact HO271.out | (first | refine Kd.R_mono HO271.out (fun _ hk => ?_) | refine Kd.S_mono HO271.out (fun _ hk => ?_) | refine Kd.Q_mono HO271.out (fun _ hk => ?_)); simp only [ownBlock_slice] at hk ⊢; exact hk)) hb); have n1_ := Aside0.mk (below_step (by repeat (first | (with_reducible first | exact HB.out | apply below_alloc | apply pw_below_drewN | apply below_drew1) | exact HB.out)) hb); clear HO271; clear HB; have HO271 := n0_; have HB := n1_; clear n0_ n1_; (try clear hb); (try clear hb2); (try clear hk); (try clear hi)) | (go_at_call 33; (with_reducible refine (path_Base.calls t261 t276 _ ?side1 A35.out).mono ?_); (case side1 => first | exact HSH.out | exact Shp.below HSH.out (by repeat (first | (with_reducible first | exact HB.out | apply below_alloc | apply pw_below_drewN | apply below_drew1) | exact HB.out))); (try clear A35); rintro e w48 ⟨rfl, hb⟩; have n0_ := Aside0.mk (Kd.R_below (by (with_reducible repeat (first | apply Kd.R_alloc | apply Kd.R_drewN | apply Kd.R_drew)); (first | exact HO271.out | (first | refine Kd.R_mono HO271.out (fun _ hk => ?_) | refine Kd.S_mono HO271.out (fun _ hk => ?_) | refine Kd.Q_mono HO271.out (fun _ hk => ?_)); simp only [ownBlock_slice] at hk ⊢; exact hk)) hb); have n1_ := Aside0.mk (below_step (by repeat (first | (with_reducible first | exact HB.out | apply below_alloc | apply pw_below_drewN | apply below_drew1) | exact HB.out)) hb); clear HO271; clear HB; have HO271 := n0_; have HB := n1_; clear n0_ n1_; (try clear hb); (try clear hb2); (try clear hk); (try clear hi)) | (go_at_call 34; (with_reducible refine (flatironref01_Base.calls kj12 t261 t277 _ A36.out).mono ?_); (try clear A36); rintro e w49 ⟨rfl, hb⟩; have n0_ := Aside0.mk (Kd.R_below (by (with_reducible repeat (first | apply Kd.R_alloc | apply Kd.R_drewN | apply Kd.R_drew)); (first | exact HO271.out | (first | refine Kd.R_mono HO271.out (fun _ hk => ?_) | refine Kd.S_mono HO271.out (fun _ hk => ?_) | refine Kd.Q_mono HO271.out (fun _ hk => ?_)); simp only [ownBlock_slice] at hk ⊢; exact hk)) hb); have n1_ := Aside0.mk (below_step (by repeat (first | (with_reducible first | exact HB.out | apply below_alloc | apply pw_below_drewN | apply below_drew1) | exact HB.out)) hb); clear HO271; clear HB; have HO271 := n0_; have HB := n1_; clear n0_ n1_; (try clear hb); (try clear hb2); (try clear hk); (try clear hi))); try go_wp2_with (first | (go_at_call 31; (with_reducible refine (path_Dir.calls t261 t274 _ ?side1 A32.out).mono ?_); (case side1 => first | exact HSH.out | exact Shp.below HSH.out (by repeat (first | (with_reducible first | exact HB.out | apply below_alloc | apply pw_below_drewN | apply below_drew1) | exact HB.out))); (try clear A32); rintro e w46 ⟨rfl, hb⟩; have n0_ := Aside0.mk (Kd.R_below (by (with_reducible repeat (first | apply Kd.R_alloc | apply Kd.R_drewN | apply Kd.R_drew)); (first | exact HO271.out | (first | refine Kd.R_mono HO271.out (fun _ hk => ?_) | refine Kd.S_mono HO271.out (fun _ hk => ?_) | refine Kd.Q_mono HO271.out (fun _ hk => ?_)); simp only [ownBlock_slice] at hk ⊢; exact hk)) hb); have n1_ := Aside0.mk (below_step (by repeat (first | (with_reducible first | exact HB.out | apply below_alloc | apply pw_below_drewN | apply below_drew1) | exact HB.out)) hb); clear HO271; clear HB; have HO271 := n0_; have HB := n1_; clear n0_ n1_; (try clear hb); (try clear hb2); (try clear hk); (try clear hi)) | (go_at_call 32; (with_reducible refine (flatironref01_Dir.calls kj12 t261 t275 _ A33.out).mono ?_); (try clear A33); rintro e w47 ⟨rfl, hb⟩; have n0_ := Aside0.mk (Kd.R_below (by (with_reducible repeat (first | apply Kd.R_alloc | apply Kd.R_drewN | apply Kd.R_drew)); (first | exact HO271.out | (first | refine Kd.R_mono HO271.out (fun _ hk => ?_) | refine Kd.S_mono HO271.out (fun _ hk => ?_) | refine Kd.Q_mono HO271.out (fun _ hk => ?_)); simp only [ownBlock_slice] at hk ⊢; exact hk)) hb); have n1_ := Aside0.mk (below_step (by repeat (first | (with_reducible first | exact HB.out | apply below_alloc | apply pw_below_drewN | apply below_drew1) | exact HB.out)) hb); clear HO271; clear HB; have HO271 := n0_; have HB := n1_; clear n0_ n1_; (try clear hb); (try clear hb2); (try clear hk); (try clear hi)) | (go_at_call 33; (with_reducible refine (path_Base.calls t261 t276 _ ?side1 A35.out).mono ?_); (case side1 => first | exact HSH.out | exact Shp.below HSH.out (by repeat (first | (with_reducible first | exact HB.out | apply below_alloc | apply pw_below_drewN | apply below_drew1) | exact HB.out))); (try clear A35); rintro e w48 ⟨rfl, hb⟩; have n0_ := Aside0.mk (Kd.R_below (by (with_reducible repeat (first | apply Kd.R_alloc | apply Kd.R_drewN | apply Kd.R_drew)); (first | exact HO271.out | (first | refine Kd.R_mono HO271.out (fun _ hk => ?_) | refine Kd.S_mono HO271.out (fun _ hk => ?_) | refine Kd.Q_mono HO271.out (fun _ hk => ?_)); simp only [ownBlock_slice] at hk ⊢; exact hk)) hb); have n1_ := Aside0.mk (below_step (by repeat (first | (with_reducible first | exact HB.out | apply below_alloc | apply pw_below_drewN | apply below_drew1) | exact HB.out)) hb); clear HO271; clear HB; have HO271 := n0_; have HB := n1_; clear n0_ n1_; (try clear hb); (try clear hb2); (try clear hk); (try clear hi)) | (go_at_call 34; (with_reducible refine (flatironref01_Base.calls kj12 t261 t277 _ A36.out).mono ?_); (try clear A36); rintro e w49 ⟨rfl, hb⟩; have n0_ := Aside0.mk (Kd.R_below (by (with_reducible repeat (first | apply Kd.R_alloc | apply Kd.R_drewN | apply Kd.R_drew)); (first | exact HO271.out | (first | refine Kd.R_mono HO271.out (fun _ hk => ?_) | refine Kd.S_mono HO271.out (fun _ hk => ?_) | refine Kd.Q_mono HO271.out (fun _ hk => ?_)); simp only [ownBlock_slice] at hk ⊢; exact hk)) hb); have n1_ := Aside0.mk (below_step (by repeat (first | (with_reducible first | exact HB.out | apply below_alloc | apply pw_below_drewN | apply below_drew1) | exact HB.out)) hb); clear HO271; clear HB; have HO271 := n0_; have HB := n1_; clear n0_ n1_; (try clear hb); (try clear hb2); (try clear hk); (try clear hi))))
                    go_meet
                    case rel => exact ⟨_, (true), (by first | rfl | (simp; done) | (simp [*]; done)), H', ⟨by have := HJ2.out; have := HJ12.out; first | omega | exact Nat.le_refl _⟩, ⟨by repeat (first | (with_reducible first | exact HB.out | apply below_alloc | apply pw_below_drewN | apply below_drew1) | exact HB.out)⟩⟩
                · rw [if_neg c34] at H
                  have c34b0 : (t274.toList == t275.toList) = false := beq_eq_false_iff_ne.mpr c34
                  have c34b1 : (t274.toList != t275.toList) = true := bne_iff_ne.mpr c34
                  (first | rw [c34b0] | (simp only [i64_w, i32_w]; rw [c34b0]) | skip)
                  have H' := Aside0.mk H
                  clear H
                  go_wp2_with (first | (go_at_call 31; (with_reducible refine (path_Dir.calls t261 t274 _ ?side1 A32.out).mono ?_); (case side1 => first | exact HSH.out | exact Shp.below HSH.out (by repeat (first | (with_reducible first | exact HB.out | apply below_alloc | apply pw_below_drewN | apply below_drew1) | exact HB.out))); (try clear A32); rintro e w50 ⟨rfl, hb⟩; have n0_ := Aside0.mk (Kd.R_below (by (with_reducible repeat (first | apply Kd.R_alloc | apply Kd.R_drewN | apply Kd.R_drew)); (first | exact HO271.out | (first | refine Kd.R_mono HO271.out (fun _ hk => ?_) | refine Kd.S_mono HO271.out (fun _ hk => ?_) | refine Kd.Q_mono HO271.out (fun _ hk => ?_)); simp only [ownBlock_slice] at hk ⊢; exact hk)) hb); have n1_ := Aside0.mk (below_step (by repeat (first | (with_reducible first | exact HB.out | apply below_alloc | apply pw_below_drewN | apply below_drew1) | exact HB.out)) hb); clear HO271; clear HB; have HO271 := n0_; have HB := n1_; clear n0_ n1_; (try clear hb); (try clear hb2); (try clear hk); (try clear hi)) | (go_at_call 32; (with_reducible refine (flatironref01_Dir.calls kj12 t261 t275 _ A33.out).mono ?_); (try clear A33); rintro e w51 ⟨rfl, hb⟩; have n0_ := Aside0.mk (Kd.R_below (by (with_reducible repeat (first | apply Kd.R_alloc | apply Kd.R_drewN | apply Kd.R_drew)); (first | exact HO271.out | (first | refine Kd.R_mono HO271.out (fun _ hk => ?_) | refine Kd.S_mono HO271.out (fun _ hk => ?_) | refine Kd.Q_mono HO271.out (fun _ hk => ?_)); simp only [ownBlock_slice] at hk ⊢; exact hk)) hb); have n1_ := Aside0.mk (below_step (by repeat (first | (with_reducible first | exact HB.out | apply below_alloc | apply pw_below_drewN | apply below_drew1) | exact HB.out)) hb); clear HO271; clear HB; have HO271 := n0_; have HB := n1_; clear n0_ n1_; (try clear hb); (try clear hb2); (try clear hk); (try clear hi)))
                  repeat (go_quiet (first | (go_at_call 31; (with_reducible refine (path_Dir.calls t261 t274 _ ?side1 A32.out).mono ?_); (case side1 => first | exact HSH.out | exact Shp.below HSH.out (by repeat (first | (with_reducible first | exact HB.out | apply below_alloc | apply pw_below_drewN | apply below_drew1) | exact HB.out))); (try clear A32); rintro e w50 ⟨rfl, hb⟩; have n0_ := Aside0.mk (Kd.R_below (by (with_reducible repeat (first | apply Kd.R_alloc | apply Kd.R_drewN | apply Kd.R_drew)); (first | exact HO271.out | (first | refine Kd.R_mono HO271.out (fun _ hk => ?_) | refine Kd.S_mono HO271.out (fun _ hk => ?_) | refine Kd.Q_mono HO271.out (fun _ hk => ?_)); simp only [ownBlock_slice] at hk ⊢; exact hk)) hb); have n1_ := Aside0.mk (below_step (by repeat (first | (with_reducible first | exact HB.out | apply below_alloc | apply pw_below_drewN | apply below_drew1) | exact HB.out)) hb); clear HO271; clear HB; have HO271 := n0_; have HB := n1_; clear n0_ n1_; (try clear hb); (try clear hb2); (try clear hk); (try clear hi)) | (go_at_call 32; (with_reducible refine (flatironref01_Dir.calls kj12 t261 t275 _ A33.out).mono ?_); (try clear A33); rintro e w51 ⟨rfl, hb⟩; have n0_ := Aside0.mk (Kd.R_below (by (with_reducible repeat (first | apply Kd.R_alloc | apply Kd.R_drewN | apply Kd.R_drew)); (first | exact HO271.out | (first | refine Kd.R_mono HO271.out (fun _ hk => ?_) | refine Kd.S_mono HO271.out (fun _ hk => ?_) | refine Kd.Q_mono HO271.out (fun _ hk => ?_)); simp only [ownBlock_slice] at hk ⊢; exact hk)) hb); have n1_ := Aside0.mk (below_step (by repeat (first | (with_reducible first | exact HB.out | apply below_alloc | apply pw_below_drewN | apply below_drew1) | exact HB.out)) hb); clear HO271; clear HB; have HO271 := n0_; have HB := n1_; clear n0_ n1_; (try clear hb); (try clear hb2); (try clear hk); (try clear hi))); try go_wp2_with (first | (go_at_call 31; (with_reducible refine (path_Dir.calls t261 t274 _ ?side1 A32.out).mono ?_); (case side1 => first | exact HSH.out | exact Shp.below HSH.out (by repeat (first | (with_reducible first | exact HB.out | apply below_alloc | apply pw_below_drewN | apply below_drew1) | exact HB.out))); (try clear A32); rintro e w50 ⟨rfl, hb⟩; have n0_ := Aside0.mk (Kd.R_below (by (with_reducible repeat (first | apply Kd.R_alloc | apply Kd.R_drewN | apply Kd.R_drew)); (first | exact HO271.out | (first | refine Kd.R_mono HO271.out (fun _ hk => ?_) | refine Kd.S_mono HO271.out (fun _ hk => ?_) | refine Kd.Q_mono HO271.out (fun _ hk => ?_)); simp only [ownBlock_slice] at hk ⊢; exact hk)) hb); have n1_ := Aside0.mk (below_step (by repeat (first | (with_reducible first | exact HB.out | apply below_alloc | apply pw_below_drewN | apply below_drew1) | exact HB.out)) hb); clear HO271; clear HB; have HO271 := n0_; have HB := n1_; clear n0_ n1_; (try clear hb); (try clear hb2); (try clear hk); (try clear hi)) | (go_at_call 32; (with_reducible refine (flatironref01_Dir.calls kj12 t261 t275 _ A33.out).mono ?_); (try clear A33); rintro e w51 ⟨rfl, hb⟩; have n0_ := Aside0.mk (Kd.R_below (by (with_reducible repeat (first | apply Kd.R_alloc | apply Kd.R_drewN | apply Kd.R_drew)); (first | exact HO271.out | (first | refine Kd.R_mono HO271.out (fun _ hk => ?_) | refine Kd.S_mono HO271.out (fun _ hk => ?_) | refine Kd.Q_mono HO271.out (fun _ hk => ?_)); simp only [ownBlock_slice] at hk ⊢; exact hk)) hb); have n1_ := Aside0.mk (below_step (by repeat (first | (with_reducible first | exact HB.out | apply below_alloc | apply pw_below_drewN | apply below_drew1) | exact HB.out)) hb); clear HO271; clear HB; have HO271 := n0_; have HB := n1_; clear n0_ n1_; (try clear hb); (try clear hb2); (try clear hk); (try clear hi))))
                  go_meet
                  case rel => exact ⟨_, (true), (by first | rfl | (simp; done) | (simp [*]; done)), H', ⟨by have := HJ2.out; have := HJ12.out; first | omega | exact Nat.le_refl _⟩, ⟨by repeat (first | (with_reducible first | exact HB.out | apply below_alloc | apply pw_below_drewN | apply below_drew1) | exact HB.out)⟩⟩
              case rest =>
                clear HC26
                try clear c2
                try clear p2
                try clear c3
                try clear c5
                try clear p6
                try clear c7
                try clear c8
                try clear c22
                try clear c23
                try clear c34
                try clear c34b0
                try clear c34b1
                try clear c37
                try clear c37b0
                try clear c37b1
                try clear p2
                try clear p6
                obtain ⟨kq, x77_25, rfl, HA, HJ25, HB⟩ := hcut
                cases kq with
                | zero => exact absurd HA.out (by simp [flatironlaw01_PathWays.j2])
                | succ kj25 =>
                  have H := HA.out
                  clear HA
                  simp only [flatironlaw01_PathWays.j2] at H
                  by_cases c52 : x77_25 = true
                  · subst c52
                    have H1 : (some false) = some r := by rw [if_pos rfl] at H; exact H
                    clear H
                    have H := H1
                    clear H1
                    obtain rfl := Option.some.inj H
                    go_wp2
                    repeat (go_quiet (fail); try go_wp2)
                    go_ret
                    exact ⟨by first | rfl | (simp [errW_none, errW_some] <;> rfl) | (simp [*, errW_none, errW_some] <;> rfl), by repeat (first | (with_reducible first | exact HB.out | apply below_alloc | apply pw_below_drewN | apply below_drew1) | exact HB.out)⟩
                  · replace c52 := Bool.eq_false_iff.mpr c52
                    subst c52
                    have H1 : ((flatironref01_Split.f kj25 t268).bind fun t280 => (flatironlaw01_PathWays.l0 kj25 t261 t266 t268 t272 t273 0 t280)) = some r := by rw [if_neg (show ¬ (false = true) by decide)] at H; exact H
                    clear H
                    have H := H1
                    clear H1
                    replace H := Option.bind_eq_some_iff.mp H
                    obtain ⟨t280, A530, H⟩ := H
                    replace H : (flatironlaw01_PathWays.l0 kj25 t261 t266 t268 t272 t273 0 t280) = some r := H
                    have A53 := Aside0.mk A530
                    clear A530
                    have H' := Aside0.mk H
                    clear H
                    go_wp2_with (first | (go_at_call 37; (with_reducible refine (flatironref01_Split.calls kj25 t268 t280 _ A53.out).mono ?_); (try clear A53); rintro e w54 ⟨v281, rfl, ho0, hb⟩; have n0_ := Aside0.mk (Kd.R_lower ho0 (below_size (by repeat (first | (with_reducible first | exact HB.out | apply below_alloc | apply pw_below_drewN | apply below_drew1) | exact HB.out)))); have n1_ := Aside0.mk (below_step (by repeat (first | (with_reducible first | exact HB.out | apply below_alloc | apply pw_below_drewN | apply below_drew1) | exact HB.out)) hb); clear HB; have HO282 := n0_; have HB := n1_; clear n0_ n1_; (try clear hb); (try clear hb2); (try clear hk); (try clear hi); (try clear ho0)))
                    repeat (go_quiet (first | (go_at_call 37; (with_reducible refine (flatironref01_Split.calls kj25 t268 t280 _ A53.out).mono ?_); (try clear A53); rintro e w54 ⟨v281, rfl, ho0, hb⟩; have n0_ := Aside0.mk (Kd.R_lower ho0 (below_size (by repeat (first | (with_reducible first | exact HB.out | apply below_alloc | apply pw_below_drewN | apply below_drew1) | exact HB.out)))); have n1_ := Aside0.mk (below_step (by repeat (first | (with_reducible first | exact HB.out | apply below_alloc | apply pw_below_drewN | apply below_drew1) | exact HB.out)) hb); clear HB; have HO282 := n0_; have HB := n1_; clear n0_ n1_; (try clear hb); (try clear hb2); (try clear hk); (try clear hi); (try clear ho0))); try go_wp2_with (first | (go_at_call 37; (with_reducible refine (flatironref01_Split.calls kj25 t268 t280 _ A53.out).mono ?_); (try clear A53); rintro e w54 ⟨v281, rfl, ho0, hb⟩; have n0_ := Aside0.mk (Kd.R_lower ho0 (below_size (by repeat (first | (with_reducible first | exact HB.out | apply below_alloc | apply pw_below_drewN | apply below_drew1) | exact HB.out)))); have n1_ := Aside0.mk (below_step (by repeat (first | (with_reducible first | exact HB.out | apply below_alloc | apply pw_below_drewN | apply below_drew1) | exact HB.out)) hb); clear HB; have HO282 := n0_; have HB := n1_; clear n0_ n1_; (try clear hb); (try clear hb2); (try clear hk); (try clear hi); (try clear ho0))))
                    go_loopg [12] kj25 (fun kq v12 w' => ∃ (x12_4 : Int), v12 = .int .i64 x12_4 ∧ Aside0 (flatironlaw01_PathWays.l0 kq t261 t266 t268 t272 t273 x12_4 t280 = some r) ∧ Aside0 (kq ≤ kj25) ∧ Aside0 (Kd.R Kd.string 9 w' w.heap.size (fun _ => True) v281 t280) ∧ Aside0 (Below w.heap.size w w'))
                    case atStart => exact ⟨(0), (by first | rfl | (simp; done) | (simp [*]; done)), H', ⟨Nat.le_refl _⟩, ⟨by (with_reducible repeat (first | apply Kd.R_alloc | apply Kd.R_drewN | apply Kd.R_drew)); (first | exact HO282.out | (first | refine Kd.R_mono HO282.out (fun _ hk => ?_) | refine Kd.S_mono HO282.out (fun _ hk => ?_) | refine Kd.Q_mono HO282.out (fun _ hk => ?_)); simp only [ownBlock_slice] at hk ⊢; exact hk)⟩, ⟨by repeat (first | (with_reducible first | exact HB.out | apply below_alloc | apply pw_below_drewN | apply below_drew1) | exact HB.out)⟩⟩
                    case round =>
                      clear H'
                      try clear c2
                      try clear p2
                      try clear c3
                      try clear c5
                      try clear p6
                      try clear c7
                      try clear c8
                      try clear c22
                      try clear c23
                      try clear c34
                      try clear c34b0
                      try clear c34b1
                      try clear c37
                      try clear c37b0
                      try clear c37b1
                      try clear c52
                      try clear p2
                      try clear p6
                      obtain ⟨x12_4, rfl, HA, HK4, HO_13, HB⟩ := hrel
                      cases gk with
                      | zero => exact absurd HA.out (by simp [flatironlaw01_PathWays.l0])
                      | succ k4 =>
                        have H := HA.out
                        clear HA
                        simp only [flatironlaw01_PathWays.l0] at H
                        have HC55 := Aside0.mk H
                        clear H
                        go_upto_region 12 with (fail)
                        repeat (go_quiet (fail); go_upto_region 12 with (fail))
                        go_cut [90] (fun v90 wc => ∃ (kq : Nat) (x90_54 : Bool), v90 = .bool x90_54 ∧ Aside0 (flatironlaw01_PathWays.j4 kq t261 t266 t268 t272 t273 x12_4 t280 x90_54 = some r) ∧ Aside0 (kq ≤ k4) ∧ Aside0 (Kd.R Kd.string 9 wc w.heap.size (fun _ => True) v281 t280) ∧ Aside0 (Below w.heap.size w wc))
                        case first =>
                          have H := HC55.out
                          clear HC55
                          by_cases c56 : x12_4 < (t280.length : Int)
                          · rw [if_pos c56] at H
                            have c56b0 : decide (x12_4 < (t280.length : Int)) = true := decide_eq_true c56
                            clear c56
                            (first | rw [c56b0] | (simp only [i64_w, i32_w]; rw [c56b0]) | skip)
                            by_cases c57 : 0 ≤ x12_4
                            · rw [if_pos c57] at H
                              have c57b0 : decide (0 ≤ x12_4) = true := decide_eq_true c57
                              clear c57
                              have H' := Aside0.mk H
                              clear H
                              obtain ⟨Ao58, co58, eo58⟩ := Kd.R_slice HO_13.out
                              subst eo58
                              have p283 : 0 ≤ (x12_4 : Int) := of_decide_eq_true (by first | (with_reducible assumption) | assumption)
                              have q283 : x12_4 < (t280.length : Int) := of_decide_eq_true (by first | (with_reducible assumption) | assumption)
                              obtain ⟨ad283, e283, hx283_0⟩ := Kd.at_string (Kd.R_reads' HO_13.out).2.2 x12_4 p283 q283
                              cases e283
                              replace p283 := eq_true p283
                              replace q283 := eq_true q283
                              go_wp2
                              repeat (go_quiet (fail); try go_wp2)
                              go_meet
                              case rel => exact ⟨_, (((rdOf ByteArray.empty t280 x12_4).toList == ([46, 46] : List UInt8))), (by first | rfl | (simp; done) | (simp [*]; done)), H', ⟨by have := HJ2.out; have := HJ12.out; have := HJ25.out; have := HK4.out; first | omega | exact Nat.le_refl _⟩, ⟨by (with_reducible repeat (first | apply Kd.R_alloc | apply Kd.R_drewN | apply Kd.R_drew)); (first | exact HO_13.out | (first | refine Kd.R_mono HO_13.out (fun _ hk => ?_) | refine Kd.S_mono HO_13.out (fun _ hk => ?_) | refine Kd.Q_mono HO_13.out (fun _ hk => ?_)); simp only [ownBlock_slice] at hk ⊢; exact hk)⟩, ⟨by repeat (first | (with_reducible first | exact HB.out | apply below_alloc | apply pw_below_drewN | apply below_drew1) | exact HB.out)⟩⟩
                            · rw [if_neg c57] at H
                              exact absurd H (by simp)
                          · rw [if_neg c56] at H
                            have c56b0 : decide (x12_4 < (t280.length : Int)) = false := decide_eq_false c56
                            clear c56
                            (first | rw [c56b0] | (simp only [i64_w, i32_w]; rw [c56b0]) | skip)
                            have H' := Aside0.mk H
                            clear H
                            obtain ⟨Ao59, co59, eo59⟩ := Kd.R_slice HO_13.out
                            subst eo59
                            go_wp2
                            repeat (go_quiet (fail); try go_wp2)
                            go_meet
                            case rel => exact ⟨_, (false), (by first | rfl | (simp; done) | (simp [*]; done)), H', ⟨by have := HJ2.out; have := HJ12.out; have := HJ25.out; have := HK4.out; first | omega | exact Nat.le_refl _⟩, ⟨by (with_reducible repeat (first | apply Kd.R_alloc | apply Kd.R_drewN | apply Kd.R_drew)); (first | exact HO_13.out | (first | refine Kd.R_mono HO_13.out (fun _ hk => ?_) | refine Kd.S_mono HO_13.out (fun _ hk => ?_) | refine Kd.Q_mono HO_13.out (fun _ hk => ?_)); simp only [ownBlock_slice] at hk ⊢; exact hk)⟩, ⟨by repeat (first | (with_reducible first | exact HB.out | apply below_alloc | apply pw_below_drewN | apply below_drew1) | exact HB.out)⟩⟩
                        case rest =>
                          clear HC55
                          try clear c2
                          try clear p2
                          try clear q2
                          try clear hx2
                          try clear c3
                          try clear c5
                          try clear p6
                          try clear c7
                          try clear c8
                          try clear c22
                          try clear c23
                          try clear p28
                          try clear q28
                          try clear hx28
                          try clear c34
                          try clear c34b0
                          try clear c34b1
                          try clear c37
                          try clear c37b0
                          try clear c37b1
                          try clear c52
                          try clear c56
                          try clear c56b0
                          try clear c57
                          try clear c57b0
                          try clear hx283_0
                          try clear p2
                          try clear p283
                          try clear p6
                          try clear q283
                          obtain ⟨kq, x90_54, rfl, HA, HJ54, HO_13, HB⟩ := hcut
                          cases kq with
                          | zero => exact absurd HA.out (by simp [flatironlaw01_PathWays.j4])
                          | succ kj54 =>
                            have H := HA.out
                            clear HA
                            simp only [flatironlaw01_PathWays.j4] at H
                            by_cases c60 : x90_54 = true
                            · subst c60
                              have H1 : (flatironlaw01_PathWays.l0 kj54 t261 t266 t268 t272 t273 (wrap64 (x12_4 + 1)) t280) = some r := by rw [if_pos rfl] at H; exact H
                              clear H
                              have H := H1
                              clear H1
                              have H' := Aside0.mk H
                              clear H
                              go_wp2
                              repeat (go_quiet (fail); try go_wp2)
                              go_roundg kj54
                              case measure => have := HJ2.out; have := HJ12.out; have := HJ25.out; have := HK4.out; have := HJ54.out; omega
                              case rel => exact ⟨(wrap64 (x12_4 + 1)), (by first | rfl | (simp; done) | (simp [*]; done)), H', ⟨by have := HJ2.out; have := HJ12.out; have := HJ25.out; have := HK4.out; have := HJ54.out; omega⟩, ⟨by (with_reducible repeat (first | apply Kd.R_alloc | apply Kd.R_drewN | apply Kd.R_drew)); (first | exact HO_13.out | (first | refine Kd.R_mono HO_13.out (fun _ hk => ?_) | refine Kd.S_mono HO_13.out (fun _ hk => ?_) | refine Kd.Q_mono HO_13.out (fun _ hk => ?_)); simp only [ownBlock_slice] at hk ⊢; exact hk)⟩, ⟨by repeat (first | (with_reducible first | exact HB.out | apply below_alloc | apply pw_below_drewN | apply below_drew1) | exact HB.out)⟩⟩
                            · replace c60 := Bool.eq_false_iff.mpr c60
                              subst c60
                              have H1 : ((flatironref01_Split.f kj54 t266).bind fun t284 => ((flatironref01_Split.f kj54 t261).bind fun t287 => ((flatironref01_Split.f kj54 t266).bind fun t290 => (if (wrap64 ((t284.length : Int) - x12_4)) < (t287.length : Int) then (if (wrap64 ((t284.length : Int) - x12_4)) < (t290.length : Int) then (if 0 ≤ (wrap64 ((t284.length : Int) - x12_4)) then (flatironlaw01_PathWays.j5 kj54 t261 t268 t272 t273 x12_4 t280 (wrap64 ((t284.length : Int) - x12_4)) t287 ((rdOf ByteArray.empty t287 (wrap64 ((t284.length : Int) - x12_4))).toList == (rdOf ByteArray.empty t290 (wrap64 ((t284.length : Int) - x12_4))).toList)) else (none)) else (flatironlaw01_PathWays.j5 kj54 t261 t268 t272 t273 x12_4 t280 (wrap64 ((t284.length : Int) - x12_4)) t287 false)) else (flatironlaw01_PathWays.j5 kj54 t261 t268 t272 t273 x12_4 t280 (wrap64 ((t284.length : Int) - x12_4)) t287 false))))) = some r := by rw [if_neg (show ¬ (false = true) by decide)] at H; exact H
                              clear H
                              have H := H1
                              clear H1
                              replace H := Option.bind_eq_some_iff.mp H
                              obtain ⟨t284, A610, H⟩ := H
                              replace H : ((flatironref01_Split.f kj54 t261).bind fun t287 => ((flatironref01_Split.f kj54 t266).bind fun t290 => (if (wrap64 ((t284.length : Int) - x12_4)) < (t287.length : Int) then (if (wrap64 ((t284.length : Int) - x12_4)) < (t290.length : Int) then (if 0 ≤ (wrap64 ((t284.length : Int) - x12_4)) then (flatironlaw01_PathWays.j5 kj54 t261 t268 t272 t273 x12_4 t280 (wrap64 ((t284.length : Int) - x12_4)) t287 ((rdOf ByteArray.empty t287 (wrap64 ((t284.length : Int) - x12_4))).toList == (rdOf ByteArray.empty t290 (wrap64 ((t284.length : Int) - x12_4))).toList)) else (none)) else (flatironlaw01_PathWays.j5 kj54 t261 t268 t272 t273 x12_4 t280 (wrap64 ((t284.length : Int) - x12_4)) t287 false)) else (flatironlaw01_PathWays.j5 kj54 t261 t268 t272 t273 x12_4 t280 (wrap64 ((t284.length : Int) - x12_4)) t287 false)))) = some r := H
                              have A61 := Aside0.mk A610
                              clear A610
                              replace H := Option.bind_eq_some_iff.mp H
                              obtain ⟨t287, A620, H⟩ := H
                              replace H : ((flatironref01_Split.f kj54 t266).bind fun t290 => (if (wrap64 ((t284.length : Int) - x12_4)) < (t287.length : Int) then (if (wrap64 ((t284.length : Int) - x12_4)) < (t290.length : Int) then (if 0 ≤ (wrap64 ((t284.length : Int) - x12_4)) then (flatironlaw01_PathWays.j5 kj54 t261 t268 t272 t273 x12_4 t280 (wrap64 ((t284.length : Int) - x12_4)) t287 ((rdOf ByteArray.empty t287 (wrap64 ((t284.length : Int) - x12_4))).toList == (rdOf ByteArray.empty t290 (wrap64 ((t284.length : Int) - x12_4))).toList)) else (none)) else (flatironlaw01_PathWays.j5 kj54 t261 t268 t272 t273 x12_4 t280 (wrap64 ((t284.length : Int) - x12_4)) t287 false)) else (flatironlaw01_PathWays.j5 kj54 t261 t268 t272 t273 x12_4 t280 (wrap64 ((t284.length : Int) - x12_4)) t287 false))) = some r := H
                              have A62 := Aside0.mk A620
                              clear A620
                              replace H := Option.bind_eq_some_iff.mp H
                              obtain ⟨t290, A630, H⟩ := H
                              replace H : (if (wrap64 ((t284.length : Int) - x12_4)) < (t287.length : Int) then (if (wrap64 ((t284.length : Int) - x12_4)) < (t290.length : Int) then (if 0 ≤ (wrap64 ((t284.length : Int) - x12_4)) then (flatironlaw01_PathWays.j5 kj54 t261 t268 t272 t273 x12_4 t280 (wrap64 ((t284.length : Int) - x12_4)) t287 ((rdOf ByteArray.empty t287 (wrap64 ((t284.length : Int) - x12_4))).toList == (rdOf ByteArray.empty t290 (wrap64 ((t284.length : Int) - x12_4))).toList)) else (none)) else (flatironlaw01_PathWays.j5 kj54 t261 t268 t272 t273 x12_4 t280 (wrap64 ((t284.length : Int) - x12_4)) t287 false)) else (flatironlaw01_PathWays.j5 kj54 t261 t268 t272 t273 x12_4 t280 (wrap64 ((t284.length : Int) - x12_4)) t287 false)) = some r := H
                              have A63 := Aside0.mk A630
                              clear A630
                              have HC64 := Aside0.mk H
                              clear H
                              go_upto_region 16 with (first | (go_at_call 37; (with_reducible refine (flatironref01_Split.calls kj54 t266 t284 _ A61.out).mono ?_); (try clear A61); rintro e w65 ⟨v285, rfl, ho0, hb⟩; have n0_ := Aside0.mk (Kd.R_elder' (by (with_reducible repeat (first | apply Kd.R_alloc | apply Kd.R_drewN | apply Kd.R_drew)); (first | exact HO_13.out | (first | refine Kd.R_mono HO_13.out (fun _ hk => ?_) | refine Kd.S_mono HO_13.out (fun _ hk => ?_) | refine Kd.Q_mono HO_13.out (fun _ hk => ?_)); simp only [ownBlock_slice] at hk ⊢; exact hk)) (Kd.R_base ho0) hb); have n1_ := Aside0.mk (Kd.R_lower (Kd.R_new' ho0 (Kd.R_lt (by (with_reducible repeat (first | apply Kd.R_alloc | apply Kd.R_drewN | apply Kd.R_drew)); (first | exact HO_13.out | (first | refine Kd.R_mono HO_13.out (fun _ hk => ?_) | refine Kd.S_mono HO_13.out (fun _ hk => ?_) | refine Kd.Q_mono HO_13.out (fun _ hk => ?_)); simp only [ownBlock_slice] at hk ⊢; exact hk)))) (below_size (by repeat (first | (with_reducible first | exact HB.out | apply below_alloc | apply pw_below_drewN | apply below_drew1) | exact HB.out)))); have n2_ := Aside0.mk (below_step (by repeat (first | (with_reducible first | exact HB.out | apply below_alloc | apply pw_below_drewN | apply below_drew1) | exact HB.out)) hb); clear HO_13; clear HB; have HO_13 := n0_; have HO286 := n1_; have HB := n2_; clear n0_ n1_ n2_; (try clear hb); (try clear hb2); (try clear hk); (try clear hi); (try clear ho0); obtain ⟨Ao66, co66, eo66⟩ := Kd.R_slice HO286.out; subst eo66) | (go_at_call 37; (with_reducible refine (flatironref01_Split.calls kj54 t261 t287 _ A62.out).mono ?_); (try clear A62); rintro e w67 ⟨v288, rfl, ho0, hb⟩; have n0_ := Aside0.mk (Kd.R_elder' (by (with_reducible repeat (first | apply Kd.R_alloc | apply Kd.R_drewN | apply Kd.R_drew)); (first | exact HO_13.out | (first | refine Kd.R_mono HO_13.out (fun _ hk => ?_) | refine Kd.S_mono HO_13.out (fun _ hk => ?_) | refine Kd.Q_mono HO_13.out (fun _ hk => ?_)); simp only [ownBlock_slice] at hk ⊢; exact hk)) (Kd.R_base ho0) hb); have n1_ := Aside0.mk (Kd.R_elder' (by (with_reducible repeat (first | apply Kd.R_alloc | apply Kd.R_drewN | apply Kd.R_drew)); (first | exact HO286.out | (first | refine Kd.R_mono HO286.out (fun _ hk => ?_) | refine Kd.S_mono HO286.out (fun _ hk => ?_) | refine Kd.Q_mono HO286.out (fun _ hk => ?_)); simp only [ownBlock_slice] at hk ⊢; exact hk)) (Kd.R_base ho0) hb); have n2_ := Aside0.mk (Kd.R_lower (Kd.R_new' (Kd.R_new' ho0 (Kd.R_lt (by (with_reducible repeat (first | apply Kd.R_alloc | apply Kd.R_drewN | apply Kd.R_drew)); (first | exact HO_13.out | (first | refine Kd.R_mono HO_13.out (fun _ hk => ?_) | refine Kd.S_mono HO_13.out (fun _ hk => ?_) | refine Kd.Q_mono HO_13.out (fun _ hk => ?_)); simp only [ownBlock_slice] at hk ⊢; exact hk)))) (Kd.R_lt (by (with_reducible repeat (first | apply Kd.R_alloc | apply Kd.R_drewN | apply Kd.R_drew)); (first | exact HO286.out | (first | refine Kd.R_mono HO286.out (fun _ hk => ?_) | refine Kd.S_mono HO286.out (fun _ hk => ?_) | refine Kd.Q_mono HO286.out (fun _ hk => ?_)); simp only [ownBlock_slice] at hk ⊢; exact hk)))) (below_size (by repeat (first | (with_reducible first | exact HB.out | apply below_alloc | apply pw_below_drewN | apply below_drew1) | exact HB.out)))); have n3_ := Aside0.mk (below_step (by repeat (first | (with_reducible first | exact HB.out | apply below_alloc | apply pw_below_drewN | apply below_drew1) | exact HB.out)) hb); clear HO_13; clear HO286; clear HB; have HO_13 := n0_; have HO286 := n1_; have HO289 := n2_; have HB := n3_; clear n0_ n1_ n2_ n3_; (try clear hb); (try clear hb2); (try clear hk); (try clear hi); (try clear ho0)) | (go_at_call 37; (with_reducible refine (flatironref01_Split.calls kj54 t266 t290 _ A63.out).mono ?_); (try clear A63); rintro e w68 ⟨v291, rfl, ho0, hb⟩; have n0_ := Aside0.mk (Kd.R_elder' (by (with_reducible repeat (first | apply Kd.R_alloc | apply Kd.R_drewN | apply Kd.R_drew)); (first | exact HO_13.out | (first | refine Kd.R_mono HO_13.out (fun _ hk => ?_) | refine Kd.S_mono HO_13.out (fun _ hk => ?_) | refine Kd.Q_mono HO_13.out (fun _ hk => ?_)); simp only [ownBlock_slice] at hk ⊢; exact hk)) (Kd.R_base ho0) hb); have n1_ := Aside0.mk (Kd.R_elder' (by (with_reducible repeat (first | apply Kd.R_alloc | apply Kd.R_drewN | apply Kd.R_drew)); (first | exact HO286.out | (first | refine Kd.R_mono HO286.out (fun _ hk => ?_) | refine Kd.S_mono HO286.out (fun _ hk => ?_) | refine Kd.Q_mono HO286.out (fun _ hk => ?_)); simp only [ownBlock_slice] at hk ⊢; exact hk)) (Kd.R_base ho0) hb); have n2_ := Aside0.mk (Kd.R_elder' (by (with_reducible repeat (first | apply Kd.R_alloc | apply Kd.R_drewN | apply Kd.R_drew)); (first | exact HO289.out | (first | refine Kd.R_mono HO289.out (fun _ hk => ?_) | refine Kd.S_mono HO289.out (fun _ hk => ?_) | refine Kd.Q_mono HO289.out (fun _ hk => ?_)); simp only [ownBlock_slice] at hk ⊢; exact hk)) (Kd.R_base ho0) hb); have n3_ := Aside0.mk (Kd.R_lower (Kd.R_new' (Kd.R_new' (Kd.R_new' ho0 (Kd.R_lt (by (with_reducible repeat (first | apply Kd.R_alloc | apply Kd.R_drewN | apply Kd.R_drew)); (first | exact HO_13.out | (first | refine Kd.R_mono HO_13.out (fun _ hk => ?_) | refine Kd.S_mono HO_13.out (fun _ hk => ?_) | refine Kd.Q_mono HO_13.out (fun _ hk => ?_)); simp only [ownBlock_slice] at hk ⊢; exact hk)))) (Kd.R_lt (by (with_reducible repeat (first | apply Kd.R_alloc | apply Kd.R_drewN | apply Kd.R_drew)); (first | exact HO286.out | (first | refine Kd.R_mono HO286.out (fun _ hk => ?_) | refine Kd.S_mono HO286.out (fun _ hk => ?_) | refine Kd.Q_mono HO286.out (fun _ hk => ?_)); simp only [ownBlock_slice] at hk ⊢; exact hk)))) (Kd.R_lt (by (with_reducible repeat (first | apply Kd.R_alloc | apply Kd.R_drewN | apply Kd.R_drew)); (first | exact HO289.out | (first | refine Kd.R_mono HO289.out (fun _ hk => ?_) | refine Kd.S_mono HO289.out (fun _ hk => ?_) | refine Kd.Q_mono HO289.out (fun _ hk => ?_)); simp only [ownBlock_slice] at hk ⊢; exact hk)))) (below_size (by repeat (first | (with_reducible first | exact HB.out | apply below_alloc | apply pw_below_drewN | apply below_drew1) | exact HB.out)))); have n4_ := Aside0.mk (below_step (by repeat (first | (with_reducible first | exact HB.out | apply below_alloc | apply pw_below_drewN | apply below_drew1) | exact HB.out)) hb); clear HO_13; clear HO286; clear HO289; clear HB; have HO_13 := n0_; have HO286 := n1_; have HO289 := n2_; have HO292 := n3_; have HB := n4_; clear n0_ n1_ n2_ n3_ n4_; (try clear hb); (try clear hb2); (try clear hk); (try clear hi); (try clear ho0)))
                              repeat (go_quiet (first | (go_at_call 37; (with_reducible refine (flatironref01_Split.calls kj54 t266 t284 _ A61.out).mono ?_); (try clear A61); rintro e w65 ⟨v285, rfl, ho0, hb⟩; have n0_ := Aside0.mk (Kd.R_elder' (by (with_reducible repeat (first | apply Kd.R_alloc | apply Kd.R_drewN | apply Kd.R_drew)); (first | exact HO_13.out | (first | refine Kd.R_mono HO_13.out (fun _ hk => ?_) | refine Kd.S_mono HO_13.out (fun _ hk => ?_) | refine Kd.Q_mono HO_13.out (fun _ hk => ?_)); simp only [ownBlock_slice] at hk ⊢; exact hk)) (Kd.R_base ho0) hb); have n1_ := Aside0.mk (Kd.R_lower (Kd.R_new' ho0 (Kd.R_lt (by (with_reducible repeat (first | apply Kd.R_alloc | apply Kd.R_drewN | apply Kd.R_drew)); (first | exact HO_13.out | (first | refine Kd.R_mono HO_13.out (fun _ hk => ?_) | refine Kd.S_mono HO_13.out (fun _ hk => ?_) | refine Kd.Q_mono HO_13.out (fun _ hk => ?_)); simp only [ownBlock_slice] at hk ⊢; exact hk)))) (below_size (by repeat (first | (with_reducible first | exact HB.out | apply below_alloc | apply pw_below_drewN | apply below_drew1) | exact HB.out)))); have n2_ := Aside0.mk (below_step (by repeat (first | (with_reducible first | exact HB.out | apply below_alloc | apply pw_below_drewN | apply below_drew1) | exact HB.out)) hb); clear HO_13; clear HB; have HO_13 := n0_; have HO286 := n1_; have HB := n2_; clear n0_ n1_ n2_; (try clear hb); (try clear hb2); (try clear hk); (try clear hi); (try clear ho0); obtain ⟨Ao66, co66, eo66⟩ := Kd.R_slice HO286.out; subst eo66) | (go_at_call 37; (with_reducible refine (flatironref01_Split.calls kj54 t261 t287 _ A62.out).mono ?_); (try clear A62); rintro e w67 ⟨v288, rfl, ho0, hb⟩; have n0_ := Aside0.mk (Kd.R_elder' (by (with_reducible repeat (first | apply Kd.R_alloc | apply Kd.R_drewN | apply Kd.R_drew)); (first | exact HO_13.out | (first | refine Kd.R_mono HO_13.out (fun _ hk => ?_) | refine Kd.S_mono HO_13.out (fun _ hk => ?_) | refine Kd.Q_mono HO_13.out (fun _ hk => ?_)); simp only [ownBlock_slice] at hk ⊢; exact hk)) (Kd.R_base ho0) hb); have n1_ := Aside0.mk (Kd.R_elder' (by (with_reducible repeat (first | apply Kd.R_alloc | apply Kd.R_drewN | apply Kd.R_drew)); (first | exact HO286.out | (first | refine Kd.R_mono HO286.out (fun _ hk => ?_) | refine Kd.S_mono HO286.out (fun _ hk => ?_) | refine Kd.Q_mono HO286.out (fun _ hk => ?_)); simp only [ownBlock_slice] at hk ⊢; exact hk)) (Kd.R_base ho0) hb); have n2_ := Aside0.mk (Kd.R_lower (Kd.R_new' (Kd.R_new' ho0 (Kd.R_lt (by (with_reducible repeat (first | apply Kd.R_alloc | apply Kd.R_drewN | apply Kd.R_drew)); (first | exact HO_13.out | (first | refine Kd.R_mono HO_13.out (fun _ hk => ?_) | refine Kd.S_mono HO_13.out (fun _ hk => ?_) | refine Kd.Q_mono HO_13.out (fun _ hk => ?_)); simp only [ownBlock_slice] at hk ⊢; exact hk)))) (Kd.R_lt (by (with_reducible repeat (first | apply Kd.R_alloc | apply Kd.R_drewN | apply Kd.R_drew)); (first | exact HO286.out | (first | refine Kd.R_mono HO286.out (fun _ hk => ?_) | refine Kd.S_mono HO286.out (fun _ hk => ?_) | refine Kd.Q_mono HO286.out (fun _ hk => ?_)); simp only [ownBlock_slice] at hk ⊢; exact hk)))) (below_size (by repeat (first | (with_reducible first | exact HB.out | apply below_alloc | apply pw_below_drewN | apply below_drew1) | exact HB.out)))); have n3_ := Aside0.mk (below_step (by repeat (first | (with_reducible first | exact HB.out | apply below_alloc | apply pw_below_drewN | apply below_drew1) | exact HB.out)) hb); clear HO_13; clear HO286; clear HB; have HO_13 := n0_; have HO286 := n1_; have HO289 := n2_; have HB := n3_; clear n0_ n1_ n2_ n3_; (try clear hb); (try clear hb2); (try clear hk); (try clear hi); (try clear ho0)) | (go_at_call 37; (with_reducible refine (flatironref01_Split.calls kj54 t266 t290 _ A63.out).mono ?_); (try clear A63); rintro e w68 ⟨v291, rfl, ho0, hb⟩; have n0_ := Aside0.mk (Kd.R_elder' (by (with_reducible repeat (first | apply Kd.R_alloc | apply Kd.R_drewN | apply Kd.R_drew)); (first | exact HO_13.out | (first | refine Kd.R_mono HO_13.out (fun _ hk => ?_) | refine Kd.S_mono HO_13.out (fun _ hk => ?_) | refine Kd.Q_mono HO_13.out (fun _ hk => ?_)); simp only [ownBlock_slice] at hk ⊢; exact hk)) (Kd.R_base ho0) hb); have n1_ := Aside0.mk (Kd.R_elder' (by (with_reducible repeat (first | apply Kd.R_alloc | apply Kd.R_drewN | apply Kd.R_drew)); (first | exact HO286.out | (first | refine Kd.R_mono HO286.out (fun _ hk => ?_) | refine Kd.S_mono HO286.out (fun _ hk => ?_) | refine Kd.Q_mono HO286.out (fun _ hk => ?_)); simp only [ownBlock_slice] at hk ⊢; exact hk)) (Kd.R_base ho0) hb); have n2_ := Aside0.mk (Kd.R_elder' (by (with_reducible repeat (first | apply Kd.R_alloc | apply Kd.R_drewN | apply Kd.R_drew)); (first | exact HO289.out | (first | refine Kd.R_mono HO289.out (fun _ hk => ?_) | refine Kd.S_mono HO289.out (fun _ hk => ?_) | refine Kd.Q_mono HO289.out (fun _ hk => ?_)); simp only [ownBlock_slice] at hk ⊢; exact hk)) (Kd.R_base ho0) hb); have n3_ := Aside0.mk (Kd.R_lower (Kd.R_new' (Kd.R_new' (Kd.R_new' ho0 (Kd.R_lt (by (with_reducible repeat (first | apply Kd.R_alloc | apply Kd.R_drewN | apply Kd.R_drew)); (first | exact HO_13.out | (first | refine Kd.R_mono HO_13.out (fun _ hk => ?_) | refine Kd.S_mono HO_13.out (fun _ hk => ?_) | refine Kd.Q_mono HO_13.out (fun _ hk => ?_)); simp only [ownBlock_slice] at hk ⊢; exact hk)))) (Kd.R_lt (by (with_reducible repeat (first | apply Kd.R_alloc | apply Kd.R_drewN | apply Kd.R_drew)); (first | exact HO286.out | (first | refine Kd.R_mono HO286.out (fun _ hk => ?_) | refine Kd.S_mono HO286.out (fun _ hk => ?_) | refine Kd.Q_mono HO286.out (fun _ hk => ?_)); simp only [ownBlock_slice] at hk ⊢; exact hk)))) (Kd.R_lt (by (with_reducible repeat (first | apply Kd.R_alloc | apply Kd.R_drewN | apply Kd.R_drew)); (first | exact HO289.out | (first | refine Kd.R_mono HO289.out (fun _ hk => ?_) | refine Kd.S_mono HO289.out (fun _ hk => ?_) | refine Kd.Q_mono HO289.out (fun _ hk => ?_)); simp only [ownBlock_slice] at hk ⊢; exact hk)))) (below_size (by repeat (first | (with_reducible first | exact HB.out | apply below_alloc | apply pw_below_drewN | apply below_drew1) | exact HB.out)))); have n4_ := Aside0.mk (below_step (by repeat (first | (with_reducible first | exact HB.out | apply below_alloc | apply pw_below_drewN | apply below_drew1) | exact HB.out)) hb); clear HO_13; clear HO286; clear HO289; clear HB; have HO_13 := n0_; have HO286 := n1_; have HO289 := n2_; have HO292 := n3_; have HB := n4_; clear n0_ n1_ n2_ n3_ n4_; (try clear hb); (try clear hb2); (try clear hk); (try clear hi); (try clear ho0))); go_upto_region 16 with (first | (go_at_call 37; (with_reducible refine (flatironref01_Split.calls kj54 t266 t284 _ A61.out).mono ?_); (try clear A61); rintro e w65 ⟨v285, rfl, ho0, hb⟩; have n0_ := Aside0.mk (Kd.R_elder' (by (with_reducible repeat (first | apply Kd.R_alloc | apply Kd.R_drewN | apply Kd.R_drew)); (first | exact HO_13.out | (first | refine Kd.R_mono HO_13.out (fun _ hk => ?_) | refine Kd.S_mono HO_13.out (fun _ hk => ?_) | refine Kd.Q_mono HO_13.out (fun _ hk => ?_)); simp only [ownBlock_slice] at hk ⊢; exact hk)) (Kd.R_base ho0) hb); have n1_ := Aside0.mk (Kd.R_lower (Kd.R_new' ho0 (Kd.R_lt (by (with_reducible repeat (first | apply Kd.R_alloc | apply Kd.R_drewN | apply Kd.R_drew)); (first | exact HO_13.out | (first | refine Kd.R_mono HO_13.out (fun _ hk => ?_) | refine Kd.S_mono HO_13.out (fun _ hk => ?_) | refine Kd.Q_mono HO_13.out (fun _ hk => ?_)); simp only [ownBlock_slice] at hk ⊢; exact hk)))) (below_size (by repeat (first | (with_reducible first | exact HB.out | apply below_alloc | apply pw_below_drewN | apply below_drew1) | exact HB.out)))); have n2_ := Aside0.mk (below_step (by repeat (first | (with_reducible first | exact HB.out | apply below_alloc | apply pw_below_drewN | apply below_drew1) | exact HB.out)) hb); clear HO_13; clear HB; have HO_13 := n0_; have HO286 := n1_; have HB := n2_; clear n0_ n1_ n2_; (try clear hb); (try clear hb2); (try clear hk); (try clear hi); (try clear ho0); obtain ⟨Ao66, co66, eo66⟩ := Kd.R_slice HO286.out; subst eo66) | (go_at_call 37; (with_reducible refine (flatironref01_Split.calls kj54 t261 t287 _ A62.out).mono ?_); (try clear A62); rintro e w67 ⟨v288, rfl, ho0, hb⟩; have n0_ := Aside0.mk (Kd.R_elder' (by (with_reducible repeat (first | apply Kd.R_alloc | apply Kd.R_drewN | apply Kd.R_drew)); (first | exact HO_13.out | (first | refine Kd.R_mono HO_13.out (fun _ hk => ?_) | refine Kd.S_mono HO_13.out (fun _ hk => ?_) | refine Kd.Q_mono HO_13.out (fun _ hk => ?_)); simp only [ownBlock_slice] at hk ⊢; exact hk)) (Kd.R_base ho0) hb); have n1_ := Aside0.mk (Kd.R_elder' (by (with_reducible repeat (first | apply Kd.R_alloc | apply Kd.R_drewN | apply Kd.R_drew)); (first | exact HO286.out | (first | refine Kd.R_mono HO286.out (fun _ hk => ?_) | refine Kd.S_mono HO286.out (fun _ hk => ?_) | refine Kd.Q_mono HO286.out (fun _ hk => ?_)); simp only [ownBlock_slice] at hk ⊢; exact hk)) (Kd.R_base ho0) hb); have n2_ := Aside0.mk (Kd.R_lower (Kd.R_new' (Kd.R_new' ho0 (Kd.R_lt (by (with_reducible repeat (first | apply Kd.R_alloc | apply Kd.R_drewN | apply Kd.R_drew)); (first | exact HO_13.out | (first | refine Kd.R_mono HO_13.out (fun _ hk => ?_) | refine Kd.S_mono HO_13.out (fun _ hk => ?_) | refine Kd.Q_mono HO_13.out (fun _ hk => ?_)); simp only [ownBlock_slice] at hk ⊢; exact hk)))) (Kd.R_lt (by (with_reducible repeat (first | apply Kd.R_alloc | apply Kd.R_drewN | apply Kd.R_drew)); (first | exact HO286.out | (first | refine Kd.R_mono HO286.out (fun _ hk => ?_) | refine Kd.S_mono HO286.out (fun _ hk => ?_) | refine Kd.Q_mono HO286.out (fun _ hk => ?_)); simp only [ownBlock_slice] at hk ⊢; exact hk)))) (below_size (by repeat (first | (with_reducible first | exact HB.out | apply below_alloc | apply pw_below_drewN | apply below_drew1) | exact HB.out)))); have n3_ := Aside0.mk (below_step (by repeat (first | (with_reducible first | exact HB.out | apply below_alloc | apply pw_below_drewN | apply below_drew1) | exact HB.out)) hb); clear HO_13; clear HO286; clear HB; have HO_13 := n0_; have HO286 := n1_; have HO289 := n2_; have HB := n3_; clear n0_ n1_ n2_ n3_; (try clear hb); (try clear hb2); (try clear hk); (try clear hi); (try clear ho0)) | (go_at_call 37; (with_reducible refine (flatironref01_Split.calls kj54 t266 t290 _ A63.out).mono ?_); (try clear A63); rintro e w68 ⟨v291, rfl, ho0, hb⟩; have n0_ := Aside0.mk (Kd.R_elder' (by (with_reducible repeat (first | apply Kd.R_alloc | apply Kd.R_drewN | apply Kd.R_drew)); (first | exact HO_13.out | (first | refine Kd.R_mono HO_13.out (fun _ hk => ?_) | refine Kd.S_mono HO_13.out (fun _ hk => ?_) | refine Kd.Q_mono HO_13.out (fun _ hk => ?_)); simp only [ownBlock_slice] at hk ⊢; exact hk)) (Kd.R_base ho0) hb); have n1_ := Aside0.mk (Kd.R_elder' (by (with_reducible repeat (first | apply Kd.R_alloc | apply Kd.R_drewN | apply Kd.R_drew)); (first | exact HO286.out | (first | refine Kd.R_mono HO286.out (fun _ hk => ?_) | refine Kd.S_mono HO286.out (fun _ hk => ?_) | refine Kd.Q_mono HO286.out (fun _ hk => ?_)); simp only [ownBlock_slice] at hk ⊢; exact hk)) (Kd.R_base ho0) hb); have n2_ := Aside0.mk (Kd.R_elder' (by (with_reducible repeat (first | apply Kd.R_alloc | apply Kd.R_drewN | apply Kd.R_drew)); (first | exact HO289.out | (first | refine Kd.R_mono HO289.out (fun _ hk => ?_) | refine Kd.S_mono HO289.out (fun _ hk => ?_) | refine Kd.Q_mono HO289.out (fun _ hk => ?_)); simp only [ownBlock_slice] at hk ⊢; exact hk)) (Kd.R_base ho0) hb); have n3_ := Aside0.mk (Kd.R_lower (Kd.R_new' (Kd.R_new' (Kd.R_new' ho0 (Kd.R_lt (by (with_reducible repeat (first | apply Kd.R_alloc | apply Kd.R_drewN | apply Kd.R_drew)); (first | exact HO_13.out | (first | refine Kd.R_mono HO_13.out (fun _ hk => ?_) | refine Kd.S_mono HO_13.out (fun _ hk => ?_) | refine Kd.Q_mono HO_13.out (fun _ hk => ?_)); simp only [ownBlock_slice] at hk ⊢; exact hk)))) (Kd.R_lt (by (with_reducible repeat (first | apply Kd.R_alloc | apply Kd.R_drewN | apply Kd.R_drew)); (first | exact HO286.out | (first | refine Kd.R_mono HO286.out (fun _ hk => ?_) | refine Kd.S_mono HO286.out (fun _ hk => ?_) | refine Kd.Q_mono HO286.out (fun _ hk => ?_)); simp only [ownBlock_slice] at hk ⊢; exact hk)))) (Kd.R_lt (by (with_reducible repeat (first | apply Kd.R_alloc | apply Kd.R_drewN | apply Kd.R_drew)); (first | exact HO289.out | (first | refine Kd.R_mono HO289.out (fun _ hk => ?_) | refine Kd.S_mono HO289.out (fun _ hk => ?_) | refine Kd.Q_mono HO289.out (fun _ hk => ?_)); simp only [ownBlock_slice] at hk ⊢; exact hk)))) (below_size (by repeat (first | (with_reducible first | exact HB.out | apply below_alloc | apply pw_below_drewN | apply below_drew1) | exact HB.out)))); have n4_ := Aside0.mk (below_step (by repeat (first | (with_reducible first | exact HB.out | apply below_alloc | apply pw_below_drewN | apply below_drew1) | exact HB.out)) hb); clear HO_13; clear HO286; clear HO289; clear HB; have HO_13 := n0_; have HO286 := n1_; have HO289 := n2_; have HO292 := n3_; have HB := n4_; clear n0_ n1_ n2_ n3_ n4_; (try clear hb); (try clear hb2); (try clear hk); (try clear hi); (try clear ho0))))
                              (try simp only [Act.put, List.setIfInBounds_toArray, List.set_cons_zero, List.set_cons_succ])
                              go_cut [17] (fun v17 wc => ∃ (kq : Nat) (x17_63 : Bool), v17 = .bool x17_63 ∧ Aside0 (flatironlaw01_PathWays.j5 kq t261 t268 t272 t273 x12_4 t280 (wrap64 ((t284.length : Int) - x12_4)) t287 x17_63 = some r) ∧ Aside0 (kq ≤ kj54) ∧ Aside0 (Kd.R Kd.string 9 wc w.heap.size (fun k_ => some k_ ≠ (v288 : Value).ownBlock) v281 t280) ∧ Aside0 (Kd.R Kd.string 9 wc w.heap.size (fun k_ => some k_ ≠ (v281 : Value).ownBlock) v288 t287) ∧ Aside0 (Below w.heap.size w wc))
                              case first =>
                                have H := HC64.out
                                clear HC64
                                by_cases c69 : (wrap64 ((t284.length : Int) - x12_4)) < (t287.length : Int)
                                · rw [if_pos c69] at H
                                  have c69b0 : decide ((wrap64 ((t284.length : Int) - x12_4)) < (t287.length : Int)) = true := decide_eq_true c69
                                  clear c69
                                  (first | rw [c69b0] | (simp only [i64_w, i32_w]; rw [c69b0]) | skip)
                                  by_cases c70 : (wrap64 ((t284.length : Int) - x12_4)) < (t290.length : Int)
                                  · rw [if_pos c70] at H
                                    have c70b0 : decide ((wrap64 ((t284.length : Int) - x12_4)) < (t290.length : Int)) = true := decide_eq_true c70
                                    clear c70
                                    obtain ⟨ji71, hji71⟩ : ∃ j_ : Int, (wrap64 ((t284.length : Int) - x12_4)) = j_ := ⟨_, rfl⟩
                                    replace H : (if 0 ≤ (ji71) then (flatironlaw01_PathWays.j5 kj54 t261 t268 t272 t273 x12_4 t280 ji71 t287 ((rdOf ByteArray.empty t287 (ji71)).toList == (rdOf ByteArray.empty t290 (ji71)).toList)) else (none)) = some r := by first | (rw [hji71] at H; exact H) | (simp only [hji71] at H ⊢; exact H)
                                    (try rw [hji71] at c69b0)
                                    (try rw [hji71] at c70b0)
                                    have hji71w : (IntKind.i64.wrap ((t284.length : Int) - x12_4)) = ji71 := (i64_w _).trans hji71
                                    by_cases c72 : 0 ≤ (ji71)
                                    · rw [if_pos c72] at H
                                      have c72b0 : decide (0 ≤ (ji71)) = true := decide_eq_true c72
                                      clear c72
                                      have H' := Aside0.mk H
                                      clear H
                                      obtain ⟨Ao73, co73, eo73⟩ := Kd.R_slice HO289.out
                                      subst eo73
                                      obtain ⟨Ao74, co74, eo74⟩ := Kd.R_slice HO292.out
                                      subst eo74
                                      have p293 : 0 ≤ ((ji71) : Int) := of_decide_eq_true (by first | (with_reducible assumption) | assumption)
                                      have q293 : (ji71) < (t287.length : Int) := of_decide_eq_true (by first | (with_reducible assumption) | assumption)
                                      obtain ⟨ad293, e293, hx293_0⟩ := Kd.at_string (Kd.R_reads' HO289.out).2.2 (ji71) p293 q293
                                      cases e293
                                      replace p293 := eq_true p293
                                      replace q293 := eq_true q293
                                      have p294 : 0 ≤ ((ji71) : Int) := of_decide_eq_true (by first | (with_reducible assumption) | assumption)
                                      have q294 : (ji71) < (t290.length : Int) := of_decide_eq_true (by first | (with_reducible assumption) | assumption)
                                      obtain ⟨ad294, e294, hx294_0⟩ := Kd.at_string (Kd.R_reads' HO292.out).2.2 (ji71) p294 q294
                                      cases e294
                                      replace p294 := eq_true p294
                                      replace q294 := eq_true q294
                                      go_wp2
                                      repeat (go_quiet (fail); try go_wp2)
                                      go_meet
                                      case rel => exact ⟨_, (((rdOf ByteArray.empty t287 (ji71)).toList == (rdOf ByteArray.empty t290 (ji71)).toList)), (by first | rfl | (simp; done) | (simp only [← hji71] <;> (first | rfl | simp)) | (simp [*]; done)), (by first | exact H' | (rw [hji71]; exact H')), ⟨by have := HJ2.out; have := HJ12.out; have := HJ25.out; have := HK4.out; have := HJ54.out; first | omega | exact Nat.le_refl _⟩, ⟨by (with_reducible repeat (first | apply Kd.R_alloc | apply Kd.R_drewN | apply Kd.R_drew)); exact Kd.R_mono HO_13.out (fun _ hk => hk.1.2)⟩, ⟨by (with_reducible repeat (first | apply Kd.R_alloc | apply Kd.R_drewN | apply Kd.R_drew)); exact Kd.R_mono HO289.out (fun _ hk => hk.1.1.2)⟩, ⟨by repeat (first | (with_reducible first | exact HB.out | apply below_alloc | apply pw_below_drewN | apply below_drew1) | exact HB.out)⟩⟩
                                    · rw [if_neg c72] at H
                                      exact absurd H (by simp)
                                  · rw [if_neg c70] at H
                                    have c70b0 : decide ((wrap64 ((t284.length : Int) - x12_4)) < (t290.length : Int)) = false := decide_eq_false c70
                                    clear c70
                                    have H' := Aside0.mk H
                                    clear H
                                    obtain ⟨Ao75, co75, eo75⟩ := Kd.R_slice HO289.out
                                    subst eo75
                                    obtain ⟨Ao76, co76, eo76⟩ := Kd.R_slice HO292.out
                                    subst eo76
                                    go_wp2
                                    repeat (go_quiet (fail); try go_wp2)
                                    go_meet
                                    case rel => exact ⟨_, (false), (by first | rfl | (simp; done) | (simp [*]; done)), H', ⟨by have := HJ2.out; have := HJ12.out; have := HJ25.out; have := HK4.out; have := HJ54.out; first | omega | exact Nat.le_refl _⟩, ⟨by (with_reducible repeat (first | apply Kd.R_alloc | apply Kd.R_drewN | apply Kd.R_drew)); exact Kd.R_mono HO_13.out (fun _ hk => hk.1.2)⟩, ⟨by (with_reducible repeat (first | apply Kd.R_alloc | apply Kd.R_drewN | apply Kd.R_drew)); exact Kd.R_mono HO289.out (fun _ hk => hk.1.1.2)⟩, ⟨by repeat (first | (with_reducible first | exact HB.out | apply below_alloc | apply pw_below_drewN | apply below_drew1) | exact HB.out)⟩⟩
                                · rw [if_neg c69] at H
                                  have c69b0 : decide ((wrap64 ((t284.length : Int) - x12_4)) < (t287.length : Int)) = false := decide_eq_false c69
                                  clear c69
                                  (first | rw [c69b0] | (simp only [i64_w, i32_w]; rw [c69b0]) | skip)
                                  have H' := Aside0.mk H
                                  clear H
                                  obtain ⟨Ao77, co77, eo77⟩ := Kd.R_slice HO289.out
                                  subst eo77
                                  go_wp2
                                  repeat (go_quiet (fail); try go_wp2)
                                  go_meet
                                  case rel => exact ⟨_, (false), (by first | rfl | (simp; done) | (simp [*]; done)), H', ⟨by have := HJ2.out; have := HJ12.out; have := HJ25.out; have := HK4.out; have := HJ54.out; first | omega | exact Nat.le_refl _⟩, ⟨by (with_reducible repeat (first | apply Kd.R_alloc | apply Kd.R_drewN | apply Kd.R_drew)); exact Kd.R_mono HO_13.out (fun _ hk => hk.1.2)⟩, ⟨by (with_reducible repeat (first | apply Kd.R_alloc | apply Kd.R_drewN | apply Kd.R_drew)); exact Kd.R_mono HO289.out (fun _ hk => hk.1.1.2)⟩, ⟨by repeat (first | (with_reducible first | exact HB.out | apply below_alloc | apply pw_below_drewN | apply below_drew1) | exact HB.out)⟩⟩
                              case rest =>
                                clear HC64
                                try clear c2
                                try clear p2
                                try clear q2
                                try clear hx2
                                try clear c3
                                try clear c5
                                try clear c6
                                try clear p6
                                try clear c7
                                try clear c8
                                try clear c22
                                try clear c23
                                try clear p28
                                try clear q28
                                try clear hx28
                                try clear p29
                                try clear q29
                                try clear hx29
                                try clear c34
                                try clear c34b0
                                try clear c34b1
                                try clear c37
                                try clear c37b0
                                try clear c37b1
                                try clear c52
                                try clear c56
                                try clear c56b0
                                try clear c57
                                try clear c57b0
                                try clear c60
                                try clear p64
                                try clear c69
                                try clear c69b0
                                try clear c70
                                try clear c70b0
                                try clear c72
                                try clear c72b0
                                try clear hx283_0
                                try clear hx293_0
                                try clear hx294_0
                                try clear p2
                                try clear p28
                                try clear p283
                                try clear p293
                                try clear p294
                                try clear p6
                                try clear q2
                                try clear q28
                                try clear q283
                                try clear q293
                                try clear q294
                                obtain ⟨kq, x17_63, rfl, HA, HJ63, HO_13, HO_15, HB⟩ := hcut
                                cases kq with
                                | zero => exact absurd HA.out (by simp [flatironlaw01_PathWays.j5])
                                | succ kj63 =>
                                  have H := HA.out
                                  clear HA
                                  simp only [flatironlaw01_PathWays.j5] at H
                                  by_cases c78 : t273 = 0
                                  · rw [if_pos c78] at H
                                    have c78b0 : (t273 == 0) = true := beq_iff_eq.mpr c78
                                    have c78b1 : (t273 != 0) = false := bne_eq_false_iff_eq.mpr c78
                                    clear c78
                                    by_cases c79 : t272.toList = t261.toList
                                    · rw [if_pos c79] at H
                                      have c79b0 : (t272.toList == t261.toList) = true := beq_iff_eq.mpr c79
                                      have c79b1 : (t272.toList != t261.toList) = false := bne_eq_false_iff_eq.mpr c79
                                      clear c79
                                      by_cases c80 : (wrap64 ((t284.length : Int) - x12_4)) ≥ 0
                                      · rw [if_pos c80] at H
                                        have c80b0 : decide (0 ≤ (wrap64 ((t284.length : Int) - x12_4))) = true := decide_eq_true c80
                                        clear c80
                                        by_cases c81 : (wrap64 ((wrap64 ((wrap64 ((t284.length : Int) - x12_4)) + (t280.length : Int))) - x12_4)) = (t287.length : Int)
                                        · rw [if_pos c81] at H
                                          have c81b0 : ((wrap64 ((wrap64 ((wrap64 ((t284.length : Int) - x12_4)) + (t280.length : Int))) - x12_4)) == (t287.length : Int)) = true := beq_iff_eq.mpr c81
                                          have c81b1 : ((wrap64 ((wrap64 ((wrap64 ((t284.length : Int) - x12_4)) + (t280.length : Int))) - x12_4)) != (t287.length : Int)) = false := bne_eq_false_iff_eq.mpr c81
                                          clear c81
                                          by_cases c82 : x17_63 = true
                                          · subst c82
                                            have H1 : (some false) = some r := by rw [if_pos rfl] at H; exact H
                                            clear H
                                            have H := H1
                                            clear H1
                                            obtain rfl := Option.some.inj H
                                            obtain ⟨Ao83, co83, eo83⟩ := Kd.R_slice HO_13.out
                                            subst eo83
                                            obtain ⟨Ao84, co84, eo84⟩ := Kd.R_slice HO_15.out
                                            subst eo84
                                            go_wp2
                                            repeat (go_quiet (fail); try go_wp2)
                                            go_ret
                                            exact ⟨by first | rfl | (simp [errW_none, errW_some] <;> rfl) | (simp [*, errW_none, errW_some] <;> rfl), by repeat (first | (with_reducible first | exact HB.out | apply below_alloc | apply pw_below_drewN | apply below_drew1) | exact HB.out)⟩
                                          · replace c82 := Bool.eq_false_iff.mpr c82
                                            subst c82
                                            have H1 : ((flatironref01_Text.f kj63 t280).bind fun t295 => (some (t268.toList == t295.toList))) = some r := by rw [if_neg (show ¬ (false = true) by decide)] at H; exact H
                                            clear H
                                            have H := H1
                                            clear H1
                                            replace H := Option.bind_eq_some_iff.mp H
                                            obtain ⟨t295, A850, H⟩ := H
                                            replace H : (some (t268.toList == t295.toList)) = some r := H
                                            have A85 := Aside0.mk A850
                                            clear A850
                                            obtain rfl := Option.some.inj H
                                            obtain ⟨Ao86, co86, eo86⟩ := Kd.R_slice HO_13.out
                                            subst eo86
                                            obtain ⟨Ao87, co87, eo87⟩ := Kd.R_slice HO_15.out
                                            subst eo87
                                            go_wp2_with (first | (go_at_call 38; (with_reducible refine (flatironref01_Text.calls kj63 _ _ t280 t295 _ ?side1 ?side2 A85.out).mono ?_); (case side1 => repeat (first | exact (Kd.R_reads' HO_13.out).2.2 | (with_reducible refine Kd.C_alloc ?_ _) | (with_reducible refine Kd.C_drewN ?_ _) | (with_reducible refine Kd.C_drew ?_))); (case side2 => exact (Kd.R_reads' HO_13.out).2.1); (try clear A85); rintro e w' ⟨rfl, ⟨nd, rfl⟩⟩; (try first | exact ⟨rfl, _, World.drewN_drewN _ _ _⟩ | exact ⟨rfl, _, Eq.trans (World.drewN_drewN _ _ _) (congrArg (World.drewN _) (Nat.add_assoc _ _ _))⟩)))
                                            repeat (go_quiet (first | (go_at_call 38; (with_reducible refine (flatironref01_Text.calls kj63 _ _ t280 t295 _ ?side1 ?side2 A85.out).mono ?_); (case side1 => repeat (first | exact (Kd.R_reads' HO_13.out).2.2 | (with_reducible refine Kd.C_alloc ?_ _) | (with_reducible refine Kd.C_drewN ?_ _) | (with_reducible refine Kd.C_drew ?_))); (case side2 => exact (Kd.R_reads' HO_13.out).2.1); (try clear A85); rintro e w' ⟨rfl, ⟨nd, rfl⟩⟩; (try first | exact ⟨rfl, _, World.drewN_drewN _ _ _⟩ | exact ⟨rfl, _, Eq.trans (World.drewN_drewN _ _ _) (congrArg (World.drewN _) (Nat.add_assoc _ _ _))⟩))); try go_wp2_with (first | (go_at_call 38; (with_reducible refine (flatironref01_Text.calls kj63 _ _ t280 t295 _ ?side1 ?side2 A85.out).mono ?_); (case side1 => repeat (first | exact (Kd.R_reads' HO_13.out).2.2 | (with_reducible refine Kd.C_alloc ?_ _) | (with_reducible refine Kd.C_drewN ?_ _) | (with_reducible refine Kd.C_drew ?_))); (case side2 => exact (Kd.R_reads' HO_13.out).2.1); (try clear A85); rintro e w' ⟨rfl, ⟨nd, rfl⟩⟩; (try first | exact ⟨rfl, _, World.drewN_drewN _ _ _⟩ | exact ⟨rfl, _, Eq.trans (World.drewN_drewN _ _ _) (congrArg (World.drewN _) (Nat.add_assoc _ _ _))⟩))))
                                            go_ret
                                            exact ⟨by first | rfl | (simp [errW_none, errW_some] <;> rfl) | (simp [*, errW_none, errW_some] <;> rfl), by repeat (first | (with_reducible first | exact HB.out | apply below_alloc | apply pw_below_drewN | apply below_drew1) | exact HB.out)⟩
                                        · rw [if_neg c81] at H
                                          have c81b0 : ((wrap64 ((wrap64 ((wrap64 ((t284.length : Int) - x12_4)) + (t280.length : Int))) - x12_4)) == (t287.length : Int)) = false := beq_eq_false_iff_ne.mpr c81
                                          have c81b1 : ((wrap64 ((wrap64 ((wrap64 ((t284.length : Int) - x12_4)) + (t280.length : Int))) - x12_4)) != (t287.length : Int)) = true := bne_iff_ne.mpr c81
                                          obtain rfl := Option.some.inj H
                                          obtain ⟨Ao88, co88, eo88⟩ := Kd.R_slice HO_13.out
                                          subst eo88
                                          obtain ⟨Ao89, co89, eo89⟩ := Kd.R_slice HO_15.out
                                          subst eo89
                                          go_wp2
                                          repeat (go_quiet (fail); try go_wp2)
                                          go_ret
                                          exact ⟨by first | rfl | (simp [errW_none, errW_some] <;> rfl) | (simp [*, errW_none, errW_some] <;> rfl), by repeat (first | (with_reducible first | exact HB.out | apply below_alloc | apply pw_below_drewN | apply below_drew1) | exact HB.out)⟩
                                      · rw [if_neg c80] at H
                                        have c80b0 : decide (0 ≤ (wrap64 ((t284.length : Int) - x12_4))) = false := decide_eq_false c80
                                        clear c80
                                        obtain rfl := Option.some.inj H
                                        go_wp2
                                        repeat (go_quiet (fail); try go_wp2)
                                        go_ret
                                        exact ⟨by first | rfl | (simp [errW_none, errW_some] <;> rfl) | (simp [*, errW_none, errW_some] <;> rfl), by repeat (first | (with_reducible first | exact HB.out | apply below_alloc | apply pw_below_drewN | apply below_drew1) | exact HB.out)⟩
                                    · rw [if_neg c79] at H
                                      have c79b0 : (t272.toList == t261.toList) = false := beq_eq_false_iff_ne.mpr c79
                                      have c79b1 : (t272.toList != t261.toList) = true := bne_iff_ne.mpr c79
                                      obtain rfl := Option.some.inj H
                                      go_wp2
                                      repeat (go_quiet (fail); try go_wp2)
                                      go_ret
                                      exact ⟨by first | rfl | (simp [errW_none, errW_some] <;> rfl) | (simp [*, errW_none, errW_some] <;> rfl), by repeat (first | (with_reducible first | exact HB.out | apply below_alloc | apply pw_below_drewN | apply below_drew1) | exact HB.out)⟩
                                  · rw [if_neg c78] at H
                                    have c78b0 : (t273 == 0) = false := beq_eq_false_iff_ne.mpr c78
                                    have c78b1 : (t273 != 0) = true := bne_iff_ne.mpr c78
                                    obtain rfl := Option.some.inj H
                                    go_wp2
                                    repeat (go_quiet (fail); try go_wp2)
                                    go_ret
                                    exact ⟨by first | rfl | (simp [errW_none, errW_some] <;> rfl) | (simp [*, errW_none, errW_some] <;> rfl), by repeat (first | (with_reducible first | exact HB.out | apply below_alloc | apply pw_below_drewN | apply below_drew1) | exact HB.out)⟩

end Go.Proofs.YtcadgnaejjgdnaaDoor.XW01
