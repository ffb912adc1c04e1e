import Derived.Test.YtmpheeanjjfddaaSBase
namespace Go.Proofs.Ytmpheeanjjfddaa.S
open Go Go.RowKit Go.Proofs Go.Proofs.Ytmpheeanjjfddaa.SM
set_option linter.unusedVariables false
set_option maxRecDepth 100000
/-! flatironref18_Update -/
noncomputable def flatironref18_Update.body : Code := (Try.f41.body).getD .skip
noncomputable def flatironref18_Update.res : List ResultVar := Try.f41.results.toList
def flatironref18_Update.plan : Plan := planOf [(8, [0, 1, 7]), (7, [0, 1, 7, 45]), (16, [0, 1, 7, 8, 9, 10]), (26, [0, 1, 7, 8, 14]), (30, [0, 1, 7, 8, 14, 15, 16]), (33, [0, 1, 7, 14]), (38, [0, 1, 14]), (34, [0, 1, 14, 162]), (40, [0, 1])]
def flatironref18_Update.planL : Plan := planOf [(10, [0, 1, 7, 8, 9]), (27, [0, 1, 7, 8, 14, 15])]
def flatironref18_Update.j8 (b : Nat) (w0 : World) (x0 : V) (x1 : List UInt8) (x7 : V) (H : Hp) (Q : Rs → Hp → Prop) : Prop := Aw (cx b w0) (cAt flatironref18_Update.body [1, 1, 1, 1, 1, 1]) ⟨[x0, (V.str x1), V.any, V.any, V.any, V.any, V.any, x7, V.any, V.any, V.any, V.any, V.any, V.any, V.any, V.any, V.any, V.any, V.any, V.any, V.any, V.any, V.any, V.any, V.any, V.any, V.any, V.any, V.any, V.any, V.any, V.any, V.any, V.any, V.any, V.any, V.any, V.any, V.any, V.any, V.any, V.any, V.any, V.any, V.any, V.any, V.any, V.any, V.any, V.any, V.any, V.any, V.any, V.any, V.any, V.any, V.any, V.any, V.any, V.any, V.any, V.any, V.any, V.any, V.any, V.any, V.any, V.any, V.any, V.any, V.any, V.any, V.any, V.any, V.any, V.any, V.any, V.any, V.any, V.any, V.any, V.any, V.any, V.any, V.any, V.any, V.any, V.any, V.any, V.any, V.any, V.any, V.any, V.any, V.any, V.any, V.any, V.any, V.any, V.any, V.any, V.any, V.any, V.any, V.any, V.any, V.any, V.any, V.any, V.any, V.any, V.any, V.any, V.any, V.any, V.any, V.any, V.any, V.any, V.any, V.any, V.any, V.any, V.any, V.any, V.any, V.any, V.any, V.any, V.any, V.any, V.any, V.any, V.any, V.any, V.any, V.any, V.any, V.any, V.any, V.any, V.any, V.any, V.any, V.any, V.any, V.any, V.any, V.any, V.any, V.any, V.any, V.any, V.any, V.any, V.any, V.any, V.any, V.any, V.any, V.any, V.any, V.any, V.any, V.any, V.any, V.any, V.any, V.any, V.any, V.any, V.any, V.any, V.any, V.any, V.any, V.any, V.any, V.any, V.any, V.any, V.any, V.any, V.any, V.any, V.any, V.any, V.any, V.any, V.any, V.any, V.any, V.any, V.any, V.any, V.any, V.any, V.any, V.any, V.any, V.any, V.any, V.any, V.any, V.any, V.any, V.any, V.any], H, []⟩ (kAt (cx b w0) flatironref18_Update.plan flatironref18_Update.planL flatironref18_Update.body [1, 1, 1, 1, 1, 1] (kFin prog flatironref18_Update.res Q))
def flatironref18_Update.j7 (b : Nat) (w0 : World) (x0 : V) (x1 : List UInt8) (x7 : V) (x45 : Bool) (H : Hp) (Q : Rs → Hp → Prop) : Prop := Aw (cx b w0) (cAt flatironref18_Update.body [1, 1, 1, 1, 1, 0, 1]) ⟨[x0, (V.str x1), V.any, V.any, V.any, V.any, V.any, x7, V.any, V.any, V.any, V.any, V.any, V.any, V.any, V.any, V.any, V.any, V.any, V.any, V.any, V.any, V.any, V.any, V.any, V.any, V.any, V.any, V.any, V.any, V.any, V.any, V.any, V.any, V.any, V.any, V.any, V.any, V.any, V.any, V.any, V.any, V.any, V.any, V.any, (V.bool x45), V.any, V.any, V.any, V.any, V.any, V.any, V.any, V.any, V.any, V.any, V.any, V.any, V.any, V.any, V.any, V.any, V.any, V.any, V.any, V.any, V.any, V.any, V.any, V.any, V.any, V.any, V.any, V.any, V.any, V.any, V.any, V.any, V.any, V.any, V.any, V.any, V.any, V.any, V.any, V.any, V.any, V.any, V.any, V.any, V.any, V.any, V.any, V.any, V.any, V.any, V.any, V.any, V.any, V.any, V.any, V.any, V.any, V.any, V.any, V.any, V.any, V.any, V.any, V.any, V.any, V.any, V.any, V.any, V.any, V.any, V.any, V.any, V.any, V.any, V.any, V.any, V.any, V.any, V.any, V.any, V.any, V.any, V.any, V.any, V.any, V.any, V.any, V.any, V.any, V.any, V.any, V.any, V.any, V.any, V.any, V.any, V.any, V.any, V.any, V.any, V.any, V.any, V.any, V.any, V.any, V.any, V.any, V.any, V.any, V.any, V.any, V.any, V.any, V.any, V.any, V.any, V.any, V.any, V.any, V.any, V.any, V.any, V.any, V.any, V.any, V.any, V.any, V.any, V.any, V.any, V.any, V.any, V.any, V.any, V.any, V.any, V.any, V.any, V.any, V.any, V.any, V.any, V.any, V.any, V.any, V.any, V.any, V.any, V.any, V.any, V.any, V.any, V.any, V.any, V.any, V.any, V.any, V.any, V.any, V.any, V.any, V.any], H, []⟩ (kAt (cx b w0) flatironref18_Update.plan flatironref18_Update.planL flatironref18_Update.body [1, 1, 1, 1, 1, 0, 1] (kFin prog flatironref18_Update.res Q))
def flatironref18_Update.l10 (b : Nat) (w0 : World) (x0 : V) (x1 : List UInt8) (x7 : V) (x8 : V) (x9 : Int) (H : Hp) (Q : Rs → Hp → Prop) : Prop := Al (cx b w0) (cAt flatironref18_Update.body [1, 1, 1, 1, 1, 1, 1, 0, 1, 0, 0]) ⟨[x0, (V.str x1), V.any, V.any, V.any, V.any, V.any, x7, x8, (V.int .i64 x9), V.any, V.any, V.any, V.any, V.any, V.any, V.any, V.any, V.any, V.any, V.any, V.any, V.any, V.any, V.any, V.any, V.any, V.any, V.any, V.any, V.any, V.any, V.any, V.any, V.any, V.any, V.any, V.any, V.any, V.any, V.any, V.any, V.any, V.any, V.any, V.any, V.any, V.any, V.any, V.any, V.any, V.any, V.any, V.any, V.any, V.any, V.any, V.any, V.any, V.any, V.any, V.any, V.any, V.any, V.any, V.any, V.any, V.any, V.any, V.any, V.any, V.any, V.any, V.any, V.any, V.any, V.any, V.any, V.any, V.any, V.any, V.any, V.any, V.any, V.any, V.any, V.any, V.any, V.any, V.any, V.any, V.any, V.any, V.any, V.any, V.any, V.any, V.any, V.any, V.any, V.any, V.any, V.any, V.any, V.any, V.any, V.any, V.any, V.any, V.any, V.any, V.any, V.any, V.any, V.any, V.any, V.any, V.any, V.any, V.any, V.any, V.any, V.any, V.any, V.any, V.any, V.any, V.any, V.any, V.any, V.any, V.any, V.any, V.any, V.any, V.any, V.any, V.any, V.any, V.any, V.any, V.any, V.any, V.any, V.any, V.any, V.any, V.any, V.any, V.any, V.any, V.any, V.any, V.any, V.any, V.any, V.any, V.any, V.any, V.any, V.any, V.any, V.any, V.any, V.any, V.any, V.any, V.any, V.any, V.any, V.any, V.any, V.any, V.any, V.any, V.any, V.any, V.any, V.any, V.any, V.any, V.any, V.any, V.any, V.any, V.any, V.any, V.any, V.any, V.any, V.any, V.any, V.any, V.any, V.any, V.any, V.any, V.any, V.any, V.any, V.any, V.any, V.any, V.any, V.any, V.any, V.any, V.any], H, []⟩ (kAt (cx b w0) flatironref18_Update.plan flatironref18_Update.planL flatironref18_Update.body [1, 1, 1, 1, 1, 1, 1, 0, 1, 0] (kFin prog flatironref18_Update.res Q))
def flatironref18_Update.j16 (b : Nat) (w0 : World) (x0 : V) (x1 : List UInt8) (x7 : V) (x8 : V) (x9 : Int) (x10 : List UInt8) (H : Hp) (Q : Rs → Hp → Prop) : Prop := Aw (cx b w0) (cAt flatironref18_Update.body [1, 1, 1, 1, 1, 1, 1, 0, 1, 0, 0, 1, 0, 0, 1, 1]) ⟨[x0, (V.str x1), V.any, V.any, V.any, V.any, V.any, x7, x8, (V.int .i64 x9), (V.str x10), V.any, V.any, V.any, V.any, V.any, V.any, V.any, V.any, V.any, V.any, V.any, V.any, V.any, V.any, V.any, V.any, V.any, V.any, V.any, V.any, V.any, V.any, V.any, V.any, V.any, V.any, V.any, V.any, V.any, V.any, V.any, V.any, V.any, V.any, V.any, V.any, V.any, V.any, V.any, V.any, V.any, V.any, V.any, V.any, V.any, V.any, V.any, V.any, V.any, V.any, V.any, V.any, V.any, V.any, V.any, V.any, V.any, V.any, V.any, V.any, V.any, V.any, V.any, V.any, V.any, V.any, V.any, V.any, V.any, V.any, V.any, V.any, V.any, V.any, V.any, V.any, V.any, V.any, V.any, V.any, V.any, V.any, V.any, V.any, V.any, V.any, V.any, V.any, V.any, V.any, V.any, V.any, V.any, V.any, V.any, V.any, V.any, V.any, V.any, V.any, V.any, V.any, V.any, V.any, V.any, V.any, V.any, V.any, V.any, V.any, V.any, V.any, V.any, V.any, V.any, V.any, V.any, V.any, V.any, V.any, V.any, V.any, V.any, V.any, V.any, V.any, V.any, V.any, V.any, V.any, V.any, V.any, V.any, V.any, V.any, V.any, V.any, V.any, V.any, V.any, V.any, V.any, V.any, V.any, V.any, V.any, V.any, V.any, V.any, V.any, V.any, V.any, V.any, V.any, V.any, V.any, V.any, V.any, V.any, V.any, V.any, V.any, V.any, V.any, V.any, V.any, V.any, V.any, V.any, V.any, V.any, V.any, V.any, V.any, V.any, V.any, V.any, V.any, V.any, V.any, V.any, V.any, V.any, V.any, V.any, V.any, V.any, V.any, V.any, V.any, V.any, V.any, V.any, V.any, V.any, V.any, V.any], H, []⟩ (kAt (cx b w0) flatironref18_Update.plan flatironref18_Update.planL flatironref18_Update.body [1, 1, 1, 1, 1, 1, 1, 0, 1, 0, 0, 1, 0, 0, 1, 1] (kFin prog flatironref18_Update.res Q))
def flatironref18_Update.j26 (b : Nat) (w0 : World) (x0 : V) (x1 : List UInt8) (x7 : V) (x8 : V) (x14 : Bool) (H : Hp) (Q : Rs → Hp → Prop) : Prop := Aw (cx b w0) (cAt flatironref18_Update.body [1, 1, 1, 1, 1, 1, 1, 1, 1, 1]) ⟨[x0, (V.str x1), V.any, V.any, V.any, V.any, V.any, x7, x8, V.any, V.any, V.any, V.any, V.any, (V.bool x14), V.any, V.any, V.any, V.any, V.any, V.any, V.any, V.any, V.any, V.any, V.any, V.any, V.any, V.any, V.any, V.any, V.any, V.any, V.any, V.any, V.any, V.any, V.any, V.any, V.any, V.any, V.any, V.any, V.any, V.any, V.any, V.any, V.any, V.any, V.any, V.any, V.any, V.any, V.any, V.any, V.any, V.any, V.any, V.any, V.any, V.any, V.any, V.any, V.any, V.any, V.any, V.any, V.any, V.any, V.any, V.any, V.any, V.any, V.any, V.any, V.any, V.any, V.any, V.any, V.any, V.any, V.any, V.any, V.any, V.any, V.any, V.any, V.any, V.any, V.any, V.any, V.any, V.any, V.any, V.any, V.any, V.any, V.any, V.any, V.any, V.any, V.any, V.any, V.any, V.any, V.any, V.any, V.any, V.any, V.any, V.any, V.any, V.any, V.any, V.any, V.any, V.any, V.any, V.any, V.any, V.any, V.any, V.any, V.any, V.any, V.any, V.any, V.any, V.any, V.any, V.any, V.any, V.any, V.any, V.any, V.any, V.any, V.any, V.any, V.any, V.any, V.any, V.any, V.any, V.any, V.any, V.any, V.any, V.any, V.any, V.any, V.any, V.any, V.any, V.any, V.any, V.any, V.any, V.any, V.any, V.any, V.any, V.any, V.any, V.any, V.any, V.any, V.any, V.any, V.any, V.any, V.any, V.any, V.any, V.any, V.any, V.any, V.any, V.any, V.any, V.any, V.any, V.any, V.any, V.any, V.any, V.any, V.any, V.any, V.any, V.any, V.any, V.any, V.any, V.any, V.any, V.any, V.any, V.any, V.any, V.any, V.any, V.any, V.any, V.any, V.any, V.any, V.any], H, []⟩ (kAt (cx b w0) flatironref18_Update.plan flatironref18_Update.planL flatironref18_Update.body [1, 1, 1, 1, 1, 1, 1, 1, 1, 1] (kFin prog flatironref18_Update.res Q))
def flatironref18_Update.l27 (b : Nat) (w0 : World) (x0 : V) (x1 : List UInt8) (x7 : V) (x8 : V) (x14 : Bool) (x15 : Int) (H : Hp) (Q : Rs → Hp → Prop) : Prop := Al (cx b w0) (cAt flatironref18_Update.body [1, 1, 1, 1, 1, 1, 1, 1, 1, 1, 0, 1, 0, 0]) ⟨[x0, (V.str x1), V.any, V.any, V.any, V.any, V.any, x7, x8, V.any, V.any, V.any, V.any, V.any, (V.bool x14), (V.int .i64 x15), V.any, V.any, V.any, V.any, V.any, V.any, V.any, V.any, V.any, V.any, V.any, V.any, V.any, V.any, V.any, V.any, V.any, V.any, V.any, V.any, V.any, V.any, V.any, V.any, V.any, V.any, V.any, V.any, V.any, V.any, V.any, V.any, V.any, V.any, V.any, V.any, V.any, V.any, V.any, V.any, V.any, V.any, V.any, V.any, V.any, V.any, V.any, V.any, V.any, V.any, V.any, V.any, V.any, V.any, V.any, V.any, V.any, V.any, V.any, V.any, V.any, V.any, V.any, V.any, V.any, V.any, V.any, V.any, V.any, V.any, V.any, V.any, V.any, V.any, V.any, V.any, V.any, V.any, V.any, V.any, V.any, V.any, V.any, V.any, V.any, V.any, V.any, V.any, V.any, V.any, V.any, V.any, V.any, V.any, V.any, V.any, V.any, V.any, V.any, V.any, V.any, V.any, V.any, V.any, V.any, V.any, V.any, V.any, V.any, V.any, V.any, V.any, V.any, V.any, V.any, V.any, V.any, V.any, V.any, V.any, V.any, V.any, V.any, V.any, V.any, V.any, V.any, V.any, V.any, V.any, V.any, V.any, V.any, V.any, V.any, V.any, V.any, V.any, V.any, V.any, V.any, V.any, V.any, V.any, V.any, V.any, V.any, V.any, V.any, V.any, V.any, V.any, V.any, V.any, V.any, V.any, V.any, V.any, V.any, V.any, V.any, V.any, V.any, V.any, V.any, V.any, V.any, V.any, V.any, V.any, V.any, V.any, V.any, V.any, V.any, V.any, V.any, V.any, V.any, V.any, V.any, V.any, V.any, V.any, V.any, V.any, V.any, V.any, V.any, V.any, V.any, V.any], H, []⟩ (kAt (cx b w0) flatironref18_Update.plan flatironref18_Update.planL flatironref18_Update.body [1, 1, 1, 1, 1, 1, 1, 1, 1, 1, 0, 1, 0] (kFin prog flatironref18_Update.res Q))
def flatironref18_Update.j30 (b : Nat) (w0 : World) (x0 : V) (x1 : List UInt8) (x7 : V) (x8 : V) (x14 : Bool) (x15 : Int) (x16 : Bool) (H : Hp) (Q : Rs → Hp → Prop) : Prop := Aw (cx b w0) (cAt flatironref18_Update.body [1, 1, 1, 1, 1, 1, 1, 1, 1, 1, 0, 1, 0, 0, 1, 0, 0, 1]) ⟨[x0, (V.str x1), V.any, V.any, V.any, V.any, V.any, x7, x8, V.any, V.any, V.any, V.any, V.any, (V.bool x14), (V.int .i64 x15), (V.bool x16), V.any, V.any, V.any, V.any, V.any, V.any, V.any, V.any, V.any, V.any, V.any, V.any, V.any, V.any, V.any, V.any, V.any, V.any, V.any, V.any, V.any, V.any, V.any, V.any, V.any, V.any, V.any, V.any, V.any, V.any, V.any, V.any, V.any, V.any, V.any, V.any, V.any, V.any, V.any, V.any, V.any, V.any, V.any, V.any, V.any, V.any, V.any, V.any, V.any, V.any, V.any, V.any, V.any, V.any, V.any, V.any, V.any, V.any, V.any, V.any, V.any, V.any, V.any, V.any, V.any, V.any, V.any, V.any, V.any, V.any, V.any, V.any, V.any, V.any, V.any, V.any, V.any, V.any, V.any, V.any, V.any, V.any, V.any, V.any, V.any, V.any, V.any, V.any, V.any, V.any, V.any, V.any, V.any, V.any, V.any, V.any, V.any, V.any, V.any, V.any, V.any, V.any, V.any, V.any, V.any, V.any, V.any, V.any, V.any, V.any, V.any, V.any, V.any, V.any, V.any, V.any, V.any, V.any, V.any, V.any, V.any, V.any, V.any, V.any, V.any, V.any, V.any, V.any, V.any, V.any, V.any, V.any, V.any, V.any, V.any, V.any, V.any, V.any, V.any, V.any, V.any, V.any, V.any, V.any, V.any, V.any, V.any, V.any, V.any, V.any, V.any, V.any, V.any, V.any, V.any, V.any, V.any, V.any, V.any, V.any, V.any, V.any, V.any, V.any, V.any, V.any, V.any, V.any, V.any, V.any, V.any, V.any, V.any, V.any, V.any, V.any, V.any, V.any, V.any, V.any, V.any, V.any, V.any, V.any, V.any, V.any, V.any, V.any, V.any, V.any, V.any], H, []⟩ (kAt (cx b w0) flatironref18_Update.plan flatironref18_Update.planL flatironref18_Update.body [1, 1, 1, 1, 1, 1, 1, 1, 1, 1, 0, 1, 0, 0, 1, 0, 0, 1] (kFin prog flatironref18_Update.res Q))
def flatironref18_Update.j33 (b : Nat) (w0 : World) (x0 : V) (x1 : List UInt8) (x7 : V) (x14 : Bool) (H : Hp) (Q : Rs → Hp → Prop) : Prop := Aw (cx b w0) (cAt flatironref18_Update.body [1, 1, 1, 1, 1, 1, 1, 1, 1, 1, 1, 1]) ⟨[x0, (V.str x1), V.any, V.any, V.any, V.any, V.any, x7, V.any, V.any, V.any, V.any, V.any, V.any, (V.bool x14), V.any, V.any, V.any, V.any, V.any, V.any, V.any, V.any, V.any, V.any, V.any, V.any, V.any, V.any, V.any, V.any, V.any, V.any, V.any, V.any, V.any, V.any, V.any, V.any, V.any, V.any, V.any, V.any, V.any, V.any, V.any, V.any, V.any, V.any, V.any, V.any, V.any, V.any, V.any, V.any, V.any, V.any, V.any, V.any, V.any, V.any, V.any, V.any, V.any, V.any, V.any, V.any, V.any, V.any, V.any, V.any, V.any, V.any, V.any, V.any, V.any, V.any, V.any, V.any, V.any, V.any, V.any, V.any, V.any, V.any, V.any, V.any, V.any, V.any, V.any, V.any, V.any, V.any, V.any, V.any, V.any, V.any, V.any, V.any, V.any, V.any, V.any, V.any, V.any, V.any, V.any, V.any, V.any, V.any, V.any, V.any, V.any, V.any, V.any, V.any, V.any, V.any, V.any, V.any, V.any, V.any, V.any, V.any, V.any, V.any, V.any, V.any, V.any, V.any, V.any, V.any, V.any, V.any, V.any, V.any, V.any, V.any, V.any, V.any, V.any, V.any, V.any, V.any, V.any, V.any, V.any, V.any, V.any, V.any, V.any, V.any, V.any, V.any, V.any, V.any, V.any, V.any, V.any, V.any, V.any, V.any, V.any, V.any, V.any, V.any, V.any, V.any, V.any, V.any, V.any, V.any, V.any, V.any, V.any, V.any, V.any, V.any, V.any, V.any, V.any, V.any, V.any, V.any, V.any, V.any, V.any, V.any, V.any, V.any, V.any, V.any, V.any, V.any, V.any, V.any, V.any, V.any, V.any, V.any, V.any, V.any, V.any, V.any, V.any, V.any, V.any, V.any, V.any], H, []⟩ (kAt (cx b w0) flatironref18_Update.plan flatironref18_Update.planL flatironref18_Update.body [1, 1, 1, 1, 1, 1, 1, 1, 1, 1, 1, 1] (kFin prog flatironref18_Update.res Q))
def flatironref18_Update.j38 (b : Nat) (w0 : World) (x0 : V) (x1 : List UInt8) (x14 : Bool) (H : Hp) (Q : Rs → Hp → Prop) : Prop := Aw (cx b w0) (cAt flatironref18_Update.body [1, 1, 1, 1, 1, 1, 1, 1, 1, 1, 1, 1, 1]) ⟨[x0, (V.str x1), V.any, V.any, V.any, V.any, V.any, V.any, V.any, V.any, V.any, V.any, V.any, V.any, (V.bool x14), V.any, V.any, V.any, V.any, V.any, V.any, V.any, V.any, V.any, V.any, V.any, V.any, V.any, V.any, V.any, V.any, V.any, V.any, V.any, V.any, V.any, V.any, V.any, V.any, V.any, V.any, V.any, V.any, V.any, V.any, V.any, V.any, V.any, V.any, V.any, V.any, V.any, V.any, V.any, V.any, V.any, V.any, V.any, V.any, V.any, V.any, V.any, V.any, V.any, V.any, V.any, V.any, V.any, V.any, V.any, V.any, V.any, V.any, V.any, V.any, V.any, V.any, V.any, V.any, V.any, V.any, V.any, V.any, V.any, V.any, V.any, V.any, V.any, V.any, V.any, V.any, V.any, V.any, V.any, V.any, V.any, V.any, V.any, V.any, V.any, V.any, V.any, V.any, V.any, V.any, V.any, V.any, V.any, V.any, V.any, V.any, V.any, V.any, V.any, V.any, V.any, V.any, V.any, V.any, V.any, V.any, V.any, V.any, V.any, V.any, V.any, V.any, V.any, V.any, V.any, V.any, V.any, V.any, V.any, V.any, V.any, V.any, V.any, V.any, V.any, V.any, V.any, V.any, V.any, V.any, V.any, V.any, V.any, V.any, V.any, V.any, V.any, V.any, V.any, V.any, V.any, V.any, V.any, V.any, V.any, V.any, V.any, V.any, V.any, V.any, V.any, V.any, V.any, V.any, V.any, V.any, V.any, V.any, V.any, V.any, V.any, V.any, V.any, V.any, V.any, V.any, V.any, V.any, V.any, V.any, V.any, V.any, V.any, V.any, V.any, V.any, V.any, V.any, V.any, V.any, V.any, V.any, V.any, V.any, V.any, V.any, V.any, V.any, V.any, V.any, V.any, V.any, V.any], H, []⟩ (kAt (cx b w0) flatironref18_Update.plan flatironref18_Update.planL flatironref18_Update.body [1, 1, 1, 1, 1, 1, 1, 1, 1, 1, 1, 1, 1] (kFin prog flatironref18_Update.res Q))
def flatironref18_Update.j34 (b : Nat) (w0 : World) (x0 : V) (x1 : List UInt8) (x14 : Bool) (x162 : Bool) (H : Hp) (Q : Rs → Hp → Prop) : Prop := Aw (cx b w0) (cAt flatironref18_Update.body [1, 1, 1, 1, 1, 1, 1, 1, 1, 1, 1, 1, 0, 1]) ⟨[x0, (V.str x1), V.any, V.any, V.any, V.any, V.any, V.any, V.any, V.any, V.any, V.any, V.any, V.any, (V.bool x14), V.any, V.any, V.any, V.any, V.any, V.any, V.any, V.any, V.any, V.any, V.any, V.any, V.any, V.any, V.any, V.any, V.any, V.any, V.any, V.any, V.any, V.any, V.any, V.any, V.any, V.any, V.any, V.any, V.any, V.any, V.any, V.any, V.any, V.any, V.any, V.any, V.any, V.any, V.any, V.any, V.any, V.any, V.any, V.any, V.any, V.any, V.any, V.any, V.any, V.any, V.any, V.any, V.any, V.any, V.any, V.any, V.any, V.any, V.any, V.any, V.any, V.any, V.any, V.any, V.any, V.any, V.any, V.any, V.any, V.any, V.any, V.any, V.any, V.any, V.any, V.any, V.any, V.any, V.any, V.any, V.any, V.any, V.any, V.any, V.any, V.any, V.any, V.any, V.any, V.any, V.any, V.any, V.any, V.any, V.any, V.any, V.any, V.any, V.any, V.any, V.any, V.any, V.any, V.any, V.any, V.any, V.any, V.any, V.any, V.any, V.any, V.any, V.any, V.any, V.any, V.any, V.any, V.any, V.any, V.any, V.any, V.any, V.any, V.any, V.any, V.any, V.any, V.any, V.any, V.any, V.any, V.any, V.any, V.any, V.any, V.any, V.any, V.any, V.any, V.any, V.any, V.any, V.any, V.any, V.any, V.any, V.any, (V.bool x162), V.any, V.any, V.any, V.any, V.any, V.any, V.any, V.any, V.any, V.any, V.any, V.any, V.any, V.any, V.any, V.any, V.any, V.any, V.any, V.any, V.any, V.any, V.any, V.any, V.any, V.any, V.any, V.any, V.any, V.any, V.any, V.any, V.any, V.any, V.any, V.any, V.any, V.any, V.any, V.any, V.any, V.any, V.any, V.any, V.any], H, []⟩ (kAt (cx b w0) flatironref18_Update.plan flatironref18_Update.planL flatironref18_Update.body [1, 1, 1, 1, 1, 1, 1, 1, 1, 1, 1, 1, 0, 1] (kFin prog flatironref18_Update.res Q))
def flatironref18_Update.j40 (b : Nat) (w0 : World) (x0 : V) (x1 : List UInt8) (H : Hp) (Q : Rs → Hp → Prop) : Prop := Aw (cx b w0) (cAt flatironref18_Update.body [1, 1, 1, 1, 1, 1, 1, 1, 1, 1, 1, 1, 1, 1]) ⟨[x0, (V.str x1), V.any, V.any, V.any, V.any, V.any, V.any, V.any, V.any, V.any, V.any, V.any, V.any, V.any, V.any, V.any, V.any, V.any, V.any, V.any, V.any, V.any, V.any, V.any, V.any, V.any, V.any, V.any, V.any, V.any, V.any, V.any, V.any, V.any, V.any, V.any, V.any, V.any, V.any, V.any, V.any, V.any, V.any, V.any, V.any, V.any, V.any, V.any, V.any, V.any, V.any, V.any, V.any, V.any, V.any, V.any, V.any, V.any, V.any, V.any, V.any, V.any, V.any, V.any, V.any, V.any, V.any, V.any, V.any, V.any, V.any, V.any, V.any, V.any, V.any, V.any, V.any, V.any, V.any, V.any, V.any, V.any, V.any, V.any, V.any, V.any, V.any, V.any, V.any, V.any, V.any, V.any, V.any, V.any, V.any, V.any, V.any, V.any, V.any, V.any, V.any, V.any, V.any, V.any, V.any, V.any, V.any, V.any, V.any, V.any, V.any, V.any, V.any, V.any, V.any, V.any, V.any, V.any, V.any, V.any, V.any, V.any, V.any, V.any, V.any, V.any, V.any, V.any, V.any, V.any, V.any, V.any, V.any, V.any, V.any, V.any, V.any, V.any, V.any, V.any, V.any, V.any, V.any, V.any, V.any, V.any, V.any, V.any, V.any, V.any, V.any, V.any, V.any, V.any, V.any, V.any, V.any, V.any, V.any, V.any, V.any, V.any, V.any, V.any, V.any, V.any, V.any, V.any, V.any, V.any, V.any, V.any, V.any, V.any, V.any, V.any, V.any, V.any, V.any, V.any, V.any, V.any, V.any, V.any, V.any, V.any, V.any, V.any, V.any, V.any, V.any, V.any, V.any, V.any, V.any, V.any, V.any, V.any, V.any, V.any, V.any, V.any, V.any, V.any, V.any, V.any, V.any], H, []⟩ (kAt (cx b w0) flatironref18_Update.plan flatironref18_Update.planL flatironref18_Update.body [1, 1, 1, 1, 1, 1, 1, 1, 1, 1, 1, 1, 1, 1] (kFin prog flatironref18_Update.res Q))
def flatironref18_Update.j8p (b : Nat) (w0 : World) (x0 : V) (x1 : List UInt8) (x7 : V) (H : Hp) (Q : Rs → Hp → Prop) : Prop :=
flatironref18_Update.l10 b w0 x0 x1 x7 V.nilsl 0 H Q
theorem flatironref18_Update.j8s (b : Nat) (w0 : World) (x0 : V) (x1 : List UInt8) (x7 : V) (H : Hp) (Q : Rs → Hp → Prop) (h : flatironref18_Update.j8p b w0 x0 x1 x7 H Q) : flatironref18_Update.j8 b w0 x0 x1 x7 H Q := by
  have e : wpE (cx b w0) flatironref18_Update.plan flatironref18_Update.planL (cAt flatironref18_Update.body [1, 1, 1, 1, 1, 1]) ⟨[x0, (V.str x1), V.any, V.any, V.any, V.any, V.any, x7, V.any, V.any, V.any, V.any, V.any, V.any, V.any, V.any, V.any, V.any, V.any, V.any, V.any, V.any, V.any, V.any, V.any, V.any, V.any, V.any, V.any, V.any, V.any, V.any, V.any, V.any, V.any, V.any, V.any, V.any, V.any, V.any, V.any, V.any, V.any, V.any, V.any, V.any, V.any, V.any, V.any, V.any, V.any, V.any, V.any, V.any, V.any, V.any, V.any, V.any, V.any, V.any, V.any, V.any, V.any, V.any, V.any, V.any, V.any, V.any, V.any, V.any, V.any, V.any, V.any, V.any, V.any, V.any, V.any, V.any, V.any, V.any, V.any, V.any, V.any, V.any, V.any, V.any, V.any, V.any, V.any, V.any, V.any, V.any, V.any, V.any, V.any, V.any, V.any, V.any, V.any, V.any, V.any, V.any, V.any, V.any, V.any, V.any, V.any, V.any, V.any, V.any, V.any, V.any, V.any, V.any, V.any, V.any, V.any, V.any, V.any, V.any, V.any, V.any, V.any, V.any, V.any, V.any, V.any, V.any, V.any, V.any, V.any, V.any, V.any, V.any, V.any, V.any, V.any, V.any, V.any, V.any, V.any, V.any, V.any, V.any, V.any, V.any, V.any, V.any, V.any, V.any, V.any, V.any, V.any, V.any, V.any, V.any, V.any, V.any, V.any, V.any, V.any, V.any, V.any, V.any, V.any, V.any, V.any, V.any, V.any, V.any, V.any, V.any, V.any, V.any, V.any, V.any, V.any, V.any, V.any, V.any, V.any, V.any, V.any, V.any, V.any, V.any, V.any, V.any, V.any, V.any, V.any, V.any, V.any, V.any, V.any, V.any, V.any, V.any, V.any, V.any, V.any, V.any, V.any, V.any, V.any, V.any, V.any, V.any], H, []⟩ (kAt (cx b w0) flatironref18_Update.plan flatironref18_Update.planL flatironref18_Update.body [1, 1, 1, 1, 1, 1] (kFin prog flatironref18_Update.res Q)) = flatironref18_Update.j8p b w0 x0 x1 x7 H Q := by kernel_rfl
  exact wpE_ok mixed _ _ _ (e.mpr h)
def flatironref18_Update.j7p (b : Nat) (w0 : World) (x0 : V) (x1 : List UInt8) (x7 : V) (x45 : Bool) (H : Hp) (Q : Rs → Hp → Prop) : Prop :=
cnd x45 (
Q (Rs.ret (V.tuple [(V.int .i64 8), (V.str x1)])) H) (
flatironref18_Update.j8 b w0 x0 x1 x7 H Q)
theorem flatironref18_Update.j7s (b : Nat) (w0 : World) (x0 : V) (x1 : List UInt8) (x7 : V) (x45 : Bool) (H : Hp) (Q : Rs → Hp → Prop) (h : flatironref18_Update.j7p b w0 x0 x1 x7 x45 H Q) : flatironref18_Update.j7 b w0 x0 x1 x7 x45 H Q := by
  have e : wpE (cx b w0) flatironref18_Update.plan flatironref18_Update.planL (cAt flatironref18_Update.body [1, 1, 1, 1, 1, 0, 1]) ⟨[x0, (V.str x1), V.any, V.any, V.any, V.any, V.any, x7, V.any, V.any, V.any, V.any, V.any, V.any, V.any, V.any, V.any, V.any, V.any, V.any, V.any, V.any, V.any, V.any, V.any, V.any, V.any, V.any, V.any, V.any, V.any, V.any, V.any, V.any, V.any, V.any, V.any, V.any, V.any, V.any, V.any, V.any, V.any, V.any, V.any, (V.bool x45), V.any, V.any, V.any, V.any, V.any, V.any, V.any, V.any, V.any, V.any, V.any, V.any, V.any, V.any, V.any, V.any, V.any, V.any, V.any, V.any, V.any, V.any, V.any, V.any, V.any, V.any, V.any, V.any, V.any, V.any, V.any, V.any, V.any, V.any, V.any, V.any, V.any, V.any, V.any, V.any, V.any, V.any, V.any, V.any, V.any, V.any, V.any, V.any, V.any, V.any, V.any, V.any, V.any, V.any, V.any, V.any, V.any, V.any, V.any, V.any, V.any, V.any, V.any, V.any, V.any, V.any, V.any, V.any, V.any, V.any, V.any, V.any, V.any, V.any, V.any, V.any, V.any, V.any, V.any, V.any, V.any, V.any, V.any, V.any, V.any, V.any, V.any, V.any, V.any, V.any, V.any, V.any, V.any, V.any, V.any, V.any, V.any, V.any, V.any, V.any, V.any, V.any, V.any, V.any, V.any, V.any, V.any, V.any, V.any, V.any, V.any, V.any, V.any, V.any, V.any, V.any, V.any, V.any, V.any, V.any, V.any, V.any, V.any, V.any, V.any, V.any, V.any, V.any, V.any, V.any, V.any, V.any, V.any, V.any, V.any, V.any, V.any, V.any, V.any, V.any, V.any, V.any, V.any, V.any, V.any, V.any, V.any, V.any, V.any, V.any, V.any, V.any, V.any, V.any, V.any, V.any, V.any, V.any, V.any, V.any, V.any, V.any], H, []⟩ (kAt (cx b w0) flatironref18_Update.plan flatironref18_Update.planL flatironref18_Update.body [1, 1, 1, 1, 1, 0, 1] (kFin prog flatironref18_Update.res Q)) = flatironref18_Update.j7p b w0 x0 x1 x7 x45 H Q := by kernel_rfl
  exact wpE_ok mixed _ _ _ (e.mpr h)
def flatironref18_Update.l10p (b : Nat) (w0 : World) (x0 : V) (x1 : List UInt8) (x7 : V) (x8 : V) (x9 : Int) (H : Hp) (Q : Rs → Hp → Prop) : Prop :=
faE 1 x7 fun p_1 =>
ldE false 1 p_1 H fun v_2 =>
lenE v_2 fun k_3 =>
faE 2 x7 fun p_4 =>
ldE false 1 p_4 H fun v_5 =>
lenE v_5 fun k_6 =>
cnd (decide ((x9 : Int) < (IntKind.i64.wrap ((k_3 : Int) + (k_6 : Int))))) (
faE 1 x7 fun p_7 =>
ldE false 1 p_7 H fun v_8 =>
lenE v_8 fun k_9 =>
cnd (decide ((x9 : Int) < (k_9 : Int))) (
faE 1 x7 fun p_10 =>
ldE false 1 p_10 H fun v_11 =>
idxE 1 v_11 x9 fun p_12 =>
ldE false 1 p_12 H fun v_13 =>
strE v_13 fun s_14 =>
flatironref18_Update.j16 b w0 x0 x1 x7 x8 x9 s_14 H Q) (
faE 2 x7 fun p_15 =>
ldE false 1 p_15 H fun v_16 =>
faE 1 x7 fun p_17 =>
ldE false 1 p_17 H fun v_18 =>
lenE v_18 fun k_19 =>
idxE 1 v_16 (IntKind.i64.wrap (x9 - (k_19 : Int))) fun p_20 =>
ldE false 1 p_20 H fun v_21 =>
strE v_21 fun s_22 =>
flatironref18_Update.j16 b w0 x0 x1 x7 x8 x9 s_22 H Q)) (
Ac (cx b w0) 73 [x0, (V.str x1)] H (thenR (fun v_23 H_24 =>
aggE v_23 fun l_27 =>
headE l_27 fun c_28 r_29 =>
strE c_28 fun s_30 =>
headE r_29 fun c_31 r_32 =>
headE r_32 fun c_33 r_34 =>
headE r_34 fun c_35 r_36 =>
boolE c_35 fun b_37 =>
headE r_36 fun c_38 r_39 =>
boolE c_38 fun b_40 =>
headE r_39 fun c_41 r_42 =>
boolE c_41 fun b_43 =>
headE r_42 fun c_44 r_45 =>
intK .i64 c_44 fun n_46 =>
headE r_45 fun c_47 r_48 =>
boolE c_47 fun b_49 =>
headE r_48 fun c_50 r_51 =>
boolE c_50 fun b_52 =>
endE r_51 (
stE x7 [(V.str s_30), c_31, c_33, (V.bool b_37), (V.bool b_40), (V.bool b_43), (V.int .i64 n_46), (V.bool b_49), (V.bool b_52)] H_24 fun H_53 =>
faE 5 x7 fun p_54 =>
ldE false 1 p_54 H_53 fun v_55 =>
boolE v_55 fun b_56 =>
cnd (b_56 == false) (
faE 6 x7 fun p_57 =>
ldE false 1 p_57 H_53 fun v_58 =>
intK .i64 v_58 fun n_59 =>
flatironref18_Update.j26 b w0 x0 x1 x7 x8 ((decide ((n_59 : Int) = 0))) H_53 Q) (
flatironref18_Update.j26 b w0 x0 x1 x7 x8 true H_53 Q)))
(fun v_25 H_26 => Q (Rs.pan v_25) H_26)))
theorem flatironref18_Update.l10s (b : Nat) (w0 : World) (x0 : V) (x1 : List UInt8) (x7 : V) (x8 : V) (x9 : Int) (H : Hp) (Q : Rs → Hp → Prop) (h : flatironref18_Update.l10p b w0 x0 x1 x7 x8 x9 H Q) : flatironref18_Update.l10 b w0 x0 x1 x7 x8 x9 H Q := by
  have e : wpE (cx b w0) flatironref18_Update.plan flatironref18_Update.planL (cAt flatironref18_Update.body [1, 1, 1, 1, 1, 1, 1, 0, 1, 0, 0]) ⟨[x0, (V.str x1), V.any, V.any, V.any, V.any, V.any, x7, x8, (V.int .i64 x9), V.any, V.any, V.any, V.any, V.any, V.any, V.any, V.any, V.any, V.any, V.any, V.any, V.any, V.any, V.any, V.any, V.any, V.any, V.any, V.any, V.any, V.any, V.any, V.any, V.any, V.any, V.any, V.any, V.any, V.any, V.any, V.any, V.any, V.any, V.any, V.any, V.any, V.any, V.any, V.any, V.any, V.any, V.any, V.any, V.any, V.any, V.any, V.any, V.any, V.any, V.any, V.any, V.any, V.any, V.any, V.any, V.any, V.any, V.any, V.any, V.any, V.any, V.any, V.any, V.any, V.any, V.any, V.any, V.any, V.any, V.any, V.any, V.any, V.any, V.any, V.any, V.any, V.any, V.any, V.any, V.any, V.any, V.any, V.any, V.any, V.any, V.any, V.any, V.any, V.any, V.any, V.any, V.any, V.any, V.any, V.any, V.any, V.any, V.any, V.any, V.any, V.any, V.any, V.any, V.any, V.any, V.any, V.any, V.any, V.any, V.any, V.any, V.any, V.any, V.any, V.any, V.any, V.any, V.any, V.any, V.any, V.any, V.any, V.any, V.any, V.any, V.any, V.any, V.any, V.any, V.any, V.any, V.any, V.any, V.any, V.any, V.any, V.any, V.any, V.any, V.any, V.any, V.any, V.any, V.any, V.any, V.any, V.any, V.any, V.any, V.any, V.any, V.any, V.any, V.any, V.any, V.any, V.any, V.any, V.any, V.any, V.any, V.any, V.any, V.any, V.any, V.any, V.any, V.any, V.any, V.any, V.any, V.any, V.any, V.any, V.any, V.any, V.any, V.any, V.any, V.any, V.any, V.any, V.any, V.any, V.any, V.any, V.any, V.any, V.any, V.any, V.any, V.any, V.any, V.any, V.any, V.any, V.any], H, []⟩ (kLoop (cx b w0) (((firstR (cAt flatironref18_Update.body [1, 1, 1, 1, 1, 1, 1, 0, 1, 0, 0])).bind flatironref18_Update.planL).getD []) (cAt flatironref18_Update.body [1, 1, 1, 1, 1, 1, 1, 0, 1, 0, 0]) (kAt (cx b w0) flatironref18_Update.plan flatironref18_Update.planL flatironref18_Update.body [1, 1, 1, 1, 1, 1, 1, 0, 1, 0] (kFin prog flatironref18_Update.res Q))) = flatironref18_Update.l10p b w0 x0 x1 x7 x8 x9 H Q := by kernel_rfl
  exact Al.round _ (wpE_ok mixed _ _ _ (e.mpr h))
def flatironref18_Update.j16p (b : Nat) (w0 : World) (x0 : V) (x1 : List UInt8) (x7 : V) (x8 : V) (x9 : Int) (x10 : List UInt8) (H : Hp) (Q : Rs → Hp → Prop) : Prop :=
nckE x0 fun v_60 =>
faE 5 v_60 fun p_61 =>
ldE false 1 p_61 H fun v_62 =>
Ac (cx b w0) 72 [v_62, (V.str x10)] H (thenR (fun v_63 H_64 =>
boolE v_63 fun b_67 =>
cnd b_67 (
nckE x0 fun v_68 =>
faE 3 v_68 fun p_69 =>
ldE false 1 p_69 H_64 fun v_70 =>
newE H_64 (O.tip (1 * 2) 46) fun a_71 H_72 =>
appE 2 46 v_70 [(V.agg [(V.str x1), (V.str x10)])] H_72 fun v_73 H_74 =>
nckE x0 fun v_75 =>
faE 3 v_75 fun p_76 =>
oneE v_73 (
stE p_76 [v_73] H_74 fun H_77 =>
flatironref18_Update.l10 b w0 x0 x1 x7 x8 ((IntKind.i64.wrap (x9 + 1))) H_77 Q)) (
Ac (cx b w0) 41 [x0, (V.str x10)] H_64 (thenR (fun v_78 H_79 =>
tupE v_78 fun l_82 =>
headE l_82 fun c_83 r_84 =>
intK .i64 c_83 fun n_85 =>
headE r_84 fun c_86 r_87 =>
strE c_86 fun s_88 =>
endE r_87 (
cnd (!decide ((n_85 : Int) = 0)) (
Q (Rs.ret (V.tuple [(V.int .i64 n_85), (V.str s_88)])) H_79) (
faE 1 x7 fun p_89 =>
ldE false 1 p_89 H_79 fun v_90 =>
lenE v_90 fun k_91 =>
cnd (decide ((x9 : Int) < (k_91 : Int))) (
newE H_79 (O.tip (1 * 1) 9) fun a_92 H_93 =>
appE 1 9 x8 [(V.str x10)] H_93 fun v_94 H_95 =>
flatironref18_Update.l10 b w0 x0 x1 x7 v_94 ((IntKind.i64.wrap (x9 + 1))) H_95 Q) (
flatironref18_Update.l10 b w0 x0 x1 x7 x8 ((IntKind.i64.wrap (x9 + 1))) H_79 Q))))
(fun v_80 H_81 => Q (Rs.pan v_80) H_81))))
(fun v_65 H_66 => Q (Rs.pan v_65) H_66))
theorem flatironref18_Update.j16s (b : Nat) (w0 : World) (x0 : V) (x1 : List UInt8) (x7 : V) (x8 : V) (x9 : Int) (x10 : List UInt8) (H : Hp) (Q : Rs → Hp → Prop) (h : flatironref18_Update.j16p b w0 x0 x1 x7 x8 x9 x10 H Q) : flatironref18_Update.j16 b w0 x0 x1 x7 x8 x9 x10 H Q := by
  have e : wpE (cx b w0) flatironref18_Update.plan flatironref18_Update.planL (cAt flatironref18_Update.body [1, 1, 1, 1, 1, 1, 1, 0, 1, 0, 0, 1, 0, 0, 1, 1]) ⟨[x0, (V.str x1), V.any, V.any, V.any, V.any, V.any, x7, x8, (V.int .i64 x9), (V.str x10), V.any, V.any, V.any, V.any, V.any, V.any, V.any, V.any, V.any, V.any, V.any, V.any, V.any, V.any, V.any, V.any, V.any, V.any, V.any, V.any, V.any, V.any, V.any, V.any, V.any, V.any, V.any, V.any, V.any, V.any, V.any, V.any, V.any, V.any, V.any, V.any, V.any, V.any, V.any, V.any, V.any, V.any, V.any, V.any, V.any, V.any, V.any, V.any, V.any, V.any, V.any, V.any, V.any, V.any, V.any, V.any, V.any, V.any, V.any, V.any, V.any, V.any, V.any, V.any, V.any, V.any, V.any, V.any, V.any, V.any, V.any, V.any, V.any, V.any, V.any, V.any, V.any, V.any, V.any, V.any, V.any, V.any, V.any, V.any, V.any, V.any, V.any, V.any, V.any, V.any, V.any, V.any, V.any, V.any, V.any, V.any, V.any, V.any, V.any, V.any, V.any, V.any, V.any, V.any, V.any, V.any, V.any, V.any, V.any, V.any, V.any, V.any, V.any, V.any, V.any, V.any, V.any, V.any, V.any, V.any, V.any, V.any, V.any, V.any, V.any, V.any, V.any, V.any, V.any, V.any, V.any, V.any, V.any, V.any, V.any, V.any, V.any, V.any, V.any, V.any, V.any, V.any, V.any, V.any, V.any, V.any, V.any, V.any, V.any, V.any, V.any, V.any, V.any, V.any, V.any, V.any, V.any, V.any, V.any, V.any, V.any, V.any, V.any, V.any, V.any, V.any, V.any, V.any, V.any, V.any, V.any, V.any, V.any, V.any, V.any, V.any, V.any, V.any, V.any, V.any, V.any, V.any, V.any, V.any, V.any, V.any, V.any, V.any, V.any, V.any, V.any, V.any, V.any, V.any, V.any, V.any, V.any], H, []⟩ (kAt (cx b w0) flatironref18_Update.plan flatironref18_Update.planL flatironref18_Update.body [1, 1, 1, 1, 1, 1, 1, 0, 1, 0, 0, 1, 0, 0, 1, 1] (kFin prog flatironref18_Update.res Q)) = flatironref18_Update.j16p b w0 x0 x1 x7 x8 x9 x10 H Q := by kernel_rfl
  exact wpE_ok mixed _ _ _ (e.mpr h)
def flatironref18_Update.j26p (b : Nat) (w0 : World) (x0 : V) (x1 : List UInt8) (x7 : V) (x8 : V) (x14 : Bool) (H : Hp) (Q : Rs → Hp → Prop) : Prop :=
flatironref18_Update.l27 b w0 x0 x1 x7 x8 x14 0 H Q
theorem flatironref18_Update.j26s (b : Nat) (w0 : World) (x0 : V) (x1 : List UInt8) (x7 : V) (x8 : V) (x14 : Bool) (H : Hp) (Q : Rs → Hp → Prop) (h : flatironref18_Update.j26p b w0 x0 x1 x7 x8 x14 H Q) : flatironref18_Update.j26 b w0 x0 x1 x7 x8 x14 H Q := by
  have e : wpE (cx b w0) flatironref18_Update.plan flatironref18_Update.planL (cAt flatironref18_Update.body [1, 1, 1, 1, 1, 1, 1, 1, 1, 1]) ⟨[x0, (V.str x1), V.any, V.any, V.any, V.any, V.any, x7, x8, V.any, V.any, V.any, V.any, V.any, (V.bool x14), V.any, V.any, V.any, V.any, V.any, V.any, V.any, V.any, V.any, V.any, V.any, V.any, V.any, V.any, V.any, V.any, V.any, V.any, V.any, V.any, V.any, V.any, V.any, V.any, V.any, V.any, V.any, V.any, V.any, V.any, V.any, V.any, V.any, V.any, V.any, V.any, V.any, V.any, V.any, V.any, V.any, V.any, V.any, V.any, V.any, V.any, V.any, V.any, V.any, V.any, V.any, V.any, V.any, V.any, V.any, V.any, V.any, V.any, V.any, V.any, V.any, V.any, V.any, V.any, V.any, V.any, V.any, V.any, V.any, V.any, V.any, V.any, V.any, V.any, V.any, V.any, V.any, V.any, V.any, V.any, V.any, V.any, V.any, V.any, V.any, V.any, V.any, V.any, V.any, V.any, V.any, V.any, V.any, V.any, V.any, V.any, V.any, V.any, V.any, V.any, V.any, V.any, V.any, V.any, V.any, V.any, V.any, V.any, V.any, V.any, V.any, V.any, V.any, V.any, V.any, V.any, V.any, V.any, V.any, V.any, V.any, V.any, V.any, V.any, V.any, V.any, V.any, V.any, V.any, V.any, V.any, V.any, V.any, V.any, V.any, V.any, V.any, V.any, V.any, V.any, V.any, V.any, V.any, V.any, V.any, V.any, V.any, V.any, V.any, V.any, V.any, V.any, V.any, V.any, V.any, V.any, V.any, V.any, V.any, V.any, V.any, V.any, V.any, V.any, V.any, V.any, V.any, V.any, V.any, V.any, V.any, V.any, V.any, V.any, V.any, V.any, V.any, V.any, V.any, V.any, V.any, V.any, V.any, V.any, V.any, V.any, V.any, V.any, V.any, V.any, V.any, V.any, V.any], H, []⟩ (kAt (cx b w0) flatironref18_Update.plan flatironref18_Update.planL flatironref18_Update.body [1, 1, 1, 1, 1, 1, 1, 1, 1, 1] (kFin prog flatironref18_Update.res Q)) = flatironref18_Update.j26p b w0 x0 x1 x7 x8 x14 H Q := by kernel_rfl
  exact wpE_ok mixed _ _ _ (e.mpr h)
def flatironref18_Update.l27p (b : Nat) (w0 : World) (x0 : V) (x1 : List UInt8) (x7 : V) (x8 : V) (x14 : Bool) (x15 : Int) (H : Hp) (Q : Rs → Hp → Prop) : Prop :=
lenE x8 fun k_96 =>
cnd (decide ((x15 : Int) < (k_96 : Int))) (
nckE x0 fun v_97 =>
faE 6 v_97 fun p_98 =>
ldE false 1 p_98 H fun v_99 =>
idxE 1 x8 x15 fun p_100 =>
ldE false 1 p_100 H fun v_101 =>
strE v_101 fun s_102 =>
Ac (cx b w0) 72 [v_99, (V.str s_102)] H (thenR (fun v_103 H_104 =>
boolE v_103 fun b_107 =>
flatironref18_Update.j30 b w0 x0 x1 x7 x8 x14 x15 b_107 H_104 Q)
(fun v_105 H_106 => Q (Rs.pan v_105) H_106))) (
cnd (x14 == true) (
faE 3 x7 fun p_108 =>
ldE false 1 p_108 H fun v_109 =>
boolE v_109 fun b_110 =>
flatironref18_Update.j33 b w0 x0 x1 x7 b_110 H Q) (
flatironref18_Update.j33 b w0 x0 x1 x7 false H Q))
theorem flatironref18_Update.l27s (b : Nat) (w0 : World) (x0 : V) (x1 : List UInt8) (x7 : V) (x8 : V) (x14 : Bool) (x15 : Int) (H : Hp) (Q : Rs → Hp → Prop) (h : flatironref18_Update.l27p b w0 x0 x1 x7 x8 x14 x15 H Q) : flatironref18_Update.l27 b w0 x0 x1 x7 x8 x14 x15 H Q := by
  have e : wpE (cx b w0) flatironref18_Update.plan flatironref18_Update.planL (cAt flatironref18_Update.body [1, 1, 1, 1, 1, 1, 1, 1, 1, 1, 0, 1, 0, 0]) ⟨[x0, (V.str x1), V.any, V.any, V.any, V.any, V.any, x7, x8, V.any, V.any, V.any, V.any, V.any, (V.bool x14), (V.int .i64 x15), V.any, V.any, V.any, V.any, V.any, V.any, V.any, V.any, V.any, V.any, V.any, V.any, V.any, V.any, V.any, V.any, V.any, V.any, V.any, V.any, V.any, V.any, V.any, V.any, V.any, V.any, V.any, V.any, V.any, V.any, V.any, V.any, V.any, V.any, V.any, V.any, V.any, V.any, V.any, V.any, V.any, V.any, V.any, V.any, V.any, V.any, V.any, V.any, V.any, V.any, V.any, V.any, V.any, V.any, V.any, V.any, V.any, V.any, V.any, V.any, V.any, V.any, V.any, V.any, V.any, V.any, V.any, V.any, V.any, V.any, V.any, V.any, V.any, V.any, V.any, V.any, V.any, V.any, V.any, V.any, V.any, V.any, V.any, V.any, V.any, V.any, V.any, V.any, V.any, V.any, V.any, V.any, V.any, V.any, V.any, V.any, V.any, V.any, V.any, V.any, V.any, V.any, V.any, V.any, V.any, V.any, V.any, V.any, V.any, V.any, V.any, V.any, V.any, V.any, V.any, V.any, V.any, V.any, V.any, V.any, V.any, V.any, V.any, V.any, V.any, V.any, V.any, V.any, V.any, V.any, V.any, V.any, V.any, V.any, V.any, V.any, V.any, V.any, V.any, V.any, V.any, V.any, V.any, V.any, V.any, V.any, V.any, V.any, V.any, V.any, V.any, V.any, V.any, V.any, V.any, V.any, V.any, V.any, V.any, V.any, V.any, V.any, V.any, V.any, V.any, V.any, V.any, V.any, V.any, V.any, V.any, V.any, V.any, V.any, V.any, V.any, V.any, V.any, V.any, V.any, V.any, V.any, V.any, V.any, V.any, V.any, V.any, V.any, V.any, V.any, V.any, V.any], H, []⟩ (kLoop (cx b w0) (((firstR (cAt flatironref18_Update.body [1, 1, 1, 1, 1, 1, 1, 1, 1, 1, 0, 1, 0, 0])).bind flatironref18_Update.planL).getD []) (cAt flatironref18_Update.body [1, 1, 1, 1, 1, 1, 1, 1, 1, 1, 0, 1, 0, 0]) (kAt (cx b w0) flatironref18_Update.plan flatironref18_Update.planL flatironref18_Update.body [1, 1, 1, 1, 1, 1, 1, 1, 1, 1, 0, 1, 0] (kFin prog flatironref18_Update.res Q))) = flatironref18_Update.l27p b w0 x0 x1 x7 x8 x14 x15 H Q := by kernel_rfl
  exact Al.round _ (wpE_ok mixed _ _ _ (e.mpr h))
def flatironref18_Update.j30p (b : Nat) (w0 : World) (x0 : V) (x1 : List UInt8) (x7 : V) (x8 : V) (x14 : Bool) (x15 : Int) (x16 : Bool) (H : Hp) (Q : Rs → Hp → Prop) : Prop :=
cnd (x16 == false) (
idxE 1 x8 x15 fun p_111 =>
ldE false 1 p_111 H fun v_112 =>
strE v_112 fun s_113 =>
faE 6 x7 fun p_114 =>
ldE false 1 p_114 H fun v_115 =>
intK .i64 v_115 fun n_116 =>
Ac (cx b w0) 73 [x0, (V.str s_113)] H (thenR (fun v_117 H_118 =>
aggE v_117 fun l_121 =>
headE l_121 fun c_122 r_123 =>
strE c_122 fun s_124 =>
headE r_123 fun c_125 r_126 =>
headE r_126 fun c_127 r_128 =>
headE r_128 fun c_129 r_130 =>
boolE c_129 fun b_131 =>
headE r_130 fun c_132 r_133 =>
boolE c_132 fun b_134 =>
headE r_133 fun c_135 r_136 =>
boolE c_135 fun b_137 =>
headE r_136 fun c_138 r_139 =>
intK .i64 c_138 fun n_140 =>
headE r_139 fun c_141 r_142 =>
boolE c_141 fun b_143 =>
headE r_142 fun c_144 r_145 =>
boolE c_144 fun b_146 =>
endE r_145 (
((ldE false 1 p_114 H_118 fun v_147 =>
intK .i64 v_147 fun n_148 =>
((V.int .i64 n_148) = (V.int .i64 n_116))) ∧
cnd (decide ((n_116 : Int) < n_140)) (
flatironref18_Update.l27 b w0 x0 x1 x7 x8 true ((IntKind.i64.wrap (x15 + 1))) H_118 Q) (
flatironref18_Update.l27 b w0 x0 x1 x7 x8 x14 ((IntKind.i64.wrap (x15 + 1))) H_118 Q))))
(fun v_119 H_120 => Q (Rs.pan v_119) H_120))) (
flatironref18_Update.l27 b w0 x0 x1 x7 x8 true ((IntKind.i64.wrap (x15 + 1))) H Q)
theorem flatironref18_Update.j30s (b : Nat) (w0 : World) (x0 : V) (x1 : List UInt8) (x7 : V) (x8 : V) (x14 : Bool) (x15 : Int) (x16 : Bool) (H : Hp) (Q : Rs → Hp → Prop) (h : flatironref18_Update.j30p b w0 x0 x1 x7 x8 x14 x15 x16 H Q) : flatironref18_Update.j30 b w0 x0 x1 x7 x8 x14 x15 x16 H Q := by
  have e : wpE (cx b w0) flatironref18_Update.plan flatironref18_Update.planL (cAt flatironref18_Update.body [1, 1, 1, 1, 1, 1, 1, 1, 1, 1, 0, 1, 0, 0, 1, 0, 0, 1]) ⟨[x0, (V.str x1), V.any, V.any, V.any, V.any, V.any, x7, x8, V.any, V.any, V.any, V.any, V.any, (V.bool x14), (V.int .i64 x15), (V.bool x16), V.any, V.any, V.any, V.any, V.any, V.any, V.any, V.any, V.any, V.any, V.any, V.any, V.any, V.any, V.any, V.any, V.any, V.any, V.any, V.any, V.any, V.any, V.any, V.any, V.any, V.any, V.any, V.any, V.any, V.any, V.any, V.any, V.any, V.any, V.any, V.any, V.any, V.any, V.any, V.any, V.any, V.any, V.any, V.any, V.any, V.any, V.any, V.any, V.any, V.any, V.any, V.any, V.any, V.any, V.any, V.any, V.any, V.any, V.any, V.any, V.any, V.any, V.any, V.any, V.any, V.any, V.any, V.any, V.any, V.any, V.any, V.any, V.any, V.any, V.any, V.any, V.any, V.any, V.any, V.any, V.any, V.any, V.any, V.any, V.any, V.any, V.any, V.any, V.any, V.any, V.any, V.any, V.any, V.any, V.any, V.any, V.any, V.any, V.any, V.any, V.any, V.any, V.any, V.any, V.any, V.any, V.any, V.any, V.any, V.any, V.any, V.any, V.any, V.any, V.any, V.any, V.any, V.any, V.any, V.any, V.any, V.any, V.any, V.any, V.any, V.any, V.any, V.any, V.any, V.any, V.any, V.any, V.any, V.any, V.any, V.any, V.any, V.any, V.any, V.any, V.any, V.any, V.any, V.any, V.any, V.any, V.any, V.any, V.any, V.any, V.any, V.any, V.any, V.any, V.any, V.any, V.any, V.any, V.any, V.any, V.any, V.any, V.any, V.any, V.any, V.any, V.any, V.any, V.any, V.any, V.any, V.any, V.any, V.any, V.any, V.any, V.any, V.any, V.any, V.any, V.any, V.any, V.any, V.any, V.any, V.any, V.any, V.any, V.any, V.any, V.any], H, []⟩ (kAt (cx b w0) flatironref18_Update.plan flatironref18_Update.planL flatironref18_Update.body [1, 1, 1, 1, 1, 1, 1, 1, 1, 1, 0, 1, 0, 0, 1, 0, 0, 1] (kFin prog flatironref18_Update.res Q)) = flatironref18_Update.j30p b w0 x0 x1 x7 x8 x14 x15 x16 H Q := by kernel_rfl
  exact wpE_ok mixed _ _ _ (e.mpr h)
def flatironref18_Update.j33p (b : Nat) (w0 : World) (x0 : V) (x1 : List UInt8) (x7 : V) (x14 : Bool) (H : Hp) (Q : Rs → Hp → Prop) : Prop :=
cnd (x14 == true) (
faE 4 x7 fun p_149 =>
ldE false 1 p_149 H fun v_150 =>
boolE v_150 fun b_151 =>
flatironref18_Update.j34 b w0 x0 x1 x14 b_151 H Q) (
flatironref18_Update.j34 b w0 x0 x1 x14 false H Q)
theorem flatironref18_Update.j33s (b : Nat) (w0 : World) (x0 : V) (x1 : List UInt8) (x7 : V) (x14 : Bool) (H : Hp) (Q : Rs → Hp → Prop) (h : flatironref18_Update.j33p b w0 x0 x1 x7 x14 H Q) : flatironref18_Update.j33 b w0 x0 x1 x7 x14 H Q := by
  have e : wpE (cx b w0) flatironref18_Update.plan flatironref18_Update.planL (cAt flatironref18_Update.body [1, 1, 1, 1, 1, 1, 1, 1, 1, 1, 1, 1]) ⟨[x0, (V.str x1), V.any, V.any, V.any, V.any, V.any, x7, V.any, V.any, V.any, V.any, V.any, V.any, (V.bool x14), V.any, V.any, V.any, V.any, V.any, V.any, V.any, V.any, V.any, V.any, V.any, V.any, V.any, V.any, V.any, V.any, V.any, V.any, V.any, V.any, V.any, V.any, V.any, V.any, V.any, V.any, V.any, V.any, V.any, V.any, V.any, V.any, V.any, V.any, V.any, V.any, V.any, V.any, V.any, V.any, V.any, V.any, V.any, V.any, V.any, V.any, V.any, V.any, V.any, V.any, V.any, V.any, V.any, V.any, V.any, V.any, V.any, V.any, V.any, V.any, V.any, V.any, V.any, V.any, V.any, V.any, V.any, V.any, V.any, V.any, V.any, V.any, V.any, V.any, V.any, V.any, V.any, V.any, V.any, V.any, V.any, V.any, V.any, V.any, V.any, V.any, V.any, V.any, V.any, V.any, V.any, V.any, V.any, V.any, V.any, V.any, V.any, V.any, V.any, V.any, V.any, V.any, V.any, V.any, V.any, V.any, V.any, V.any, V.any, V.any, V.any, V.any, V.any, V.any, V.any, V.any, V.any, V.any, V.any, V.any, V.any, V.any, V.any, V.any, V.any, V.any, V.any, V.any, V.any, V.any, V.any, V.any, V.any, V.any, V.any, V.any, V.any, V.any, V.any, V.any, V.any, V.any, V.any, V.any, V.any, V.any, V.any, V.any, V.any, V.any, V.any, V.any, V.any, V.any, V.any, V.any, V.any, V.any, V.any, V.any, V.any, V.any, V.any, V.any, V.any, V.any, V.any, V.any, V.any, V.any, V.any, V.any, V.any, V.any, V.any, V.any, V.any, V.any, V.any, V.any, V.any, V.any, V.any, V.any, V.any, V.any, V.any, V.any, V.any, V.any, V.any, V.any, V.any], H, []⟩ (kAt (cx b w0) flatironref18_Update.plan flatironref18_Update.planL flatironref18_Update.body [1, 1, 1, 1, 1, 1, 1, 1, 1, 1, 1, 1] (kFin prog flatironref18_Update.res Q)) = flatironref18_Update.j33p b w0 x0 x1 x7 x14 H Q := by kernel_rfl
  exact wpE_ok mixed _ _ _ (e.mpr h)
def flatironref18_Update.j38p (b : Nat) (w0 : World) (x0 : V) (x1 : List UInt8) (x14 : Bool) (H : Hp) (Q : Rs → Hp → Prop) : Prop :=
cnd x14 (
nckE x0 fun v_152 =>
faE 6 v_152 fun p_153 =>
ldE false 1 p_153 H fun v_154 =>
newE H (O.tip (1 * 1) 9) fun a_155 H_156 =>
appE 1 9 v_154 [(V.str x1)] H_156 fun v_157 H_158 =>
nckE x0 fun v_159 =>
faE 6 v_159 fun p_160 =>
oneE v_157 (
stE p_160 [v_157] H_158 fun H_161 =>
flatironref18_Update.j40 b w0 x0 x1 H_161 Q)) (
flatironref18_Update.j40 b w0 x0 x1 H Q)
theorem flatironref18_Update.j38s (b : Nat) (w0 : World) (x0 : V) (x1 : List UInt8) (x14 : Bool) (H : Hp) (Q : Rs → Hp → Prop) (h : flatironref18_Update.j38p b w0 x0 x1 x14 H Q) : flatironref18_Update.j38 b w0 x0 x1 x14 H Q := by
  have e : wpE (cx b w0) flatironref18_Update.plan flatironref18_Update.planL (cAt flatironref18_Update.body [1, 1, 1, 1, 1, 1, 1, 1, 1, 1, 1, 1, 1]) ⟨[x0, (V.str x1), V.any, V.any, V.any, V.any, V.any, V.any, V.any, V.any, V.any, V.any, V.any, V.any, (V.bool x14), V.any, V.any, V.any, V.any, V.any, V.any, V.any, V.any, V.any, V.any, V.any, V.any, V.any, V.any, V.any, V.any, V.any, V.any, V.any, V.any, V.any, V.any, V.any, V.any, V.any, V.any, V.any, V.any, V.any, V.any, V.any, V.any, V.any, V.any, V.any, V.any, V.any, V.any, V.any, V.any, V.any, V.any, V.any, V.any, V.any, V.any, V.any, V.any, V.any, V.any, V.any, V.any, V.any, V.any, V.any, V.any, V.any, V.any, V.any, V.any, V.any, V.any, V.any, V.any, V.any, V.any, V.any, V.any, V.any, V.any, V.any, V.any, V.any, V.any, V.any, V.any, V.any, V.any, V.any, V.any, V.any, V.any, V.any, V.any, V.any, V.any, V.any, V.any, V.any, V.any, V.any, V.any, V.any, V.any, V.any, V.any, V.any, V.any, V.any, V.any, V.any, V.any, V.any, V.any, V.any, V.any, V.any, V.any, V.any, V.any, V.any, V.any, V.any, V.any, V.any, V.any, V.any, V.any, V.any, V.any, V.any, V.any, V.any, V.any, V.any, V.any, V.any, V.any, V.any, V.any, V.any, V.any, V.any, V.any, V.any, V.any, V.any, V.any, V.any, V.any, V.any, V.any, V.any, V.any, V.any, V.any, V.any, V.any, V.any, V.any, V.any, V.any, V.any, V.any, V.any, V.any, V.any, V.any, V.any, V.any, V.any, V.any, V.any, V.any, V.any, V.any, V.any, V.any, V.any, V.any, V.any, V.any, V.any, V.any, V.any, V.any, V.any, V.any, V.any, V.any, V.any, V.any, V.any, V.any, V.any, V.any, V.any, V.any, V.any, V.any, V.any, V.any, V.any], H, []⟩ (kAt (cx b w0) flatironref18_Update.plan flatironref18_Update.planL flatironref18_Update.body [1, 1, 1, 1, 1, 1, 1, 1, 1, 1, 1, 1, 1] (kFin prog flatironref18_Update.res Q)) = flatironref18_Update.j38p b w0 x0 x1 x14 H Q := by kernel_rfl
  exact wpE_ok mixed _ _ _ (e.mpr h)
def flatironref18_Update.j34p (b : Nat) (w0 : World) (x0 : V) (x1 : List UInt8) (x14 : Bool) (x162 : Bool) (H : Hp) (Q : Rs → Hp → Prop) : Prop :=
cnd x162 (
Ac (cx b w0) 74 [x0, (V.str x1)] H (thenR (fun v_162 H_163 =>
boolE v_162 fun b_166 =>
cnd (!b_166) (
Q (Rs.ret (V.tuple [(V.int .i64 9), (V.str x1)])) H_163) (
nckE x0 fun v_167 =>
faE 2 v_167 fun p_168 =>
ldE false 1 p_168 H_163 fun v_169 =>
newE H_163 (O.tip (1 * 1) 9) fun a_170 H_171 =>
appE 1 9 v_169 [(V.str x1)] H_171 fun v_172 H_173 =>
nckE x0 fun v_174 =>
faE 2 v_174 fun p_175 =>
oneE v_172 (
stE p_175 [v_172] H_173 fun H_176 =>
flatironref18_Update.j38 b w0 x0 x1 x14 H_176 Q)))
(fun v_164 H_165 => Q (Rs.pan v_164) H_165))) (
flatironref18_Update.j38 b w0 x0 x1 x14 H Q)
theorem flatironref18_Update.j34s (b : Nat) (w0 : World) (x0 : V) (x1 : List UInt8) (x14 : Bool) (x162 : Bool) (H : Hp) (Q : Rs → Hp → Prop) (h : flatironref18_Update.j34p b w0 x0 x1 x14 x162 H Q) : flatironref18_Update.j34 b w0 x0 x1 x14 x162 H Q := by
  have e : wpE (cx b w0) flatironref18_Update.plan flatironref18_Update.planL (cAt flatironref18_Update.body [1, 1, 1, 1, 1, 1, 1, 1, 1, 1, 1, 1, 0, 1]) ⟨[x0, (V.str x1), V.any, V.any, V.any, V.any, V.any, V.any, V.any, V.any, V.any, V.any, V.any, V.any, (V.bool x14), V.any, V.any, V.any, V.any, V.any, V.any, V.any, V.any, V.any, V.any, V.any, V.any, V.any, V.any, V.any, V.any, V.any, V.any, V.any, V.any, V.any, V.any, V.any, V.any, V.any, V.any, V.any, V.any, V.any, V.any, V.any, V.any, V.any, V.any, V.any, V.any, V.any, V.any, V.any, V.any, V.any, V.any, V.any, V.any, V.any, V.any, V.any, V.any, V.any, V.any, V.any, V.any, V.any, V.any, V.any, V.any, V.any, V.any, V.any, V.any, V.any, V.any, V.any, V.any, V.any, V.any, V.any, V.any, V.any, V.any, V.any, V.any, V.any, V.any, V.any, V.any, V.any, V.any, V.any, V.any, V.any, V.any, V.any, V.any, V.any, V.any, V.any, V.any, V.any, V.any, V.any, V.any, V.any, V.any, V.any, V.any, V.any, V.any, V.any, V.any, V.any, V.any, V.any, V.any, V.any, V.any, V.any, V.any, V.any, V.any, V.any, V.any, V.any, V.any, V.any, V.any, V.any, V.any, V.any, V.any, V.any, V.any, V.any, V.any, V.any, V.any, V.any, V.any, V.any, V.any, V.any, V.any, V.any, V.any, V.any, V.any, V.any, V.any, V.any, V.any, V.any, V.any, V.any, V.any, V.any, V.any, V.any, (V.bool x162), V.any, V.any, V.any, V.any, V.any, V.any, V.any, V.any, V.any, V.any, V.any, V.any, V.any, V.any, V.any, V.any, V.any, V.any, V.any, V.any, V.any, V.any, V.any, V.any, V.any, V.any, V.any, V.any, V.any, V.any, V.any, V.any, V.any, V.any, V.any, V.any, V.any, V.any, V.any, V.any, V.any, V.any, V.any, V.any, V.any], H, []⟩ (kAt (cx b w0) flatironref18_Update.plan flatironref18_Update.planL flatironref18_Update.body [1, 1, 1, 1, 1, 1, 1, 1, 1, 1, 1, 1, 0, 1] (kFin prog flatironref18_Update.res Q)) = flatironref18_Update.j34p b w0 x0 x1 x14 x162 H Q := by kernel_rfl
  exact wpE_ok mixed _ _ _ (e.mpr h)
def flatironref18_Update.j40p (b : Nat) (w0 : World) (x0 : V) (x1 : List UInt8) (H : Hp) (Q : Rs → Hp → Prop) : Prop :=
nckE x0 fun v_177 =>
faE 4 v_177 fun p_178 =>
ldE false 1 p_178 H fun v_179 =>
newE H (O.tip (1 * 1) 9) fun a_180 H_181 =>
appE 1 9 v_179 [(V.str x1)] H_181 fun v_182 H_183 =>
nckE x0 fun v_184 =>
faE 4 v_184 fun p_185 =>
oneE v_182 (
stE p_185 [v_182] H_183 fun H_186 =>
nckE x0 fun v_187 =>
faE 5 v_187 fun p_188 =>
ldE false 1 p_188 H_186 fun v_189 =>
Ac (cx b w0) 75 [v_189] H_186 (thenR (fun v_190 H_191 =>
nckE x0 fun v_194 =>
faE 5 v_194 fun p_195 =>
oneE v_190 (
stE p_195 [v_190] H_191 fun H_196 =>
Q (Rs.ret (V.tuple [(V.int .i64 0), (V.str [])])) H_196))
(fun v_192 H_193 => Q (Rs.pan v_192) H_193)))
theorem flatironref18_Update.j40s (b : Nat) (w0 : World) (x0 : V) (x1 : List UInt8) (H : Hp) (Q : Rs → Hp → Prop) (h : flatironref18_Update.j40p b w0 x0 x1 H Q) : flatironref18_Update.j40 b w0 x0 x1 H Q := by
  have e : wpE (cx b w0) flatironref18_Update.plan flatironref18_Update.planL (cAt flatironref18_Update.body [1, 1, 1, 1, 1, 1, 1, 1, 1, 1, 1, 1, 1, 1]) ⟨[x0, (V.str x1), V.any, V.any, V.any, V.any, V.any, V.any, V.any, V.any, V.any, V.any, V.any, V.any, V.any, V.any, V.any, V.any, V.any, V.any, V.any, V.any, V.any, V.any, V.any, V.any, V.any, V.any, V.any, V.any, V.any, V.any, V.any, V.any, V.any, V.any, V.any, V.any, V.any, V.any, V.any, V.any, V.any, V.any, V.any, V.any, V.any, V.any, V.any, V.any, V.any, V.any, V.any, V.any, V.any, V.any, V.any, V.any, V.any, V.any, V.any, V.any, V.any, V.any, V.any, V.any, V.any, V.any, V.any, V.any, V.any, V.any, V.any, V.any, V.any, V.any, V.any, V.any, V.any, V.any, V.any, V.any, V.any, V.any, V.any, V.any, V.any, V.any, V.any, V.any, V.any, V.any, V.any, V.any, V.any, V.any, V.any, V.any, V.any, V.any, V.any, V.any, V.any, V.any, V.any, V.any, V.any, V.any, V.any, V.any, V.any, V.any, V.any, V.any, V.any, V.any, V.any, V.any, V.any, V.any, V.any, V.any, V.any, V.any, V.any, V.any, V.any, V.any, V.any, V.any, V.any, V.any, V.any, V.any, V.any, V.any, V.any, V.any, V.any, V.any, V.any, V.any, V.any, V.any, V.any, V.any, V.any, V.any, V.any, V.any, V.any, V.any, V.any, V.any, V.any, V.any, V.any, V.any, V.any, V.any, V.any, V.any, V.any, V.any, V.any, V.any, V.any, V.any, V.any, V.any, V.any, V.any, V.any, V.any, V.any, V.any, V.any, V.any, V.any, V.any, V.any, V.any, V.any, V.any, V.any, V.any, V.any, V.any, V.any, V.any, V.any, V.any, V.any, V.any, V.any, V.any, V.any, V.any, V.any, V.any, V.any, V.any, V.any, V.any, V.any, V.any, V.any, V.any], H, []⟩ (kAt (cx b w0) flatironref18_Update.plan flatironref18_Update.planL flatironref18_Update.body [1, 1, 1, 1, 1, 1, 1, 1, 1, 1, 1, 1, 1, 1] (kFin prog flatironref18_Update.res Q)) = flatironref18_Update.j40p b w0 x0 x1 H Q := by kernel_rfl
  exact wpE_ok mixed _ _ _ (e.mpr h)
def flatironref18_Update.p (b : Nat) (w0 : World) (a0 : V) (a1 : List UInt8) (H : Hp) (Q : Rs → Hp → Prop) : Prop :=
nckE a0 fun v_197 =>
faE 4 v_197 fun p_198 =>
ldE false 1 p_198 H fun v_199 =>
Ac (cx b w0) 72 [v_199, (V.str a1)] H (thenR (fun v_200 H_201 =>
boolE v_200 fun b_204 =>
cnd b_204 (
Q (Rs.ret (V.tuple [(V.int .i64 0), (V.str [])])) H_201) (
nckE a0 fun v_205 =>
faE 5 v_205 fun p_206 =>
ldE false 1 p_206 H_201 fun v_207 =>
newE H_201 (O.tip (1 * 1) 9) fun a_208 H_209 =>
appE 1 9 v_207 [(V.str a1)] H_209 fun v_210 H_211 =>
nckE a0 fun v_212 =>
faE 5 v_212 fun p_213 =>
oneE v_210 (
stE p_213 [v_210] H_211 fun H_214 =>
Ac (cx b w0) 73 [a0, (V.str a1)] H_214 (thenR (fun v_215 H_216 =>
aggE v_215 fun l_219 =>
headE l_219 fun c_220 r_221 =>
strE c_220 fun s_222 =>
headE r_221 fun c_223 r_224 =>
headE r_224 fun c_225 r_226 =>
headE r_226 fun c_227 r_228 =>
boolE c_227 fun b_229 =>
headE r_228 fun c_230 r_231 =>
boolE c_230 fun b_232 =>
headE r_231 fun c_233 r_234 =>
boolE c_233 fun b_235 =>
headE r_234 fun c_236 r_237 =>
intK .i64 c_236 fun n_238 =>
headE r_237 fun c_239 r_240 =>
boolE c_239 fun b_241 =>
headE r_240 fun c_242 r_243 =>
boolE c_242 fun b_244 =>
endE r_243 (
newE H_216 (O.box [(V.str []), V.nilsl, V.nilsl, (V.bool false), (V.bool false), (V.bool false), (V.int .i64 0), (V.bool false), (V.bool false)] 48) fun a_245 H_246 =>
stE (V.ptr a_245 0) [(V.str s_222), c_223, c_225, (V.bool b_229), (V.bool b_232), (V.bool b_235), (V.int .i64 n_238), (V.bool b_241), (V.bool b_244)] H_246 fun H_247 =>
ldE false 1 (V.ptr a_245 (0 + 3)) H_247 fun v_248 =>
boolE v_248 fun b_249 =>
cnd ((!b_249) == true) (
ldE false 1 (V.ptr a_245 (0 + 6)) H_247 fun v_250 =>
intK .i64 v_250 fun n_251 =>
flatironref18_Update.j7 b w0 a0 a1 (V.ptr a_245 0) ((decide ((n_251 : Int) = 0))) H_247 Q) (
flatironref18_Update.j7 b w0 a0 a1 (V.ptr a_245 0) false H_247 Q)))
(fun v_217 H_218 => Q (Rs.pan v_217) H_218)))))
(fun v_202 H_203 => Q (Rs.pan v_202) H_203))
theorem flatironref18_Update.s (b : Nat) (w0 : World) (a0 : V) (a1 : List UInt8) (H : Hp) (Q : Rs → Hp → Prop) (h : flatironref18_Update.p b w0 a0 a1 H Q) : Ac (cx b w0) 41 [a0, (V.str a1)] H Q := by
  have e : wpE (cx b w0) flatironref18_Update.plan flatironref18_Update.planL flatironref18_Update.body ⟨[a0, (V.str a1)] ++ List.replicate (Try.f41.ntmps - 2) .any, H, []⟩ (kFin prog flatironref18_Update.res Q) = flatironref18_Update.p b w0 a0 a1 H Q := by kernel_rfl
  exact Ac.enter mixed (fn := Try.f41) (by kernel_rfl) (show Try.f41.body = some flatironref18_Update.body by kernel_rfl) (e.mpr h)

/-! flatironref18_Goals -/
noncomputable def flatironref18_Goals.body : Code := (Try.f13.body).getD .skip
noncomputable def flatironref18_Goals.res : List ResultVar := Try.f13.results.toList
def flatironref18_Goals.plan : Plan := planOf []
def flatironref18_Goals.planL : Plan := planOf [(2, [0, 1, 6])]
def flatironref18_Goals.l2 (b : Nat) (w0 : World) (x0 : V) (x1 : V) (x6 : Int) (H : Hp) (Q : Rs → Hp → Prop) : Prop := Al (cx b w0) (cAt flatironref18_Goals.body [1, 0, 1, 0, 0]) ⟨[x0, x1, V.any, V.any, V.any, V.any, (V.int .i64 x6), V.any, V.any, V.any, V.any, V.any, V.any, V.any, V.any, V.any, V.any, V.any, V.any, V.any, V.any, V.any, V.any, V.any, V.any, V.any, V.any, V.any], H, []⟩ (kAt (cx b w0) flatironref18_Goals.plan flatironref18_Goals.planL flatironref18_Goals.body [1, 0, 1, 0] (kFin prog flatironref18_Goals.res Q))
def flatironref18_Goals.l2p (b : Nat) (w0 : World) (x0 : V) (x1 : V) (x6 : Int) (H : Hp) (Q : Rs → Hp → Prop) : Prop :=
lenE x1 fun k_1 =>
cnd (decide ((x6 : Int) < (k_1 : Int))) (
idxE 1 x1 x6 fun p_2 =>
ldE false 1 p_2 H fun v_3 =>
strE v_3 fun s_4 =>
Ac (cx b w0) 41 [x0, (V.str s_4)] H (thenR (fun v_5 H_6 =>
tupE v_5 fun l_9 =>
headE l_9 fun c_10 r_11 =>
intK .i64 c_10 fun n_12 =>
headE r_11 fun c_13 r_14 =>
strE c_13 fun s_15 =>
endE r_14 (
cnd (!decide ((n_12 : Int) = 0)) (
Q (Rs.ret (V.tuple [(V.int .i64 n_12), (V.str s_15)])) H_6) (
flatironref18_Goals.l2 b w0 x0 x1 ((IntKind.i64.wrap (x6 + 1))) H_6 Q)))
(fun v_7 H_8 => Q (Rs.pan v_7) H_8))) (
Q (Rs.ret (V.tuple [(V.int .i64 0), (V.str [])])) H)
theorem flatironref18_Goals.l2s (b : Nat) (w0 : World) (x0 : V) (x1 : V) (x6 : Int) (H : Hp) (Q : Rs → Hp → Prop) (h : flatironref18_Goals.l2p b w0 x0 x1 x6 H Q) : flatironref18_Goals.l2 b w0 x0 x1 x6 H Q := by
  have e : wpE (cx b w0) flatironref18_Goals.plan flatironref18_Goals.planL (cAt flatironref18_Goals.body [1, 0, 1, 0, 0]) ⟨[x0, x1, V.any, V.any, V.any, V.any, (V.int .i64 x6), V.any, V.any, V.any, V.any, V.any, V.any, V.any, V.any, V.any, V.any, V.any, V.any, V.any, V.any, V.any, V.any, V.any, V.any, V.any, V.any, V.any], H, []⟩ (kLoop (cx b w0) (((firstR (cAt flatironref18_Goals.body [1, 0, 1, 0, 0])).bind flatironref18_Goals.planL).getD []) (cAt flatironref18_Goals.body [1, 0, 1, 0, 0]) (kAt (cx b w0) flatironref18_Goals.plan flatironref18_Goals.planL flatironref18_Goals.body [1, 0, 1, 0] (kFin prog flatironref18_Goals.res Q))) = flatironref18_Goals.l2p b w0 x0 x1 x6 H Q := by kernel_rfl
  exact Al.round _ (wpE_ok mixed _ _ _ (e.mpr h))
def flatironref18_Goals.p (b : Nat) (w0 : World) (a0 : V) (a1 : V) (H : Hp) (Q : Rs → Hp → Prop) : Prop :=
flatironref18_Goals.l2 b w0 a0 a1 0 H Q
theorem flatironref18_Goals.s (b : Nat) (w0 : World) (a0 : V) (a1 : V) (H : Hp) (Q : Rs → Hp → Prop) (h : flatironref18_Goals.p b w0 a0 a1 H Q) : Ac (cx b w0) 13 [a0, a1] H Q := by
  have e : wpE (cx b w0) flatironref18_Goals.plan flatironref18_Goals.planL flatironref18_Goals.body ⟨[a0, a1] ++ List.replicate (Try.f13.ntmps - 2) .any, H, []⟩ (kFin prog flatironref18_Goals.res Q) = flatironref18_Goals.p b w0 a0 a1 H Q := by kernel_rfl
  exact Ac.enter mixed (fn := Try.f13) (by kernel_rfl) (show Try.f13.body = some flatironref18_Goals.body by kernel_rfl) (e.mpr h)

end Go.Proofs.Ytmpheeanjjfddaa.S
