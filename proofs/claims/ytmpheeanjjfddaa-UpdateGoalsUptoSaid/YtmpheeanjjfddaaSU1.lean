import Derived.Test.YtmpheeanjjfddaaSBase
namespace Go.Proofs.Ytmpheeanjjfddaa.S
open Go Go.RowKit Go.Proofs Go.Proofs.Ytmpheeanjjfddaa.SM
set_option linter.unusedVariables false
set_option maxRecDepth 100000
/-! flatironref18_At -/
noncomputable def flatironref18_At.body : Code := (Try.f39.body).getD .skip
noncomputable def flatironref18_At.res : List ResultVar := Try.f39.results.toList
def flatironref18_At.plan : Plan := planOf []
def flatironref18_At.planL : Plan := planOf [(2, [0, 1, 5])]
def flatironref18_At.l2 (b : Nat) (w0 : World) (x0 : V) (x1 : List UInt8) (x5 : Int) (H : Hp) (Q : Rs → Hp → Prop) : Prop := Al (cx b w0) (cAt flatironref18_At.body [1, 0, 1, 0, 0]) ⟨[x0, (V.str x1), V.any, V.any, V.any, (V.int .i64 x5), V.any, V.any, V.any, V.any, V.any, V.any, V.any, V.any, V.any, V.any, V.any, V.any, V.any, V.any, V.any, V.any, V.any, V.any, V.any, V.any], H, []⟩ (kAt (cx b w0) flatironref18_At.plan flatironref18_At.planL flatironref18_At.body [1, 0, 1, 0] (kFin prog flatironref18_At.res Q))
def flatironref18_At.l2p (b : Nat) (w0 : World) (x0 : V) (x1 : List UInt8) (x5 : Int) (H : Hp) (Q : Rs → Hp → Prop) : Prop :=
nckE x0 fun v_1 =>
faE 0 v_1 fun p_2 =>
ldE false 1 p_2 H fun v_3 =>
lenE v_3 fun k_4 =>
cnd (decide ((x5 : Int) < (k_4 : Int))) (
nckE x0 fun v_5 =>
faE 0 v_5 fun p_6 =>
ldE false 1 p_6 H fun v_7 =>
idxE 9 v_7 x5 fun p_8 =>
faE 0 p_8 fun p_9 =>
ldE false 1 p_9 H fun v_10 =>
strE v_10 fun s_11 =>
cnd (decide ((s_11 : List UInt8) = x1)) (
Q (Rs.ret (V.int .i64 x5)) H) (
flatironref18_At.l2 b w0 x0 x1 ((IntKind.i64.wrap (x5 + 1))) H Q)) (
Q (Rs.ret (V.int .i64 (-1))) H)
theorem flatironref18_At.l2s (b : Nat) (w0 : World) (x0 : V) (x1 : List UInt8) (x5 : Int) (H : Hp) (Q : Rs → Hp → Prop) (h : flatironref18_At.l2p b w0 x0 x1 x5 H Q) : flatironref18_At.l2 b w0 x0 x1 x5 H Q := by
  have e : wpE (cx b w0) flatironref18_At.plan flatironref18_At.planL (cAt flatironref18_At.body [1, 0, 1, 0, 0]) ⟨[x0, (V.str x1), V.any, V.any, V.any, (V.int .i64 x5), V.any, V.any, V.any, V.any, V.any, V.any, V.any, V.any, V.any, V.any, V.any, V.any, V.any, V.any, V.any, V.any, V.any, V.any, V.any, V.any], H, []⟩ (kLoop (cx b w0) (((firstR (cAt flatironref18_At.body [1, 0, 1, 0, 0])).bind flatironref18_At.planL).getD []) (cAt flatironref18_At.body [1, 0, 1, 0, 0]) (kAt (cx b w0) flatironref18_At.plan flatironref18_At.planL flatironref18_At.body [1, 0, 1, 0] (kFin prog flatironref18_At.res Q))) = flatironref18_At.l2p b w0 x0 x1 x5 H Q := by kernel_rfl
  exact Al.round _ (wpE_ok mixed _ _ _ (e.mpr h))
def flatironref18_At.p (b : Nat) (w0 : World) (a0 : V) (a1 : List UInt8) (H : Hp) (Q : Rs → Hp → Prop) : Prop :=
flatironref18_At.l2 b w0 a0 a1 0 H Q
theorem flatironref18_At.s (b : Nat) (w0 : World) (a0 : V) (a1 : List UInt8) (H : Hp) (Q : Rs → Hp → Prop) (h : flatironref18_At.p b w0 a0 a1 H Q) : Ac (cx b w0) 39 [a0, (V.str a1)] H Q := by
  have e : wpE (cx b w0) flatironref18_At.plan flatironref18_At.planL flatironref18_At.body ⟨[a0, (V.str a1)] ++ List.replicate (Try.f39.ntmps - 2) .any, H, []⟩ (kFin prog flatironref18_At.res Q) = flatironref18_At.p b w0 a0 a1 H Q := by kernel_rfl
  exact Ac.enter mixed (fn := Try.f39) (by kernel_rfl) (show Try.f39.body = some flatironref18_At.body by kernel_rfl) (e.mpr h)

/-! flatironref18_Has -/
noncomputable def flatironref18_Has.body : Code := (Try.f72.body).getD .skip
noncomputable def flatironref18_Has.res : List ResultVar := Try.f72.results.toList
def flatironref18_Has.plan : Plan := planOf []
def flatironref18_Has.planL : Plan := planOf [(2, [0, 1, 5])]
def flatironref18_Has.l2 (b : Nat) (w0 : World) (x0 : V) (x1 : List UInt8) (x5 : Int) (H : Hp) (Q : Rs → Hp → Prop) : Prop := Al (cx b w0) (cAt flatironref18_Has.body [1, 0, 1, 0, 0]) ⟨[x0, (V.str x1), V.any, V.any, V.any, (V.int .i64 x5), V.any, V.any, V.any, V.any, V.any, V.any, V.any, V.any, V.any, V.any, V.any, V.any], H, []⟩ (kAt (cx b w0) flatironref18_Has.plan flatironref18_Has.planL flatironref18_Has.body [1, 0, 1, 0] (kFin prog flatironref18_Has.res Q))
def flatironref18_Has.l2p (b : Nat) (w0 : World) (x0 : V) (x1 : List UInt8) (x5 : Int) (H : Hp) (Q : Rs → Hp → Prop) : Prop :=
lenE x0 fun k_1 =>
cnd (decide ((x5 : Int) < (k_1 : Int))) (
idxE 1 x0 x5 fun p_2 =>
ldE false 1 p_2 H fun v_3 =>
strE v_3 fun s_4 =>
cnd (decide ((s_4 : List UInt8) = x1)) (
Q (Rs.ret (V.bool true)) H) (
flatironref18_Has.l2 b w0 x0 x1 ((IntKind.i64.wrap (x5 + 1))) H Q)) (
Q (Rs.ret (V.bool false)) H)
theorem flatironref18_Has.l2s (b : Nat) (w0 : World) (x0 : V) (x1 : List UInt8) (x5 : Int) (H : Hp) (Q : Rs → Hp → Prop) (h : flatironref18_Has.l2p b w0 x0 x1 x5 H Q) : flatironref18_Has.l2 b w0 x0 x1 x5 H Q := by
  have e : wpE (cx b w0) flatironref18_Has.plan flatironref18_Has.planL (cAt flatironref18_Has.body [1, 0, 1, 0, 0]) ⟨[x0, (V.str x1), V.any, V.any, V.any, (V.int .i64 x5), V.any, V.any, V.any, V.any, V.any, V.any, V.any, V.any, V.any, V.any, V.any, V.any], H, []⟩ (kLoop (cx b w0) (((firstR (cAt flatironref18_Has.body [1, 0, 1, 0, 0])).bind flatironref18_Has.planL).getD []) (cAt flatironref18_Has.body [1, 0, 1, 0, 0]) (kAt (cx b w0) flatironref18_Has.plan flatironref18_Has.planL flatironref18_Has.body [1, 0, 1, 0] (kFin prog flatironref18_Has.res Q))) = flatironref18_Has.l2p b w0 x0 x1 x5 H Q := by kernel_rfl
  exact Al.round _ (wpE_ok mixed _ _ _ (e.mpr h))
def flatironref18_Has.p (b : Nat) (w0 : World) (a0 : V) (a1 : List UInt8) (H : Hp) (Q : Rs → Hp → Prop) : Prop :=
flatironref18_Has.l2 b w0 a0 a1 0 H Q
theorem flatironref18_Has.s (b : Nat) (w0 : World) (a0 : V) (a1 : List UInt8) (H : Hp) (Q : Rs → Hp → Prop) (h : flatironref18_Has.p b w0 a0 a1 H Q) : Ac (cx b w0) 72 [a0, (V.str a1)] H Q := by
  have e : wpE (cx b w0) flatironref18_Has.plan flatironref18_Has.planL flatironref18_Has.body ⟨[a0, (V.str a1)] ++ List.replicate (Try.f72.ntmps - 2) .any, H, []⟩ (kFin prog flatironref18_Has.res Q) = flatironref18_Has.p b w0 a0 a1 H Q := by kernel_rfl
  exact Ac.enter mixed (fn := Try.f72) (by kernel_rfl) (show Try.f72.body = some flatironref18_Has.body by kernel_rfl) (e.mpr h)

/-! flatironref18_Get -/
noncomputable def flatironref18_Get.body : Code := (Try.f73.body).getD .skip
noncomputable def flatironref18_Get.res : List ResultVar := Try.f73.results.toList
def flatironref18_Get.plan : Plan := planOf []
def flatironref18_Get.planL : Plan := planOf []
def flatironref18_Get.p (b : Nat) (w0 : World) (a0 : V) (a1 : List UInt8) (H : Hp) (Q : Rs → Hp → Prop) : Prop :=
newE H (O.box [(V.str []), V.nilsl, V.nilsl, (V.bool false), (V.bool false), (V.bool false), (V.int .i64 0), (V.bool false), (V.bool false)] 48) fun a_1 H_2 =>
Ac (cx b w0) 39 [a0, (V.str a1)] H_2 (thenR (fun v_3 H_4 =>
intK .i64 v_3 fun n_7 =>
cnd (decide ((n_7 : Int) < 0)) (
stE (V.ptr a_1 0) [(V.str a1), V.nilsl, V.nilsl, (V.bool false), (V.bool false), (V.bool false), (V.int .i64 0), (V.bool false), (V.bool false)] H_4 fun H_8 =>
ldE true 9 (V.ptr a_1 0) H_8 fun v_9 =>
aggE v_9 fun l_10 =>
headE l_10 fun c_11 r_12 =>
strE c_11 fun s_13 =>
headE r_12 fun c_14 r_15 =>
headE r_15 fun c_16 r_17 =>
headE r_17 fun c_18 r_19 =>
boolE c_18 fun b_20 =>
headE r_19 fun c_21 r_22 =>
boolE c_21 fun b_23 =>
headE r_22 fun c_24 r_25 =>
boolE c_24 fun b_26 =>
headE r_25 fun c_27 r_28 =>
intK .i64 c_27 fun n_29 =>
headE r_28 fun c_30 r_31 =>
boolE c_30 fun b_32 =>
headE r_31 fun c_33 r_34 =>
boolE c_33 fun b_35 =>
endE r_34 (
Q (Rs.ret (V.agg [(V.str s_13), c_14, c_16, (V.bool b_20), (V.bool b_23), (V.bool b_26), (V.int .i64 n_29), (V.bool b_32), (V.bool b_35)])) H_8)) (
nckE a0 fun v_36 =>
faE 0 v_36 fun p_37 =>
ldE false 1 p_37 H_4 fun v_38 =>
idxE 9 v_38 n_7 fun p_39 =>
ldE true 9 p_39 H_4 fun v_40 =>
aggE v_40 fun l_41 =>
headE l_41 fun c_42 r_43 =>
strE c_42 fun s_44 =>
headE r_43 fun c_45 r_46 =>
headE r_46 fun c_47 r_48 =>
headE r_48 fun c_49 r_50 =>
boolE c_49 fun b_51 =>
headE r_50 fun c_52 r_53 =>
boolE c_52 fun b_54 =>
headE r_53 fun c_55 r_56 =>
boolE c_55 fun b_57 =>
headE r_56 fun c_58 r_59 =>
intK .i64 c_58 fun n_60 =>
headE r_59 fun c_61 r_62 =>
boolE c_61 fun b_63 =>
headE r_62 fun c_64 r_65 =>
boolE c_64 fun b_66 =>
endE r_65 (
stE (V.ptr a_1 0) [(V.str s_44), c_45, c_47, (V.bool b_51), (V.bool b_54), (V.bool b_57), (V.int .i64 n_60), (V.bool b_63), (V.bool b_66)] H_4 fun H_67 =>
ldE true 9 (V.ptr a_1 0) H_67 fun v_68 =>
aggE v_68 fun l_69 =>
headE l_69 fun c_70 r_71 =>
strE c_70 fun s_72 =>
headE r_71 fun c_73 r_74 =>
headE r_74 fun c_75 r_76 =>
headE r_76 fun c_77 r_78 =>
boolE c_77 fun b_79 =>
headE r_78 fun c_80 r_81 =>
boolE c_80 fun b_82 =>
headE r_81 fun c_83 r_84 =>
boolE c_83 fun b_85 =>
headE r_84 fun c_86 r_87 =>
intK .i64 c_86 fun n_88 =>
headE r_87 fun c_89 r_90 =>
boolE c_89 fun b_91 =>
headE r_90 fun c_92 r_93 =>
boolE c_92 fun b_94 =>
endE r_93 (
Q (Rs.ret (V.agg [(V.str s_72), c_73, c_75, (V.bool b_79), (V.bool b_82), (V.bool b_85), (V.int .i64 n_88), (V.bool b_91), (V.bool b_94)])) H_67))))
(fun v_5 H_6 => Q (Rs.pan v_5) H_6))
theorem flatironref18_Get.s (b : Nat) (w0 : World) (a0 : V) (a1 : List UInt8) (H : Hp) (Q : Rs → Hp → Prop) (h : flatironref18_Get.p b w0 a0 a1 H Q) : Ac (cx b w0) 73 [a0, (V.str a1)] H Q := by
  have e : wpE (cx b w0) flatironref18_Get.plan flatironref18_Get.planL flatironref18_Get.body ⟨[a0, (V.str a1)] ++ List.replicate (Try.f73.ntmps - 2) .any, H, []⟩ (kFin prog flatironref18_Get.res Q) = flatironref18_Get.p b w0 a0 a1 H Q := by kernel_rfl
  exact Ac.enter mixed (fn := Try.f73) (by kernel_rfl) (show Try.f73.body = some flatironref18_Get.body by kernel_rfl) (e.mpr h)

/-! flatironref18_Make -/
noncomputable def flatironref18_Make.body : Code := (Try.f74.body).getD .skip
noncomputable def flatironref18_Make.res : List ResultVar := Try.f74.results.toList
def flatironref18_Make.plan : Plan := planOf [(4, [0, 5])]
def flatironref18_Make.planL : Plan := planOf []
def flatironref18_Make.j4 (b : Nat) (w0 : World) (x0 : V) (x5 : Int) (H : Hp) (Q : Rs → Hp → Prop) : Prop := Aw (cx b w0) (cAt flatironref18_Make.body [1, 1, 1]) ⟨[x0, V.any, V.any, V.any, V.any, (V.int .i64 x5), V.any, V.any, V.any, V.any, V.any, V.any, V.any, V.any, V.any, V.any, V.any, V.any, V.any, V.any, V.any, V.any, V.any, V.any, V.any, V.any, V.any, V.any, V.any, V.any, V.any, V.any, V.any, V.any, V.any, V.any, V.any, V.any, V.any, V.any, V.any, V.any, V.any, V.any, V.any, V.any, V.any], H, []⟩ (kAt (cx b w0) flatironref18_Make.plan flatironref18_Make.planL flatironref18_Make.body [1, 1, 1] (kFin prog flatironref18_Make.res Q))
def flatironref18_Make.j4p (b : Nat) (w0 : World) (x0 : V) (x5 : Int) (H : Hp) (Q : Rs → Hp → Prop) : Prop :=
nckE x0 fun v_1 =>
faE 0 v_1 fun p_2 =>
ldE false 1 p_2 H fun v_3 =>
idxE 9 v_3 x5 fun p_4 =>
faE 8 p_4 fun p_5 =>
ldE false 1 p_5 H fun v_6 =>
boolE v_6 fun b_7 =>
cnd b_7 (
nckE x0 fun v_8 =>
faE 1 v_8 fun p_9 =>
ldE false 1 p_9 H fun v_10 =>
intK .i64 v_10 fun n_11 =>
nckE x0 fun v_12 =>
faE 1 v_12 fun p_13 =>
stE p_13 [(V.int .i64 (IntKind.i64.wrap (n_11 + 1)))] H fun H_14 =>
nckE x0 fun v_15 =>
faE 0 v_15 fun p_16 =>
ldE false 1 p_16 H_14 fun v_17 =>
nckE x0 fun v_18 =>
faE 1 v_18 fun p_19 =>
ldE false 1 p_19 H_14 fun v_20 =>
intK .i64 v_20 fun n_21 =>
idxE 9 v_17 x5 fun p_22 =>
faE 6 p_22 fun p_23 =>
stE p_23 [(V.int .i64 n_21)] H_14 fun H_24 =>
Q (Rs.ret (V.bool true)) H_24) (
Q (Rs.ret (V.bool true)) H)
theorem flatironref18_Make.j4s (b : Nat) (w0 : World) (x0 : V) (x5 : Int) (H : Hp) (Q : Rs → Hp → Prop) (h : flatironref18_Make.j4p b w0 x0 x5 H Q) : flatironref18_Make.j4 b w0 x0 x5 H Q := by
  have e : wpE (cx b w0) flatironref18_Make.plan flatironref18_Make.planL (cAt flatironref18_Make.body [1, 1, 1]) ⟨[x0, V.any, V.any, V.any, V.any, (V.int .i64 x5), V.any, V.any, V.any, V.any, V.any, V.any, V.any, V.any, V.any, V.any, V.any, V.any, V.any, V.any, V.any, V.any, V.any, V.any, V.any, V.any, V.any, V.any, V.any, V.any, V.any, V.any, V.any, V.any, V.any, V.any, V.any, V.any, V.any, V.any, V.any, V.any, V.any, V.any, V.any, V.any, V.any], H, []⟩ (kAt (cx b w0) flatironref18_Make.plan flatironref18_Make.planL flatironref18_Make.body [1, 1, 1] (kFin prog flatironref18_Make.res Q)) = flatironref18_Make.j4p b w0 x0 x5 H Q := by kernel_rfl
  exact wpE_ok mixed _ _ _ (e.mpr h)
def flatironref18_Make.p (b : Nat) (w0 : World) (a0 : V) (a1 : List UInt8) (H : Hp) (Q : Rs → Hp → Prop) : Prop :=
Ac (cx b w0) 39 [a0, (V.str a1)] H (thenR (fun v_25 H_26 =>
intK .i64 v_25 fun n_29 =>
cnd ((decide ((n_29 : Int) < 0)) == false) (
nckE a0 fun v_30 =>
faE 0 v_30 fun p_31 =>
ldE false 1 p_31 H_26 fun v_32 =>
idxE 9 v_32 n_29 fun p_33 =>
faE 7 p_33 fun p_34 =>
ldE false 1 p_34 H_26 fun v_35 =>
boolE v_35 fun b_36 =>
cnd b_36 (
Q (Rs.ret (V.bool false)) H_26) (
flatironref18_Make.j4 b w0 a0 n_29 H_26 Q)) (
Q (Rs.ret (V.bool false)) H_26))
(fun v_27 H_28 => Q (Rs.pan v_27) H_28))
theorem flatironref18_Make.s (b : Nat) (w0 : World) (a0 : V) (a1 : List UInt8) (H : Hp) (Q : Rs → Hp → Prop) (h : flatironref18_Make.p b w0 a0 a1 H Q) : Ac (cx b w0) 74 [a0, (V.str a1)] H Q := by
  have e : wpE (cx b w0) flatironref18_Make.plan flatironref18_Make.planL flatironref18_Make.body ⟨[a0, (V.str a1)] ++ List.replicate (Try.f74.ntmps - 2) .any, H, []⟩ (kFin prog flatironref18_Make.res Q) = flatironref18_Make.p b w0 a0 a1 H Q := by kernel_rfl
  exact Ac.enter mixed (fn := Try.f74) (by kernel_rfl) (show Try.f74.body = some flatironref18_Make.body by kernel_rfl) (e.mpr h)

/-! flatironref18_without -/
noncomputable def flatironref18_without.body : Code := (Try.f75.body).getD .skip
noncomputable def flatironref18_without.res : List ResultVar := Try.f75.results.toList
def flatironref18_without.plan : Plan := planOf []
def flatironref18_without.planL : Plan := planOf []
def flatironref18_without.p (b : Nat) (w0 : World) (a0 : V) (H : Hp) (Q : Rs → Hp → Prop) : Prop :=
lenE a0 fun k_1 =>
lenE a0 fun k_2 =>
(0 ≤ ((IntKind.i64.wrap ((k_1 : Int) - 1)) : Int) ∧
cutV 1 a0 0 (Int.toNat (IntKind.i64.wrap ((k_1 : Int) - 1))) fun v_3 =>
Q (Rs.ret v_3) H)
theorem flatironref18_without.s (b : Nat) (w0 : World) (a0 : V) (H : Hp) (Q : Rs → Hp → Prop) (h : flatironref18_without.p b w0 a0 H Q) : Ac (cx b w0) 75 [a0] H Q := by
  have e : wpE (cx b w0) flatironref18_without.plan flatironref18_without.planL flatironref18_without.body ⟨[a0] ++ List.replicate (Try.f75.ntmps - 1) .any, H, []⟩ (kFin prog flatironref18_without.res Q) = flatironref18_without.p b w0 a0 H Q := by kernel_rfl
  exact Ac.enter mixed (fn := Try.f75) (by kernel_rfl) (show Try.f75.body = some flatironref18_without.body by kernel_rfl) (e.mpr h)

end Go.Proofs.Ytmpheeanjjfddaa.S
