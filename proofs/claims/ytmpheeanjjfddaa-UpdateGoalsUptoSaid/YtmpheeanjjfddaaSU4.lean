import Derived.Test.YtmpheeanjjfddaaSBase
namespace Go.Proofs.Ytmpheeanjjfddaa.S
open Go Go.RowKit Go.Proofs Go.Proofs.Ytmpheeanjjfddaa.SM
set_option linter.unusedVariables false
set_option maxRecDepth 100000
set_option maxHeartbeats 4000000
/-! flatironlaw18_of -/
noncomputable def flatironlaw18_of.body : Code := (Try.f10.body).getD .skip
noncomputable def flatironlaw18_of.res : List ResultVar := Try.f10.results.toList
def flatironlaw18_of.plan : Plan := planOf []
def flatironlaw18_of.planL : Plan := planOf [(3, [3, 8, 9, 10])]
def flatironlaw18_of.l3 (b : Nat) (w0 : World) (x3 : V) (x8 : V) (x9 : Int) (x10 : Int) (H : Hp) (Q : Rs → Hp → Prop) : Prop := Al (cx b w0) (cAt flatironlaw18_of.body [1, 1, 0, 1, 0, 0]) ⟨[V.any, V.any, V.any, x3, V.any, V.any, V.any, V.any, x8, (V.int .i64 x9), (V.int .i64 x10), V.any, V.any, V.any, V.any, V.any, V.any, V.any, V.any, V.any, V.any, V.any, V.any, V.any, V.any, V.any, V.any, V.any, V.any, V.any, V.any, V.any, V.any, V.any, V.any, V.any], H, []⟩ (kAt (cx b w0) flatironlaw18_of.plan flatironlaw18_of.planL flatironlaw18_of.body [1, 1, 0, 1, 0] (kFin prog flatironlaw18_of.res Q))
def flatironlaw18_of.l3p (b : Nat) (w0 : World) (x3 : V) (x8 : V) (x9 : Int) (x10 : Int) (H : Hp) (Q : Rs → Hp → Prop) : Prop :=
cnd (decide ((x10 : Int) < x9)) (
idxE 9 x8 x10 fun p_1 =>
ldE true 9 p_1 H fun v_2 =>
aggE v_2 fun l_3 =>
headE l_3 fun c_4 r_5 =>
strE c_4 fun s_6 =>
headE r_5 fun c_7 r_8 =>
headE r_8 fun c_9 r_10 =>
headE r_10 fun c_11 r_12 =>
boolE c_11 fun b_13 =>
headE r_12 fun c_14 r_15 =>
boolE c_14 fun b_16 =>
headE r_15 fun c_17 r_18 =>
boolE c_17 fun b_19 =>
headE r_18 fun c_20 r_21 =>
intK .i64 c_20 fun n_22 =>
headE r_21 fun c_23 r_24 =>
boolE c_23 fun b_25 =>
headE r_24 fun c_26 r_27 =>
boolE c_26 fun b_28 =>
endE r_27 (
newE H (O.box [(V.str []), V.nilsl, V.nilsl, (V.bool false), (V.bool false), (V.bool false), (V.int .i64 0), (V.bool false), (V.bool false)] 48) fun a_29 H_30 =>
stE (V.ptr a_29 0) [(V.str s_6), c_7, c_9, (V.bool b_13), (V.bool b_16), (V.bool b_19), (V.int .i64 n_22), (V.bool b_25), (V.bool b_28)] H_30 fun H_31 =>
ldE false 1 (V.ptr a_29 (0 + 0)) H_31 fun v_32 =>
strE v_32 fun s_33 =>
Ac (cx b w0) 39 [x3, (V.str s_33)] H_31 (thenR (fun v_34 H_35 =>
intK .i64 v_34 fun n_38 =>
cnd (decide ((n_38 : Int) < 0)) (
ldE false 1 (V.ptr a_29 (0 + 6)) H_35 fun v_39 =>
intK .i64 v_39 fun n_40 =>
stE (V.ptr a_29 (0 + 6)) [(V.int .i64 (if ((if (1000 : Int) < n_40 then 1000 else n_40) : Int) < 0 then 0 else (if (1000 : Int) < n_40 then 1000 else n_40)))] H_35 fun H_41 =>
nckE x3 fun v_42 =>
faE 0 v_42 fun p_43 =>
ldE false 1 p_43 H_41 fun v_44 =>
ldE true 9 (V.ptr a_29 0) H_41 fun v_45 =>
aggE v_45 fun l_46 =>
headE l_46 fun c_47 r_48 =>
strE c_47 fun s_49 =>
headE r_48 fun c_50 r_51 =>
headE r_51 fun c_52 r_53 =>
headE r_53 fun c_54 r_55 =>
boolE c_54 fun b_56 =>
headE r_55 fun c_57 r_58 =>
boolE c_57 fun b_59 =>
headE r_58 fun c_60 r_61 =>
boolE c_60 fun b_62 =>
headE r_61 fun c_63 r_64 =>
intK .i64 c_63 fun n_65 =>
headE r_64 fun c_66 r_67 =>
boolE c_66 fun b_68 =>
headE r_67 fun c_69 r_70 =>
boolE c_69 fun b_71 =>
endE r_70 (
oneE c_50 (
oneE c_52 (
newE H_41 (O.tip (1 * 9) 48) fun a_72 H_73 =>
((ldE false 1 p_43 H_73 fun v_74 =>
(v_74 = v_44)) ∧
appE 9 48 v_44 [(V.agg [(V.str s_49), c_50, c_52, (V.bool b_56), (V.bool b_59), (V.bool b_62), (V.int .i64 n_65), (V.bool b_68), (V.bool b_71)])] H_73 fun v_75 H_76 =>
nckE x3 fun v_77 =>
faE 0 v_77 fun p_78 =>
oneE v_75 (
stE p_78 [v_75] H_76 fun H_79 =>
flatironlaw18_of.l3 b w0 x3 x8 x9 ((IntKind.i64.wrap (x10 + 1))) H_79 Q)))))) (
flatironlaw18_of.l3 b w0 x3 x8 x9 ((IntKind.i64.wrap (x10 + 1))) H_35 Q))
(fun v_36 H_37 => Q (Rs.pan v_36) H_37)))) (
Q (Rs.ret x3) H)
theorem flatironlaw18_of.l3s (b : Nat) (w0 : World) (x3 : V) (x8 : V) (x9 : Int) (x10 : Int) (H : Hp) (Q : Rs → Hp → Prop) (h : flatironlaw18_of.l3p b w0 x3 x8 x9 x10 H Q) : flatironlaw18_of.l3 b w0 x3 x8 x9 x10 H Q := by
  have e : wpE (cx b w0) flatironlaw18_of.plan flatironlaw18_of.planL (cAt flatironlaw18_of.body [1, 1, 0, 1, 0, 0]) ⟨[V.any, V.any, V.any, x3, V.any, V.any, V.any, V.any, x8, (V.int .i64 x9), (V.int .i64 x10), V.any, V.any, V.any, V.any, V.any, V.any, V.any, V.any, V.any, V.any, V.any, V.any, V.any, V.any, V.any, V.any, V.any, V.any, V.any, V.any, V.any, V.any, V.any, V.any, V.any], H, []⟩ (kLoop (cx b w0) (((firstR (cAt flatironlaw18_of.body [1, 1, 0, 1, 0, 0])).bind flatironlaw18_of.planL).getD []) (cAt flatironlaw18_of.body [1, 1, 0, 1, 0, 0]) (kAt (cx b w0) flatironlaw18_of.plan flatironlaw18_of.planL flatironlaw18_of.body [1, 1, 0, 1, 0] (kFin prog flatironlaw18_of.res Q))) = flatironlaw18_of.l3p b w0 x3 x8 x9 x10 H Q := by kernel_rfl
  exact Al.round _ (wpE_ok mixed _ _ _ (e.mpr h))
def flatironlaw18_of.p (b : Nat) (w0 : World) (a0 : V) (H : Hp) (Q : Rs → Hp → Prop) : Prop :=
newE H (O.box [V.nilsl, (V.int .i64 1000), V.nilsl, V.nilsl, V.nilsl, V.nilsl, V.nilsl] 44) fun a_80 H_81 =>
lenE a0 fun k_82 =>
flatironlaw18_of.l3 b w0 (V.ptr a_80 0) a0 (k_82 : Int) 0 H_81 Q
theorem flatironlaw18_of.s (b : Nat) (w0 : World) (a0 : V) (H : Hp) (Q : Rs → Hp → Prop) (h : flatironlaw18_of.p b w0 a0 H Q) : Ac (cx b w0) 10 [a0] H Q := by
  have e : wpE (cx b w0) flatironlaw18_of.plan flatironlaw18_of.planL flatironlaw18_of.body ⟨[a0] ++ List.replicate (Try.f10.ntmps - 1) .any, H, []⟩ (kFin prog flatironlaw18_of.res Q) = flatironlaw18_of.p b w0 a0 H Q := by kernel_rfl
  exact Ac.enter mixed (fn := Try.f10) (by kernel_rfl) (show Try.f10.body = some flatironlaw18_of.body by kernel_rfl) (e.mpr h)

/-! flatironlaw18_small -/
noncomputable def flatironlaw18_small.body : Code := (Try.f9.body).getD .skip
noncomputable def flatironlaw18_small.res : List ResultVar := Try.f9.results.toList
def flatironlaw18_small.plan : Plan := planOf []
def flatironlaw18_small.planL : Plan := planOf [(3, [5, 10, 11, 12])]
def flatironlaw18_small.l3 (b : Nat) (w0 : World) (x5 : Int) (x10 : V) (x11 : Int) (x12 : Int) (H : Hp) (Q : Rs → Hp → Prop) : Prop := Al (cx b w0) (cAt flatironlaw18_small.body [1, 1, 0, 1, 0, 0]) ⟨[V.any, V.any, V.any, V.any, V.any, (V.int .i64 x5), V.any, V.any, V.any, V.any, x10, (V.int .i64 x11), (V.int .i64 x12), V.any, V.any, V.any, V.any, V.any, V.any, V.any, V.any, V.any, V.any, V.any, V.any, V.any, V.any, V.any, V.any], H, []⟩ (kAt (cx b w0) flatironlaw18_small.plan flatironlaw18_small.planL flatironlaw18_small.body [1, 1, 0, 1, 0] (kFin prog flatironlaw18_small.res Q))
def flatironlaw18_small.l3p (b : Nat) (w0 : World) (x5 : Int) (x10 : V) (x11 : Int) (x12 : Int) (H : Hp) (Q : Rs → Hp → Prop) : Prop :=
cnd (decide ((x12 : Int) < x11)) (
idxE 9 x10 x12 fun p_1 =>
ldE true 9 p_1 H fun v_2 =>
aggE v_2 fun l_3 =>
headE l_3 fun c_4 r_5 =>
strE c_4 fun s_6 =>
headE r_5 fun c_7 r_8 =>
headE r_8 fun c_9 r_10 =>
headE r_10 fun c_11 r_12 =>
boolE c_11 fun b_13 =>
headE r_12 fun c_14 r_15 =>
boolE c_14 fun b_16 =>
headE r_15 fun c_17 r_18 =>
boolE c_17 fun b_19 =>
headE r_18 fun c_20 r_21 =>
intK .i64 c_20 fun n_22 =>
headE r_21 fun c_23 r_24 =>
boolE c_23 fun b_25 =>
headE r_24 fun c_26 r_27 =>
boolE c_26 fun b_28 =>
endE r_27 (
newE H (O.box [(V.str []), V.nilsl, V.nilsl, (V.bool false), (V.bool false), (V.bool false), (V.int .i64 0), (V.bool false), (V.bool false)] 48) fun a_29 H_30 =>
stE (V.ptr a_29 0) [(V.str s_6), c_7, c_9, (V.bool b_13), (V.bool b_16), (V.bool b_19), (V.int .i64 n_22), (V.bool b_25), (V.bool b_28)] H_30 fun H_31 =>
ldE false 1 (V.ptr a_29 (0 + 1)) H_31 fun v_32 =>
lenE v_32 fun k_33 =>
ldE false 1 (V.ptr a_29 (0 + 2)) H_31 fun v_34 =>
lenE v_34 fun k_35 =>
flatironlaw18_small.l3 b w0 ((IntKind.i64.wrap (x5 + (IntKind.i64.wrap ((IntKind.i64.wrap (1 + (k_33 : Int))) + (k_35 : Int)))))) x10 x11 ((IntKind.i64.wrap (x12 + 1))) H_31 Q)) (
Q (Rs.ret (V.bool (decide ((x5 : Int) ≤ 200)))) H)
theorem flatironlaw18_small.l3s (b : Nat) (w0 : World) (x5 : Int) (x10 : V) (x11 : Int) (x12 : Int) (H : Hp) (Q : Rs → Hp → Prop) (h : flatironlaw18_small.l3p b w0 x5 x10 x11 x12 H Q) : flatironlaw18_small.l3 b w0 x5 x10 x11 x12 H Q := by
  have e : wpE (cx b w0) flatironlaw18_small.plan flatironlaw18_small.planL (cAt flatironlaw18_small.body [1, 1, 0, 1, 0, 0]) ⟨[V.any, V.any, V.any, V.any, V.any, (V.int .i64 x5), V.any, V.any, V.any, V.any, x10, (V.int .i64 x11), (V.int .i64 x12), V.any, V.any, V.any, V.any, V.any, V.any, V.any, V.any, V.any, V.any, V.any, V.any, V.any, V.any, V.any, V.any], H, []⟩ (kLoop (cx b w0) (((firstR (cAt flatironlaw18_small.body [1, 1, 0, 1, 0, 0])).bind flatironlaw18_small.planL).getD []) (cAt flatironlaw18_small.body [1, 1, 0, 1, 0, 0]) (kAt (cx b w0) flatironlaw18_small.plan flatironlaw18_small.planL flatironlaw18_small.body [1, 1, 0, 1, 0] (kFin prog flatironlaw18_small.res Q))) = flatironlaw18_small.l3p b w0 x5 x10 x11 x12 H Q := by kernel_rfl
  exact Al.round _ (wpE_ok mixed _ _ _ (e.mpr h))
def flatironlaw18_small.p (b : Nat) (w0 : World) (a0 : V) (a1 : V) (H : Hp) (Q : Rs → Hp → Prop) : Prop :=
lenE a1 fun k_36 =>
lenE a0 fun k_37 =>
flatironlaw18_small.l3 b w0 (k_36 : Int) a0 (k_37 : Int) 0 H Q
theorem flatironlaw18_small.s (b : Nat) (w0 : World) (a0 : V) (a1 : V) (H : Hp) (Q : Rs → Hp → Prop) (h : flatironlaw18_small.p b w0 a0 a1 H Q) : Ac (cx b w0) 9 [a0, a1] H Q := by
  have e : wpE (cx b w0) flatironlaw18_small.plan flatironlaw18_small.planL flatironlaw18_small.body ⟨[a0, a1] ++ List.replicate (Try.f9.ntmps - 2) .any, H, []⟩ (kFin prog flatironlaw18_small.res Q) = flatironlaw18_small.p b w0 a0 a1 H Q := by kernel_rfl
  exact Ac.enter mixed (fn := Try.f9) (by kernel_rfl) (show Try.f9.body = some flatironlaw18_small.body by kernel_rfl) (e.mpr h)

/-! flatironlaw18_UpdateGoals -/
noncomputable def flatironlaw18_UpdateGoals.body : Code := (Try.f3.body).getD .skip
noncomputable def flatironlaw18_UpdateGoals.res : List ResultVar := Try.f3.results.toList
def flatironlaw18_UpdateGoals.plan : Plan := planOf [(3, [0, 1]), (8, [5, 6])]
def flatironlaw18_UpdateGoals.planL : Plan := planOf [(9, [5, 6, 80, 81])]
def flatironlaw18_UpdateGoals.j3 (b : Nat) (w0 : World) (x0 : V) (x1 : V) (H : Hp) (Q : Rs → Hp → Prop) : Prop := Aw (cx b w0) (cAt flatironlaw18_UpdateGoals.body [1, 1]) ⟨[x0, x1, V.any, V.any, V.any, V.any, V.any, V.any, V.any, V.any, V.any, V.any, V.any, V.any, V.any, V.any, V.any, V.any, V.any, V.any, V.any, V.any, V.any, V.any, V.any, V.any, V.any, V.any, V.any, V.any, V.any, V.any, V.any, V.any, V.any, V.any, V.any, V.any, V.any, V.any, V.any, V.any, V.any, V.any, V.any, V.any, V.any, V.any, V.any, V.any, V.any, V.any, V.any, V.any, V.any, V.any, V.any, V.any, V.any, V.any, V.any, V.any, V.any, V.any, V.any, V.any, V.any, V.any, V.any, V.any, V.any, V.any, V.any, V.any, V.any, V.any, V.any, V.any, V.any, V.any, V.any, V.any, V.any, V.any, V.any, V.any, V.any, V.any, V.any, V.any, V.any, V.any, V.any, V.any, V.any, V.any, V.any, V.any, V.any, V.any, V.any, V.any], H, []⟩ (kAt (cx b w0) flatironlaw18_UpdateGoals.plan flatironlaw18_UpdateGoals.planL flatironlaw18_UpdateGoals.body [1, 1] (kFin prog flatironlaw18_UpdateGoals.res Q))
def flatironlaw18_UpdateGoals.j8 (b : Nat) (w0 : World) (x5 : V) (x6 : V) (H : Hp) (Q : Rs → Hp → Prop) : Prop := Aw (cx b w0) (cAt flatironlaw18_UpdateGoals.body [1, 1, 1, 1, 1, 1]) ⟨[V.any, V.any, V.any, V.any, V.any, x5, x6, V.any, V.any, V.any, V.any, V.any, V.any, V.any, V.any, V.any, V.any, V.any, V.any, V.any, V.any, V.any, V.any, V.any, V.any, V.any, V.any, V.any, V.any, V.any, V.any, V.any, V.any, V.any, V.any, V.any, V.any, V.any, V.any, V.any, V.any, V.any, V.any, V.any, V.any, V.any, V.any, V.any, V.any, V.any, V.any, V.any, V.any, V.any, V.any, V.any, V.any, V.any, V.any, V.any, V.any, V.any, V.any, V.any, V.any, V.any, V.any, V.any, V.any, V.any, V.any, V.any, V.any, V.any, V.any, V.any, V.any, V.any, V.any, V.any, V.any, V.any, V.any, V.any, V.any, V.any, V.any, V.any, V.any, V.any, V.any, V.any, V.any, V.any, V.any, V.any, V.any, V.any, V.any, V.any, V.any, V.any], H, []⟩ (kAt (cx b w0) flatironlaw18_UpdateGoals.plan flatironlaw18_UpdateGoals.planL flatironlaw18_UpdateGoals.body [1, 1, 1, 1, 1, 1] (kFin prog flatironlaw18_UpdateGoals.res Q))
def flatironlaw18_UpdateGoals.l9 (b : Nat) (w0 : World) (x5 : V) (x6 : V) (x80 : Int) (x81 : Int) (H : Hp) (Q : Rs → Hp → Prop) : Prop := Al (cx b w0) (cAt flatironlaw18_UpdateGoals.body [1, 1, 1, 1, 1, 1, 0, 1, 0, 0]) ⟨[V.any, V.any, V.any, V.any, V.any, x5, x6, V.any, V.any, V.any, V.any, V.any, V.any, V.any, V.any, V.any, V.any, V.any, V.any, V.any, V.any, V.any, V.any, V.any, V.any, V.any, V.any, V.any, V.any, V.any, V.any, V.any, V.any, V.any, V.any, V.any, V.any, V.any, V.any, V.any, V.any, V.any, V.any, V.any, V.any, V.any, V.any, V.any, V.any, V.any, V.any, V.any, V.any, V.any, V.any, V.any, V.any, V.any, V.any, V.any, V.any, V.any, V.any, V.any, V.any, V.any, V.any, V.any, V.any, V.any, V.any, V.any, V.any, V.any, V.any, V.any, V.any, V.any, V.any, V.any, (V.int .i64 x80), (V.int .i64 x81), V.any, V.any, V.any, V.any, V.any, V.any, V.any, V.any, V.any, V.any, V.any, V.any, V.any, V.any, V.any, V.any, V.any, V.any, V.any, V.any], H, []⟩ (kAt (cx b w0) flatironlaw18_UpdateGoals.plan flatironlaw18_UpdateGoals.planL flatironlaw18_UpdateGoals.body [1, 1, 1, 1, 1, 1, 0, 1, 0] (kFin prog flatironlaw18_UpdateGoals.res Q))
def flatironlaw18_UpdateGoals.j3p (b : Nat) (w0 : World) (x0 : V) (x1 : V) (H : Hp) (Q : Rs → Hp → Prop) : Prop :=
Ac (cx b w0) 10 [x0] H (thenR (fun v_1 H_2 =>
Ac (cx b w0) 10 [x0] H_2 (thenR (fun v_5 H_6 =>
oneE v_1 (
Ac (cx b w0) 12 [x1] H_6 (thenR (fun v_9 H_10 =>
Ac (cx b w0) 11 [(V.iface 37 (V.agg [v_1])), v_9] H_10 (thenR (fun v_13 H_14 =>
tupE v_13 fun l_17 =>
headE l_17 fun c_18 r_19 =>
aggE c_18 fun l_20 =>
headE l_20 fun c_21 r_22 =>
headE r_22 fun c_23 r_24 =>
endE r_24 (
headE r_19 fun c_25 r_26 =>
aggE c_25 fun l_27 =>
headE l_27 fun c_28 r_29 =>
intK .i64 c_28 fun n_30 =>
headE r_29 fun c_31 r_32 =>
strE c_31 fun s_33 =>
headE r_32 fun c_34 r_35 =>
intK .i64 c_34 fun n_36 =>
endE r_35 (
endE r_26 (
newE H_14 (O.box [V.nilsl, V.nilsl] 30) fun a_37 H_38 =>
newE H_38 (O.box [(V.int .i64 0), (V.str []), (V.int .i64 0)] 33) fun a_39 H_40 =>
stE (V.ptr a_37 0) [c_21, c_23] H_40 fun H_41 =>
stE (V.ptr a_39 0) [(V.int .i64 n_30), (V.str s_33), (V.int .i64 n_36)] H_41 fun H_42 =>
Ac (cx b w0) 13 [v_5, x1] H_42 (thenR (fun v_43 H_44 =>
tupE v_43 fun l_47 =>
headE l_47 fun c_48 r_49 =>
intK .i64 c_48 fun n_50 =>
headE r_49 fun c_51 r_52 =>
strE c_51 fun s_53 =>
endE r_52 (
ldE true 3 (V.ptr a_39 0) H_44 fun v_54 =>
aggE v_54 fun l_55 =>
headE l_55 fun c_56 r_57 =>
intK .i64 c_56 fun n_58 =>
headE r_57 fun c_59 r_60 =>
strE c_59 fun s_61 =>
headE r_60 fun c_62 r_63 =>
intK .i64 c_62 fun n_64 =>
endE r_63 (
cnd ((!(decide (n_58 = n_50) && (decide (s_61 = s_53) && (decide (n_64 = 0) && true)))) == false) (
ldE false 1 (V.ptr a_37 (0 + 0)) H_44 fun v_65 =>
nckE v_5 fun v_66 =>
faE 2 v_66 fun p_67 =>
ldE false 1 p_67 H_44 fun v_68 =>
Ac (cx b w0) 14 [v_65, v_68] H_44 (thenR (fun v_69 H_70 =>
boolE v_69 fun b_73 =>
cnd ((!b_73) == false) (
ldE false 1 (V.ptr a_37 (0 + 1)) H_70 fun v_74 =>
nckE v_5 fun v_75 =>
faE 3 v_75 fun p_76 =>
ldE false 1 p_76 H_70 fun v_77 =>
Ac (cx b w0) 15 [v_74, v_77] H_70 (thenR (fun v_78 H_79 =>
boolE v_78 fun b_82 =>
cnd ((!b_82) == false) (
nckE v_1 fun v_83 =>
faE 1 v_83 fun p_84 =>
ldE false 1 p_84 H_79 fun v_85 =>
intK .i64 v_85 fun n_86 =>
nckE v_5 fun v_87 =>
faE 1 v_87 fun p_88 =>
ldE false 1 p_88 H_79 fun v_89 =>
intK .i64 v_89 fun n_90 =>
cnd (!decide ((n_86 : Int) = n_90)) (
Q (Rs.ret (V.bool false)) H_79) (
flatironlaw18_UpdateGoals.j8 b w0 v_1 v_5 H_79 Q)) (
Q (Rs.ret (V.bool false)) H_79))
(fun v_80 H_81 => Q (Rs.pan v_80) H_81))) (
Q (Rs.ret (V.bool false)) H_70))
(fun v_71 H_72 => Q (Rs.pan v_71) H_72))) (
Q (Rs.ret (V.bool false)) H_44))))
(fun v_45 H_46 => Q (Rs.pan v_45) H_46))))))
(fun v_15 H_16 => Q (Rs.pan v_15) H_16)))
(fun v_11 H_12 => Q (Rs.pan v_11) H_12))))
(fun v_7 H_8 => Q (Rs.pan v_7) H_8)))
(fun v_3 H_4 => Q (Rs.pan v_3) H_4))
theorem flatironlaw18_UpdateGoals.j3s (b : Nat) (w0 : World) (x0 : V) (x1 : V) (H : Hp) (Q : Rs → Hp → Prop) (h : flatironlaw18_UpdateGoals.j3p b w0 x0 x1 H Q) : flatironlaw18_UpdateGoals.j3 b w0 x0 x1 H Q := by
  have e : wpE (cx b w0) flatironlaw18_UpdateGoals.plan flatironlaw18_UpdateGoals.planL (cAt flatironlaw18_UpdateGoals.body [1, 1]) ⟨[x0, x1, V.any, V.any, V.any, V.any, V.any, V.any, V.any, V.any, V.any, V.any, V.any, V.any, V.any, V.any, V.any, V.any, V.any, V.any, V.any, V.any, V.any, V.any, V.any, V.any, V.any, V.any, V.any, V.any, V.any, V.any, V.any, V.any, V.any, V.any, V.any, V.any, V.any, V.any, V.any, V.any, V.any, V.any, V.any, V.any, V.any, V.any, V.any, V.any, V.any, V.any, V.any, V.any, V.any, V.any, V.any, V.any, V.any, V.any, V.any, V.any, V.any, V.any, V.any, V.any, V.any, V.any, V.any, V.any, V.any, V.any, V.any, V.any, V.any, V.any, V.any, V.any, V.any, V.any, V.any, V.any, V.any, V.any, V.any, V.any, V.any, V.any, V.any, V.any, V.any, V.any, V.any, V.any, V.any, V.any, V.any, V.any, V.any, V.any, V.any, V.any], H, []⟩ (kAt (cx b w0) flatironlaw18_UpdateGoals.plan flatironlaw18_UpdateGoals.planL flatironlaw18_UpdateGoals.body [1, 1] (kFin prog flatironlaw18_UpdateGoals.res Q)) = flatironlaw18_UpdateGoals.j3p b w0 x0 x1 H Q := by kernel_rfl
  exact wpE_ok mixed _ _ _ (e.mpr h)
def flatironlaw18_UpdateGoals.j8p (b : Nat) (w0 : World) (x5 : V) (x6 : V) (H : Hp) (Q : Rs → Hp → Prop) : Prop :=
nckE x6 fun v_91 =>
faE 0 v_91 fun p_92 =>
ldE false 1 p_92 H fun v_93 =>
lenE v_93 fun k_94 =>
flatironlaw18_UpdateGoals.l9 b w0 x5 x6 (k_94 : Int) 0 H Q
theorem flatironlaw18_UpdateGoals.j8s (b : Nat) (w0 : World) (x5 : V) (x6 : V) (H : Hp) (Q : Rs → Hp → Prop) (h : flatironlaw18_UpdateGoals.j8p b w0 x5 x6 H Q) : flatironlaw18_UpdateGoals.j8 b w0 x5 x6 H Q := by
  have e : wpE (cx b w0) flatironlaw18_UpdateGoals.plan flatironlaw18_UpdateGoals.planL (cAt flatironlaw18_UpdateGoals.body [1, 1, 1, 1, 1, 1]) ⟨[V.any, V.any, V.any, V.any, V.any, x5, x6, V.any, V.any, V.any, V.any, V.any, V.any, V.any, V.any, V.any, V.any, V.any, V.any, V.any, V.any, V.any, V.any, V.any, V.any, V.any, V.any, V.any, V.any, V.any, V.any, V.any, V.any, V.any, V.any, V.any, V.any, V.any, V.any, V.any, V.any, V.any, V.any, V.any, V.any, V.any, V.any, V.any, V.any, V.any, V.any, V.any, V.any, V.any, V.any, V.any, V.any, V.any, V.any, V.any, V.any, V.any, V.any, V.any, V.any, V.any, V.any, V.any, V.any, V.any, V.any, V.any, V.any, V.any, V.any, V.any, V.any, V.any, V.any, V.any, V.any, V.any, V.any, V.any, V.any, V.any, V.any, V.any, V.any, V.any, V.any, V.any, V.any, V.any, V.any, V.any, V.any, V.any, V.any, V.any, V.any, V.any], H, []⟩ (kAt (cx b w0) flatironlaw18_UpdateGoals.plan flatironlaw18_UpdateGoals.planL flatironlaw18_UpdateGoals.body [1, 1, 1, 1, 1, 1] (kFin prog flatironlaw18_UpdateGoals.res Q)) = flatironlaw18_UpdateGoals.j8p b w0 x5 x6 H Q := by kernel_rfl
  exact wpE_ok mixed _ _ _ (e.mpr h)
def flatironlaw18_UpdateGoals.l9p (b : Nat) (w0 : World) (x5 : V) (x6 : V) (x80 : Int) (x81 : Int) (H : Hp) (Q : Rs → Hp → Prop) : Prop :=
cnd (decide ((x81 : Int) < x80)) (
nckE x5 fun v_95 =>
faE 0 v_95 fun p_96 =>
ldE false 1 p_96 H fun v_97 =>
idxE 9 v_97 x81 fun p_98 =>
faE 6 p_98 fun p_99 =>
ldE false 1 p_99 H fun v_100 =>
intK .i64 v_100 fun n_101 =>
nckE x6 fun v_102 =>
faE 0 v_102 fun p_103 =>
ldE false 1 p_103 H fun v_104 =>
idxE 9 v_104 x81 fun p_105 =>
faE 6 p_105 fun p_106 =>
ldE false 1 p_106 H fun v_107 =>
intK .i64 v_107 fun n_108 =>
cnd (!decide ((n_101 : Int) = n_108)) (
Q (Rs.ret (V.bool false)) H) (
flatironlaw18_UpdateGoals.l9 b w0 x5 x6 x80 ((IntKind.i64.wrap (x81 + 1))) H Q)) (
Q (Rs.ret (V.bool true)) H)
theorem flatironlaw18_UpdateGoals.l9s (b : Nat) (w0 : World) (x5 : V) (x6 : V) (x80 : Int) (x81 : Int) (H : Hp) (Q : Rs → Hp → Prop) (h : flatironlaw18_UpdateGoals.l9p b w0 x5 x6 x80 x81 H Q) : flatironlaw18_UpdateGoals.l9 b w0 x5 x6 x80 x81 H Q := by
  have e : wpE (cx b w0) flatironlaw18_UpdateGoals.plan flatironlaw18_UpdateGoals.planL (cAt flatironlaw18_UpdateGoals.body [1, 1, 1, 1, 1, 1, 0, 1, 0, 0]) ⟨[V.any, V.any, V.any, V.any, V.any, x5, x6, V.any, V.any, V.any, V.any, V.any, V.any, V.any, V.any, V.any, V.any, V.any, V.any, V.any, V.any, V.any, V.any, V.any, V.any, V.any, V.any, V.any, V.any, V.any, V.any, V.any, V.any, V.any, V.any, V.any, V.any, V.any, V.any, V.any, V.any, V.any, V.any, V.any, V.any, V.any, V.any, V.any, V.any, V.any, V.any, V.any, V.any, V.any, V.any, V.any, V.any, V.any, V.any, V.any, V.any, V.any, V.any, V.any, V.any, V.any, V.any, V.any, V.any, V.any, V.any, V.any, V.any, V.any, V.any, V.any, V.any, V.any, V.any, V.any, (V.int .i64 x80), (V.int .i64 x81), V.any, V.any, V.any, V.any, V.any, V.any, V.any, V.any, V.any, V.any, V.any, V.any, V.any, V.any, V.any, V.any, V.any, V.any, V.any, V.any], H, []⟩ (kLoop (cx b w0) (((firstR (cAt flatironlaw18_UpdateGoals.body [1, 1, 1, 1, 1, 1, 0, 1, 0, 0])).bind flatironlaw18_UpdateGoals.planL).getD []) (cAt flatironlaw18_UpdateGoals.body [1, 1, 1, 1, 1, 1, 0, 1, 0, 0]) (kAt (cx b w0) flatironlaw18_UpdateGoals.plan flatironlaw18_UpdateGoals.planL flatironlaw18_UpdateGoals.body [1, 1, 1, 1, 1, 1, 0, 1, 0] (kFin prog flatironlaw18_UpdateGoals.res Q))) = flatironlaw18_UpdateGoals.l9p b w0 x5 x6 x80 x81 H Q := by kernel_rfl
  exact Al.round _ (wpE_ok mixed _ _ _ (e.mpr h))
def flatironlaw18_UpdateGoals.p (b : Nat) (w0 : World) (a0 : V) (a1 : V) (H : Hp) (Q : Rs → Hp → Prop) : Prop :=
Ac (cx b w0) 8 [] H (thenR (fun v_109 H_110 =>
boolE v_109 fun b_113 =>
cnd ((!b_113) == false) (
Ac (cx b w0) 9 [a0, a1] H_110 (thenR (fun v_114 H_115 =>
boolE v_114 fun b_118 =>
cnd (!b_118) (
Ac (cx b w0) 8 [] H_115 (thenR (fun v_119 H_120 =>
boolE v_119 fun b_123 =>
Q (Rs.ret (V.bool b_123)) H_120)
(fun v_121 H_122 => Q (Rs.pan v_121) H_122))) (
flatironlaw18_UpdateGoals.j3 b w0 a0 a1 H_115 Q))
(fun v_116 H_117 => Q (Rs.pan v_116) H_117))) (
Ac (cx b w0) 8 [] H_110 (thenR (fun v_124 H_125 =>
boolE v_124 fun b_128 =>
Q (Rs.ret (V.bool b_128)) H_125)
(fun v_126 H_127 => Q (Rs.pan v_126) H_127))))
(fun v_111 H_112 => Q (Rs.pan v_111) H_112))
theorem flatironlaw18_UpdateGoals.s (b : Nat) (w0 : World) (a0 : V) (a1 : V) (H : Hp) (Q : Rs → Hp → Prop) (h : flatironlaw18_UpdateGoals.p b w0 a0 a1 H Q) : Ac (cx b w0) 3 [a0, a1] H Q := by
  have e : wpE (cx b w0) flatironlaw18_UpdateGoals.plan flatironlaw18_UpdateGoals.planL flatironlaw18_UpdateGoals.body ⟨[a0, a1] ++ List.replicate (Try.f3.ntmps - 2) .any, H, []⟩ (kFin prog flatironlaw18_UpdateGoals.res Q) = flatironlaw18_UpdateGoals.p b w0 a0 a1 H Q := by kernel_rfl
  exact Ac.enter mixed (fn := Try.f3) (by kernel_rfl) (show Try.f3.body = some flatironlaw18_UpdateGoals.body by kernel_rfl) (e.mpr h)

/-! flatironlaw18_lives -/
noncomputable def flatironlaw18_lives.body : Code := (Try.f8.body).getD .skip
noncomputable def flatironlaw18_lives.res : List ResultVar := Try.f8.results.toList
def flatironlaw18_lives.plan : Plan := planOf []
def flatironlaw18_lives.planL : Plan := planOf []
def flatironlaw18_lives.p (b : Nat) (w0 : World) (H : Hp) (Q : Rs → Hp → Prop) : Prop :=
newE H (O.tip (1 * 1) 9) fun a_1 H_2 =>
newE H_2 (O.tip (1 * 1) 9) fun a_3 H_4 =>
newE H_4 (O.tip (2 * 9) 48) fun a_5 H_6 =>
Ac (cx b w0) 10 [(V.osl a_5 9 [(V.agg [(V.str [97]), (V.osl a_1 1 [(V.str [98])]), V.nilsl, (V.bool true), (V.bool true), (V.bool false), (V.int .i64 0), (V.bool false), (V.bool true)]), (V.agg [(V.str [98]), (V.osl a_3 1 [(V.str [97])]), V.nilsl, (V.bool true), (V.bool true), (V.bool false), (V.int .i64 0), (V.bool false), (V.bool true)])])] H_6 (thenR (fun v_7 H_8 =>
oneE v_7 (
newE H_8 (O.tip (1 * 1) 9) fun a_11 H_12 =>
Ac (cx b w0) 12 [(V.osl a_11 1 [(V.str [97])])] H_12 (thenR (fun v_13 H_14 =>
Ac (cx b w0) 11 [(V.iface 37 (V.agg [v_7])), v_13] H_14 (thenR (fun v_17 H_18 =>
tupE v_17 fun l_21 =>
headE l_21 fun c_22 r_23 =>
aggE c_22 fun l_24 =>
headE l_24 fun c_25 r_26 =>
headE r_26 fun c_27 r_28 =>
endE r_28 (
headE r_23 fun c_29 r_30 =>
aggE c_29 fun l_31 =>
headE l_31 fun c_32 r_33 =>
intK .i64 c_32 fun n_34 =>
headE r_33 fun c_35 r_36 =>
strE c_35 fun s_37 =>
headE r_36 fun c_38 r_39 =>
intK .i64 c_38 fun n_40 =>
endE r_39 (
endE r_30 (
newE H_18 (O.box [V.nilsl, V.nilsl] 30) fun a_41 H_42 =>
newE H_42 (O.box [(V.int .i64 0), (V.str []), (V.int .i64 0)] 33) fun a_43 H_44 =>
stE (V.ptr a_41 0) [c_25, c_27] H_44 fun H_45 =>
stE (V.ptr a_43 0) [(V.int .i64 n_34), (V.str s_37), (V.int .i64 n_40)] H_45 fun H_46 =>
ldE true 3 (V.ptr a_43 0) H_46 fun v_47 =>
aggE v_47 fun l_48 =>
headE l_48 fun c_49 r_50 =>
intK .i64 c_49 fun n_51 =>
headE r_50 fun c_52 r_53 =>
strE c_52 fun s_54 =>
headE r_53 fun c_55 r_56 =>
intK .i64 c_55 fun n_57 =>
endE r_56 (
cnd ((decide (n_51 = 0) && (decide (s_54 = []) && (decide (n_57 = 0) && true))) == true) (
ldE false 1 (V.ptr a_41 (0 + 0)) H_46 fun v_58 =>
newE H_46 (O.tip (2 * 1) 9) fun a_59 H_60 =>
Ac (cx b w0) 14 [v_58, (V.osl a_59 1 [(V.str [98]), (V.str [97])])] H_60 (thenR (fun v_61 H_62 =>
boolE v_61 fun b_65 =>
cnd (b_65 == true) (
ldE false 1 (V.ptr a_41 (0 + 1)) H_62 fun v_66 =>
newE H_62 (O.tip (1 * 2) 46) fun a_67 H_68 =>
Ac (cx b w0) 15 [v_66, (V.osl a_67 2 [(V.agg [(V.str [98]), (V.str [97])])])] H_68 (thenR (fun v_69 H_70 =>
boolE v_69 fun b_73 =>
Q (Rs.ret (V.bool b_73)) H_70)
(fun v_71 H_72 => Q (Rs.pan v_71) H_72))) (
Q (Rs.ret (V.bool false)) H_62))
(fun v_63 H_64 => Q (Rs.pan v_63) H_64))) (
Q (Rs.ret (V.bool false)) H_46))))))
(fun v_19 H_20 => Q (Rs.pan v_19) H_20)))
(fun v_15 H_16 => Q (Rs.pan v_15) H_16))))
(fun v_9 H_10 => Q (Rs.pan v_9) H_10))
theorem flatironlaw18_lives.s (b : Nat) (w0 : World) (H : Hp) (Q : Rs → Hp → Prop) (h : flatironlaw18_lives.p b w0 H Q) : Ac (cx b w0) 8 [] H Q := by
  have e : wpE (cx b w0) flatironlaw18_lives.plan flatironlaw18_lives.planL flatironlaw18_lives.body ⟨[] ++ List.replicate (Try.f8.ntmps - 0) .any, H, []⟩ (kFin prog flatironlaw18_lives.res Q) = flatironlaw18_lives.p b w0 H Q := by kernel_rfl
  exact Ac.enter mixed (fn := Try.f8) (by kernel_rfl) (show Try.f8.body = some flatironlaw18_lives.body by kernel_rfl) (e.mpr h)

/-! slices_Equal__string_string -/
noncomputable def slices_Equal__string_string.body : Code := (Try.f14.body).getD .skip
noncomputable def slices_Equal__string_string.res : List ResultVar := Try.f14.results.toList
def slices_Equal__string_string.plan : Plan := planOf []
def slices_Equal__string_string.planL : Plan := planOf [(4, [0, 1, 12, 13])]
def slices_Equal__string_string.l4 (b : Nat) (w0 : World) (x0 : V) (x1 : V) (x12 : Int) (x13 : Int) (H : Hp) (Q : Rs → Hp → Prop) : Prop := Al (cx b w0) (cAt slices_Equal__string_string.body [1, 1, 0, 1, 0, 0]) ⟨[x0, x1, V.any, V.any, V.any, V.any, V.any, V.any, V.any, V.any, V.any, V.any, (V.int .i64 x12), (V.int .i64 x13), V.any, V.any, V.any, V.any, V.any, V.any, V.any, V.any, V.any, V.any, V.any, V.any], H, []⟩ (kAt (cx b w0) slices_Equal__string_string.plan slices_Equal__string_string.planL slices_Equal__string_string.body [1, 1, 0, 1, 0] (kFin prog slices_Equal__string_string.res Q))
def slices_Equal__string_string.l4p (b : Nat) (w0 : World) (x0 : V) (x1 : V) (x12 : Int) (x13 : Int) (H : Hp) (Q : Rs → Hp → Prop) : Prop :=
cnd (decide ((x13 : Int) < x12)) (
idxE 1 x0 x13 fun p_1 =>
ldE false 1 p_1 H fun v_2 =>
strE v_2 fun s_3 =>
idxE 1 x1 x13 fun p_4 =>
ldE false 1 p_4 H fun v_5 =>
strE v_5 fun s_6 =>
cnd (!decide ((s_3 : List UInt8) = s_6)) (
Q (Rs.ret (V.bool false)) H) (
slices_Equal__string_string.l4 b w0 x0 x1 x12 ((IntKind.i64.wrap (x13 + 1))) H Q)) (
Q (Rs.ret (V.bool true)) H)
theorem slices_Equal__string_string.l4s (b : Nat) (w0 : World) (x0 : V) (x1 : V) (x12 : Int) (x13 : Int) (H : Hp) (Q : Rs → Hp → Prop) (h : slices_Equal__string_string.l4p b w0 x0 x1 x12 x13 H Q) : slices_Equal__string_string.l4 b w0 x0 x1 x12 x13 H Q := by
  have e : wpE (cx b w0) slices_Equal__string_string.plan slices_Equal__string_string.planL (cAt slices_Equal__string_string.body [1, 1, 0, 1, 0, 0]) ⟨[x0, x1, V.any, V.any, V.any, V.any, V.any, V.any, V.any, V.any, V.any, V.any, (V.int .i64 x12), (V.int .i64 x13), V.any, V.any, V.any, V.any, V.any, V.any, V.any, V.any, V.any, V.any, V.any, V.any], H, []⟩ (kLoop (cx b w0) (((firstR (cAt slices_Equal__string_string.body [1, 1, 0, 1, 0, 0])).bind slices_Equal__string_string.planL).getD []) (cAt slices_Equal__string_string.body [1, 1, 0, 1, 0, 0]) (kAt (cx b w0) slices_Equal__string_string.plan slices_Equal__string_string.planL slices_Equal__string_string.body [1, 1, 0, 1, 0] (kFin prog slices_Equal__string_string.res Q))) = slices_Equal__string_string.l4p b w0 x0 x1 x12 x13 H Q := by kernel_rfl
  exact Al.round _ (wpE_ok mixed _ _ _ (e.mpr h))
def slices_Equal__string_string.p (b : Nat) (w0 : World) (a0 : V) (a1 : V) (H : Hp) (Q : Rs → Hp → Prop) : Prop :=
lenE a0 fun k_7 =>
lenE a1 fun k_8 =>
cnd (!decide (((k_7 : Int) : Int) = (k_8 : Int))) (
Q (Rs.ret (V.bool false)) H) (
lenE a0 fun k_9 =>
slices_Equal__string_string.l4 b w0 a0 a1 (k_9 : Int) 0 H Q)
theorem slices_Equal__string_string.s (b : Nat) (w0 : World) (a0 : V) (a1 : V) (H : Hp) (Q : Rs → Hp → Prop) (h : slices_Equal__string_string.p b w0 a0 a1 H Q) : Ac (cx b w0) 14 [a0, a1] H Q := by
  have e : wpE (cx b w0) slices_Equal__string_string.plan slices_Equal__string_string.planL slices_Equal__string_string.body ⟨[a0, a1] ++ List.replicate (Try.f14.ntmps - 2) .any, H, []⟩ (kFin prog slices_Equal__string_string.res Q) = slices_Equal__string_string.p b w0 a0 a1 H Q := by kernel_rfl
  exact Ac.enter mixed (fn := Try.f14) (by kernel_rfl) (show Try.f14.body = some slices_Equal__string_string.body by kernel_rfl) (e.mpr h)

/-! slices_Equal_2_string_2_string -/
noncomputable def slices_Equal_2_string_2_string.body : Code := (Try.f15.body).getD .skip
noncomputable def slices_Equal_2_string_2_string.res : List ResultVar := Try.f15.results.toList
def slices_Equal_2_string_2_string.plan : Plan := planOf []
def slices_Equal_2_string_2_string.planL : Plan := planOf [(4, [0, 1, 12, 13])]
def slices_Equal_2_string_2_string.l4 (b : Nat) (w0 : World) (x0 : V) (x1 : V) (x12 : Int) (x13 : Int) (H : Hp) (Q : Rs → Hp → Prop) : Prop := Al (cx b w0) (cAt slices_Equal_2_string_2_string.body [1, 1, 0, 1, 0, 0]) ⟨[x0, x1, V.any, V.any, V.any, V.any, V.any, V.any, V.any, V.any, V.any, V.any, (V.int .i64 x12), (V.int .i64 x13), V.any, V.any, V.any, V.any, V.any, V.any, V.any, V.any, V.any, V.any, V.any, V.any], H, []⟩ (kAt (cx b w0) slices_Equal_2_string_2_string.plan slices_Equal_2_string_2_string.planL slices_Equal_2_string_2_string.body [1, 1, 0, 1, 0] (kFin prog slices_Equal_2_string_2_string.res Q))
def slices_Equal_2_string_2_string.l4p (b : Nat) (w0 : World) (x0 : V) (x1 : V) (x12 : Int) (x13 : Int) (H : Hp) (Q : Rs → Hp → Prop) : Prop :=
cnd (decide ((x13 : Int) < x12)) (
idxE 2 x0 x13 fun p_1 =>
ldE true 2 p_1 H fun v_2 =>
aggE v_2 fun l_3 =>
headE l_3 fun c_4 r_5 =>
strE c_4 fun s_6 =>
headE r_5 fun c_7 r_8 =>
strE c_7 fun s_9 =>
endE r_8 (
idxE 2 x1 x13 fun p_10 =>
ldE true 2 p_10 H fun v_11 =>
aggE v_11 fun l_12 =>
headE l_12 fun c_13 r_14 =>
strE c_13 fun s_15 =>
headE r_14 fun c_16 r_17 =>
strE c_16 fun s_18 =>
endE r_17 (
cnd (!(decide (s_6 = s_15) && (decide (s_9 = s_18) && true))) (
Q (Rs.ret (V.bool false)) H) (
slices_Equal_2_string_2_string.l4 b w0 x0 x1 x12 ((IntKind.i64.wrap (x13 + 1))) H Q)))) (
Q (Rs.ret (V.bool true)) H)
theorem slices_Equal_2_string_2_string.l4s (b : Nat) (w0 : World) (x0 : V) (x1 : V) (x12 : Int) (x13 : Int) (H : Hp) (Q : Rs → Hp → Prop) (h : slices_Equal_2_string_2_string.l4p b w0 x0 x1 x12 x13 H Q) : slices_Equal_2_string_2_string.l4 b w0 x0 x1 x12 x13 H Q := by
  have e : wpE (cx b w0) slices_Equal_2_string_2_string.plan slices_Equal_2_string_2_string.planL (cAt slices_Equal_2_string_2_string.body [1, 1, 0, 1, 0, 0]) ⟨[x0, x1, V.any, V.any, V.any, V.any, V.any, V.any, V.any, V.any, V.any, V.any, (V.int .i64 x12), (V.int .i64 x13), V.any, V.any, V.any, V.any, V.any, V.any, V.any, V.any, V.any, V.any, V.any, V.any], H, []⟩ (kLoop (cx b w0) (((firstR (cAt slices_Equal_2_string_2_string.body [1, 1, 0, 1, 0, 0])).bind slices_Equal_2_string_2_string.planL).getD []) (cAt slices_Equal_2_string_2_string.body [1, 1, 0, 1, 0, 0]) (kAt (cx b w0) slices_Equal_2_string_2_string.plan slices_Equal_2_string_2_string.planL slices_Equal_2_string_2_string.body [1, 1, 0, 1, 0] (kFin prog slices_Equal_2_string_2_string.res Q))) = slices_Equal_2_string_2_string.l4p b w0 x0 x1 x12 x13 H Q := by kernel_rfl
  exact Al.round _ (wpE_ok mixed _ _ _ (e.mpr h))
def slices_Equal_2_string_2_string.p (b : Nat) (w0 : World) (a0 : V) (a1 : V) (H : Hp) (Q : Rs → Hp → Prop) : Prop :=
lenE a0 fun k_19 =>
lenE a1 fun k_20 =>
cnd (!decide (((k_19 : Int) : Int) = (k_20 : Int))) (
Q (Rs.ret (V.bool false)) H) (
lenE a0 fun k_21 =>
slices_Equal_2_string_2_string.l4 b w0 a0 a1 (k_21 : Int) 0 H Q)
theorem slices_Equal_2_string_2_string.s (b : Nat) (w0 : World) (a0 : V) (a1 : V) (H : Hp) (Q : Rs → Hp → Prop) (h : slices_Equal_2_string_2_string.p b w0 a0 a1 H Q) : Ac (cx b w0) 15 [a0, a1] H Q := by
  have e : wpE (cx b w0) slices_Equal_2_string_2_string.plan slices_Equal_2_string_2_string.planL slices_Equal_2_string_2_string.body ⟨[a0, a1] ++ List.replicate (Try.f15.ntmps - 2) .any, H, []⟩ (kFin prog slices_Equal_2_string_2_string.res Q) = slices_Equal_2_string_2_string.p b w0 a0 a1 H Q := by kernel_rfl
  exact Ac.enter mixed (fn := Try.f15) (by kernel_rfl) (show Try.f15.body = some slices_Equal_2_string_2_string.body by kernel_rfl) (e.mpr h)

end Go.Proofs.Ytmpheeanjjfddaa.S
