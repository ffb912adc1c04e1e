import Derived.Test.YtmpheeanjjfddaaSBase
namespace Go.Proofs.Ytmpheeanjjfddaa.S
open Go Go.RowKit Go.Proofs Go.Proofs.Ytmpheeanjjfddaa.SM
set_option linter.unusedVariables false
set_option maxRecDepth 100000
/-! update_Goals -/
noncomputable def update_Goals.body : Code := (Try.f11.body).getD .skip
noncomputable def update_Goals.res : List ResultVar := Try.f11.results.toList
def update_Goals.plan : Plan := planOf []
def update_Goals.planL : Plan := planOf [(5, [4, 5, 6, 19, 20, 21])]
def update_Goals.l5 (b : Nat) (w0 : World) (x4 : V) (x5 : V) (x6 : V) (x19 : V) (x20 : Int) (x21 : Int) (H : Hp) (Q : Rs → Hp → Prop) : Prop := Al (cx b w0) (cAt update_Goals.body [1, 1, 1, 0, 1, 0, 0]) ⟨[V.any, V.any, V.any, V.any, x4, x5, x6, V.any, V.any, V.any, V.any, V.any, V.any, V.any, V.any, V.any, V.any, V.any, V.any, x19, (V.int .i64 x20), (V.int .i64 x21), V.any, V.any, V.any, V.any, V.any, V.any, V.any, V.any, V.any, V.any, V.any, V.any, V.any, V.any, V.any, V.any, V.any, V.any, V.any, V.any], H, []⟩ (kAt (cx b w0) update_Goals.plan update_Goals.planL update_Goals.body [1, 1, 1, 0, 1, 0] (kFin prog update_Goals.res Q))
def update_Goals.l5p (b : Nat) (w0 : World) (x4 : V) (x5 : V) (x6 : V) (x19 : V) (x20 : Int) (x21 : Int) (H : Hp) (Q : Rs → Hp → Prop) : Prop :=
cnd (decide ((x21 : Int) < x20)) (
idxE 2 x19 x21 fun p_1 =>
ldE true 2 p_1 H fun v_2 =>
aggE v_2 fun l_3 =>
headE l_3 fun c_4 r_5 =>
strE c_4 fun s_6 =>
headE r_5 fun c_7 r_8 =>
strE c_7 fun s_9 =>
endE r_8 (
newE H (O.box [(V.str []), (V.str [])] 111) fun a_10 H_11 =>
stE (V.ptr a_10 0) [(V.str s_6), (V.str s_9)] H_11 fun H_12 =>
ldE true 2 (V.ptr a_10 0) H_12 fun v_13 =>
aggE v_13 fun l_14 =>
headE l_14 fun c_15 r_16 =>
strE c_15 fun s_17 =>
headE r_16 fun c_18 r_19 =>
strE c_18 fun s_20 =>
endE r_19 (
Ac (cx b w0) 40 [x6, (V.agg [(V.str s_17), (V.str s_20)])] H_12 (thenR (fun v_21 H_22 =>
aggE v_21 fun l_25 =>
headE l_25 fun c_26 r_27 =>
intK .i64 c_26 fun n_28 =>
headE r_27 fun c_29 r_30 =>
strE c_29 fun s_31 =>
headE r_30 fun c_32 r_33 =>
intK .i64 c_32 fun n_34 =>
endE r_33 (
newE H_22 (O.box [(V.int .i64 0), (V.str []), (V.int .i64 0)] 33) fun a_35 H_36 =>
stE (V.ptr a_35 0) [(V.int .i64 n_28), (V.str s_31), (V.int .i64 n_34)] H_36 fun H_37 =>
ldE false 1 (V.ptr a_35 (0 + 0)) H_37 fun v_38 =>
intK .i64 v_38 fun n_39 =>
cnd (!decide ((n_39 : Int) = 0)) (
nckE x6 fun v_40 =>
faE 1 v_40 fun p_41 =>
ldE true 2 p_41 H_37 fun v_42 =>
aggE v_42 fun l_43 =>
headE l_43 fun c_44 r_45 =>
headE r_45 fun c_46 r_47 =>
endE r_47 (
ldE true 3 (V.ptr a_35 0) H_37 fun v_48 =>
aggE v_48 fun l_49 =>
headE l_49 fun c_50 r_51 =>
intK .i64 c_50 fun n_52 =>
headE r_51 fun c_53 r_54 =>
strE c_53 fun s_55 =>
headE r_54 fun c_56 r_57 =>
intK .i64 c_56 fun n_58 =>
endE r_57 (
stE x4 [c_44, c_46] H_37 fun H_59 =>
((ldE true 3 (V.ptr a_35 0) H_59 fun v_60 =>
aggE v_60 fun l_61 =>
headE l_61 fun c_62 r_63 =>
intK .i64 c_62 fun n_64 =>
headE r_63 fun c_65 r_66 =>
strE c_65 fun s_67 =>
headE r_66 fun c_68 r_69 =>
intK .i64 c_68 fun n_70 =>
endE r_69 (
((V.agg [(V.int .i64 n_64), (V.str s_67), (V.int .i64 n_70)]) = (V.agg [(V.int .i64 n_52), (V.str s_55), (V.int .i64 n_58)])))) ∧
stE x5 [(V.int .i64 n_52), (V.str s_55), (V.int .i64 n_58)] H_59 fun H_71 =>
ldE true 2 x4 H_71 fun v_72 =>
aggE v_72 fun l_73 =>
headE l_73 fun c_74 r_75 =>
headE r_75 fun c_76 r_77 =>
endE r_77 (
ldE true 3 x5 H_71 fun v_78 =>
aggE v_78 fun l_79 =>
headE l_79 fun c_80 r_81 =>
intK .i64 c_80 fun n_82 =>
headE r_81 fun c_83 r_84 =>
strE c_83 fun s_85 =>
headE r_84 fun c_86 r_87 =>
intK .i64 c_86 fun n_88 =>
endE r_87 (
Q (Rs.ret (V.tuple [(V.agg [c_74, c_76]), (V.agg [(V.int .i64 n_82), (V.str s_85), (V.int .i64 n_88)])])) H_71)))))) (
update_Goals.l5 b w0 x4 x5 x6 x19 x20 ((IntKind.i64.wrap (x21 + 1))) H_37 Q)))
(fun v_23 H_24 => Q (Rs.pan v_23) H_24))))) (
nckE x6 fun v_89 =>
faE 1 v_89 fun p_90 =>
ldE true 2 p_90 H fun v_91 =>
aggE v_91 fun l_92 =>
headE l_92 fun c_93 r_94 =>
headE r_94 fun c_95 r_96 =>
endE r_96 (
stE x4 [c_93, c_95] H fun H_97 =>
stE x5 [(V.int .i64 0), (V.str []), (V.int .i64 0)] H_97 fun H_98 =>
ldE true 2 x4 H_98 fun v_99 =>
aggE v_99 fun l_100 =>
headE l_100 fun c_101 r_102 =>
headE r_102 fun c_103 r_104 =>
endE r_104 (
ldE true 3 x5 H_98 fun v_105 =>
aggE v_105 fun l_106 =>
headE l_106 fun c_107 r_108 =>
intK .i64 c_107 fun n_109 =>
headE r_108 fun c_110 r_111 =>
strE c_110 fun s_112 =>
headE r_111 fun c_113 r_114 =>
intK .i64 c_113 fun n_115 =>
endE r_114 (
Q (Rs.ret (V.tuple [(V.agg [c_101, c_103]), (V.agg [(V.int .i64 n_109), (V.str s_112), (V.int .i64 n_115)])])) H_98))))
theorem update_Goals.l5s (b : Nat) (w0 : World) (x4 : V) (x5 : V) (x6 : V) (x19 : V) (x20 : Int) (x21 : Int) (H : Hp) (Q : Rs → Hp → Prop) (h : update_Goals.l5p b w0 x4 x5 x6 x19 x20 x21 H Q) : update_Goals.l5 b w0 x4 x5 x6 x19 x20 x21 H Q := by
  have e : wpE (cx b w0) update_Goals.plan update_Goals.planL (cAt update_Goals.body [1, 1, 1, 0, 1, 0, 0]) ⟨[V.any, V.any, V.any, V.any, x4, x5, x6, V.any, V.any, V.any, V.any, V.any, V.any, V.any, V.any, V.any, V.any, V.any, V.any, x19, (V.int .i64 x20), (V.int .i64 x21), V.any, V.any, V.any, V.any, V.any, V.any, V.any, V.any, V.any, V.any, V.any, V.any, V.any, V.any, V.any, V.any, V.any, V.any, V.any, V.any], H, []⟩ (kLoop (cx b w0) (((firstR (cAt update_Goals.body [1, 1, 1, 0, 1, 0, 0])).bind update_Goals.planL).getD []) (cAt update_Goals.body [1, 1, 1, 0, 1, 0, 0]) (kAt (cx b w0) update_Goals.plan update_Goals.planL update_Goals.body [1, 1, 1, 0, 1, 0] (kFin prog update_Goals.res Q))) = update_Goals.l5p b w0 x4 x5 x6 x19 x20 x21 H Q := by kernel_rfl
  exact Al.round _ (wpE_ok mixed _ _ _ (e.mpr h))
def update_Goals.p (b : Nat) (w0 : World) (a0 : V) (a1 : V) (H : Hp) (Q : Rs → Hp → Prop) : Prop :=
newE H (O.box [V.nilsl, V.nilsl] 30) fun a_116 H_117 =>
newE H_117 (O.box [(V.int .i64 0), (V.str []), (V.int .i64 0)] 33) fun a_118 H_119 =>
nilE 4 a0 fun b_120 =>
cnd b_120 (
stE (V.ptr a_116 0) [V.nilsl, V.nilsl] H_119 fun H_121 =>
stE (V.ptr a_118 0) [(V.int .i64 1), (V.str []), (V.int .i64 0)] H_121 fun H_122 =>
ldE true 2 (V.ptr a_116 0) H_122 fun v_123 =>
aggE v_123 fun l_124 =>
headE l_124 fun c_125 r_126 =>
headE r_126 fun c_127 r_128 =>
endE r_128 (
ldE true 3 (V.ptr a_118 0) H_122 fun v_129 =>
aggE v_129 fun l_130 =>
headE l_130 fun c_131 r_132 =>
intK .i64 c_131 fun n_133 =>
headE r_132 fun c_134 r_135 =>
strE c_134 fun s_136 =>
headE r_135 fun c_137 r_138 =>
intK .i64 c_137 fun n_139 =>
endE r_138 (
Q (Rs.ret (V.tuple [(V.agg [c_125, c_127]), (V.agg [(V.int .i64 n_133), (V.str s_136), (V.int .i64 n_139)])])) H_122))) (
newE H_119 (O.map false []) fun a_140 H_141 =>
newE H_141 (O.map false []) fun a_142 H_143 =>
oneE a0 (
newE H_143 (O.box [a0, V.nilsl, V.nilsl, (V.map a_140), (V.map a_142)] 109) fun a_144 H_145 =>
lenE a1 fun k_146 =>
update_Goals.l5 b w0 (V.ptr a_116 0) (V.ptr a_118 0) (V.ptr a_144 0) a1 (k_146 : Int) 0 H_145 Q))
theorem update_Goals.s (b : Nat) (w0 : World) (a0 : V) (a1 : V) (H : Hp) (Q : Rs → Hp → Prop) (h : update_Goals.p b w0 a0 a1 H Q) : Ac (cx b w0) 11 [a0, a1] H Q := by
  have e : wpE (cx b w0) update_Goals.plan update_Goals.planL update_Goals.body ⟨[a0, a1] ++ List.replicate (Try.f11.ntmps - 2) .any, H, []⟩ (kFin prog update_Goals.res Q) = update_Goals.p b w0 a0 a1 H Q := by kernel_rfl
  exact Ac.enter mixed (fn := Try.f11) (by kernel_rfl) (show Try.f11.body = some update_Goals.body by kernel_rfl) (e.mpr h)

/-! update_work_path -/
noncomputable def update_work_path.body : Code := (Try.f40.body).getD .skip
noncomputable def update_work_path.res : List ResultVar := Try.f40.results.toList
def update_work_path.plan : Plan := planOf [(3, [0, 3, 4]), (4, [0, 3, 4]), (5, [0, 3, 4, 5]), (6, [0, 3, 4, 5, 7]), (8, [0, 3, 4, 5]), (7, [0, 3, 4, 5, 51]), (12, [0, 3, 4, 5, 7, 8]), (13, [0, 3, 4, 5, 8, 10]), (23, [0, 3, 4, 10]), (19, [0, 3, 4, 5, 10, 111]), (22, [0, 3, 4, 10]), (20, [0, 3, 4, 10, 13])]
def update_work_path.planL : Plan := planOf [(14, [0, 3, 4, 5, 10, 85, 86, 87])]
def update_work_path.j3 (b : Nat) (w0 : World) (x0 : V) (x3 : V) (x4 : V) (H : Hp) (Q : Rs → Hp → Prop) : Prop := Aw (cx b w0) (cAt update_work_path.body [1, 1]) ⟨[x0, V.any, V.any, x3, x4, V.any, V.any, V.any, V.any, V.any, V.any, V.any, V.any, V.any, V.any, V.any, V.any, V.any, V.any, V.any, V.any, V.any, V.any, V.any, V.any, V.any, V.any, V.any, V.any, V.any, V.any, V.any, V.any, V.any, V.any, V.any, V.any, V.any, V.any, V.any, V.any, V.any, V.any, V.any, V.any, V.any, V.any, V.any, V.any, V.any, V.any, V.any, V.any, V.any, V.any, V.any, V.any, V.any, V.any, V.any, V.any, V.any, V.any, V.any, V.any, V.any, V.any, V.any, V.any, V.any, V.any, V.any, V.any, V.any, V.any, V.any, V.any, V.any, V.any, V.any, V.any, V.any, V.any, V.any, V.any, V.any, V.any, V.any, V.any, V.any, V.any, V.any, V.any, V.any, V.any, V.any, V.any, V.any, V.any, V.any, V.any, V.any, V.any, V.any, V.any, V.any, V.any, V.any, V.any, V.any, V.any, V.any, V.any, V.any, V.any, V.any, V.any, V.any, V.any, V.any, V.any, V.any, V.any, V.any, V.any, V.any, V.any, V.any, V.any, V.any, V.any, V.any, V.any, V.any, V.any, V.any, V.any, V.any, V.any, V.any, V.any, V.any, V.any, V.any, V.any, V.any, V.any, V.any, V.any, V.any, V.any, V.any, V.any], H, []⟩ (kAt (cx b w0) update_work_path.plan update_work_path.planL update_work_path.body [1, 1] (kFin prog update_work_path.res Q))
def update_work_path.j4 (b : Nat) (w0 : World) (x0 : V) (x3 : V) (x4 : V) (H : Hp) (Q : Rs → Hp → Prop) : Prop := Aw (cx b w0) (cAt update_work_path.body [1, 1, 1]) ⟨[x0, V.any, V.any, x3, x4, V.any, V.any, V.any, V.any, V.any, V.any, V.any, V.any, V.any, V.any, V.any, V.any, V.any, V.any, V.any, V.any, V.any, V.any, V.any, V.any, V.any, V.any, V.any, V.any, V.any, V.any, V.any, V.any, V.any, V.any, V.any, V.any, V.any, V.any, V.any, V.any, V.any, V.any, V.any, V.any, V.any, V.any, V.any, V.any, V.any, V.any, V.any, V.any, V.any, V.any, V.any, V.any, V.any, V.any, V.any, V.any, V.any, V.any, V.any, V.any, V.any, V.any, V.any, V.any, V.any, V.any, V.any, V.any, V.any, V.any, V.any, V.any, V.any, V.any, V.any, V.any, V.any, V.any, V.any, V.any, V.any, V.any, V.any, V.any, V.any, V.any, V.any, V.any, V.any, V.any, V.any, V.any, V.any, V.any, V.any, V.any, V.any, V.any, V.any, V.any, V.any, V.any, V.any, V.any, V.any, V.any, V.any, V.any, V.any, V.any, V.any, V.any, V.any, V.any, V.any, V.any, V.any, V.any, V.any, V.any, V.any, V.any, V.any, V.any, V.any, V.any, V.any, V.any, V.any, V.any, V.any, V.any, V.any, V.any, V.any, V.any, V.any, V.any, V.any, V.any, V.any, V.any, V.any, V.any, V.any, V.any, V.any, V.any], H, []⟩ (kAt (cx b w0) update_work_path.plan update_work_path.planL update_work_path.body [1, 1, 1] (kFin prog update_work_path.res Q))
def update_work_path.j5 (b : Nat) (w0 : World) (x0 : V) (x3 : V) (x4 : V) (x5 : V) (H : Hp) (Q : Rs → Hp → Prop) : Prop := Aw (cx b w0) (cAt update_work_path.body [1, 1, 1, 1]) ⟨[x0, V.any, V.any, x3, x4, x5, V.any, V.any, V.any, V.any, V.any, V.any, V.any, V.any, V.any, V.any, V.any, V.any, V.any, V.any, V.any, V.any, V.any, V.any, V.any, V.any, V.any, V.any, V.any, V.any, V.any, V.any, V.any, V.any, V.any, V.any, V.any, V.any, V.any, V.any, V.any, V.any, V.any, V.any, V.any, V.any, V.any, V.any, V.any, V.any, V.any, V.any, V.any, V.any, V.any, V.any, V.any, V.any, V.any, V.any, V.any, V.any, V.any, V.any, V.any, V.any, V.any, V.any, V.any, V.any, V.any, V.any, V.any, V.any, V.any, V.any, V.any, V.any, V.any, V.any, V.any, V.any, V.any, V.any, V.any, V.any, V.any, V.any, V.any, V.any, V.any, V.any, V.any, V.any, V.any, V.any, V.any, V.any, V.any, V.any, V.any, V.any, V.any, V.any, V.any, V.any, V.any, V.any, V.any, V.any, V.any, V.any, V.any, V.any, V.any, V.any, V.any, V.any, V.any, V.any, V.any, V.any, V.any, V.any, V.any, V.any, V.any, V.any, V.any, V.any, V.any, V.any, V.any, V.any, V.any, V.any, V.any, V.any, V.any, V.any, V.any, V.any, V.any, V.any, V.any, V.any, V.any, V.any, V.any, V.any, V.any, V.any, V.any], H, []⟩ (kAt (cx b w0) update_work_path.plan update_work_path.planL update_work_path.body [1, 1, 1, 1] (kFin prog update_work_path.res Q))
def update_work_path.j6 (b : Nat) (w0 : World) (x0 : V) (x3 : V) (x4 : V) (x5 : V) (x7 : Bool) (H : Hp) (Q : Rs → Hp → Prop) : Prop := Aw (cx b w0) (cAt update_work_path.body [1, 1, 1, 1, 1]) ⟨[x0, V.any, V.any, x3, x4, x5, V.any, (V.bool x7), V.any, V.any, V.any, V.any, V.any, V.any, V.any, V.any, V.any, V.any, V.any, V.any, V.any, V.any, V.any, V.any, V.any, V.any, V.any, V.any, V.any, V.any, V.any, V.any, V.any, V.any, V.any, V.any, V.any, V.any, V.any, V.any, V.any, V.any, V.any, V.any, V.any, V.any, V.any, V.any, V.any, V.any, V.any, V.any, V.any, V.any, V.any, V.any, V.any, V.any, V.any, V.any, V.any, V.any, V.any, V.any, V.any, V.any, V.any, V.any, V.any, V.any, V.any, V.any, V.any, V.any, V.any, V.any, V.any, V.any, V.any, V.any, V.any, V.any, V.any, V.any, V.any, V.any, V.any, V.any, V.any, V.any, V.any, V.any, V.any, V.any, V.any, V.any, V.any, V.any, V.any, V.any, V.any, V.any, V.any, V.any, V.any, V.any, V.any, V.any, V.any, V.any, V.any, V.any, V.any, V.any, V.any, V.any, V.any, V.any, V.any, V.any, V.any, V.any, V.any, V.any, V.any, V.any, V.any, V.any, V.any, V.any, V.any, V.any, V.any, V.any, V.any, V.any, V.any, V.any, V.any, V.any, V.any, V.any, V.any, V.any, V.any, V.any, V.any, V.any, V.any, V.any, V.any, V.any, V.any], H, []⟩ (kAt (cx b w0) update_work_path.plan update_work_path.planL update_work_path.body [1, 1, 1, 1, 1] (kFin prog update_work_path.res Q))
def update_work_path.j8 (b : Nat) (w0 : World) (x0 : V) (x3 : V) (x4 : V) (x5 : V) (H : Hp) (Q : Rs → Hp → Prop) : Prop := Aw (cx b w0) (cAt update_work_path.body [1, 1, 1, 1, 1, 1]) ⟨[x0, V.any, V.any, x3, x4, x5, V.any, V.any, V.any, V.any, V.any, V.any, V.any, V.any, V.any, V.any, V.any, V.any, V.any, V.any, V.any, V.any, V.any, V.any, V.any, V.any, V.any, V.any, V.any, V.any, V.any, V.any, V.any, V.any, V.any, V.any, V.any, V.any, V.any, V.any, V.any, V.any, V.any, V.any, V.any, V.any, V.any, V.any, V.any, V.any, V.any, V.any, V.any, V.any, V.any, V.any, V.any, V.any, V.any, V.any, V.any, V.any, V.any, V.any, V.any, V.any, V.any, V.any, V.any, V.any, V.any, V.any, V.any, V.any, V.any, V.any, V.any, V.any, V.any, V.any, V.any, V.any, V.any, V.any, V.any, V.any, V.any, V.any, V.any, V.any, V.any, V.any, V.any, V.any, V.any, V.any, V.any, V.any, V.any, V.any, V.any, V.any, V.any, V.any, V.any, V.any, V.any, V.any, V.any, V.any, V.any, V.any, V.any, V.any, V.any, V.any, V.any, V.any, V.any, V.any, V.any, V.any, V.any, V.any, V.any, V.any, V.any, V.any, V.any, V.any, V.any, V.any, V.any, V.any, V.any, V.any, V.any, V.any, V.any, V.any, V.any, V.any, V.any, V.any, V.any, V.any, V.any, V.any, V.any, V.any, V.any, V.any, V.any], H, []⟩ (kAt (cx b w0) update_work_path.plan update_work_path.planL update_work_path.body [1, 1, 1, 1, 1, 1] (kFin prog update_work_path.res Q))
def update_work_path.j7 (b : Nat) (w0 : World) (x0 : V) (x3 : V) (x4 : V) (x5 : V) (x51 : Bool) (H : Hp) (Q : Rs → Hp → Prop) : Prop := Aw (cx b w0) (cAt update_work_path.body [1, 1, 1, 1, 1, 0, 1]) ⟨[x0, V.any, V.any, x3, x4, x5, V.any, V.any, V.any, V.any, V.any, V.any, V.any, V.any, V.any, V.any, V.any, V.any, V.any, V.any, V.any, V.any, V.any, V.any, V.any, V.any, V.any, V.any, V.any, V.any, V.any, V.any, V.any, V.any, V.any, V.any, V.any, V.any, V.any, V.any, V.any, V.any, V.any, V.any, V.any, V.any, V.any, V.any, V.any, V.any, V.any, (V.bool x51), V.any, V.any, V.any, V.any, V.any, V.any, V.any, V.any, V.any, V.any, V.any, V.any, V.any, V.any, V.any, V.any, V.any, V.any, V.any, V.any, V.any, V.any, V.any, V.any, V.any, V.any, V.any, V.any, V.any, V.any, V.any, V.any, V.any, V.any, V.any, V.any, V.any, V.any, V.any, V.any, V.any, V.any, V.any, V.any, V.any, V.any, V.any, V.any, V.any, V.any, V.any, V.any, V.any, V.any, V.any, V.any, V.any, V.any, V.any, V.any, V.any, V.any, V.any, V.any, V.any, V.any, V.any, V.any, V.any, V.any, V.any, V.any, V.any, V.any, V.any, V.any, V.any, V.any, V.any, V.any, V.any, V.any, V.any, V.any, V.any, V.any, V.any, V.any, V.any, V.any, V.any, V.any, V.any, V.any, V.any, V.any, V.any, V.any, V.any, V.any, V.any], H, []⟩ (kAt (cx b w0) update_work_path.plan update_work_path.planL update_work_path.body [1, 1, 1, 1, 1, 0, 1] (kFin prog update_work_path.res Q))
def update_work_path.j12 (b : Nat) (w0 : World) (x0 : V) (x3 : V) (x4 : V) (x5 : V) (x7 : Bool) (x8 : V) (H : Hp) (Q : Rs → Hp → Prop) : Prop := Aw (cx b w0) (cAt update_work_path.body [1, 1, 1, 1, 1, 1, 1, 1, 1]) ⟨[x0, V.any, V.any, x3, x4, x5, V.any, (V.bool x7), x8, V.any, V.any, V.any, V.any, V.any, V.any, V.any, V.any, V.any, V.any, V.any, V.any, V.any, V.any, V.any, V.any, V.any, V.any, V.any, V.any, V.any, V.any, V.any, V.any, V.any, V.any, V.any, V.any, V.any, V.any, V.any, V.any, V.any, V.any, V.any, V.any, V.any, V.any, V.any, V.any, V.any, V.any, V.any, V.any, V.any, V.any, V.any, V.any, V.any, V.any, V.any, V.any, V.any, V.any, V.any, V.any, V.any, V.any, V.any, V.any, V.any, V.any, V.any, V.any, V.any, V.any, V.any, V.any, V.any, V.any, V.any, V.any, V.any, V.any, V.any, V.any, V.any, V.any, V.any, V.any, V.any, V.any, V.any, V.any, V.any, V.any, V.any, V.any, V.any, V.any, V.any, V.any, V.any, V.any, V.any, V.any, V.any, V.any, V.any, V.any, V.any, V.any, V.any, V.any, V.any, V.any, V.any, V.any, V.any, V.any, V.any, V.any, V.any, V.any, V.any, V.any, V.any, V.any, V.any, V.any, V.any, V.any, V.any, V.any, V.any, V.any, V.any, V.any, V.any, V.any, V.any, V.any, V.any, V.any, V.any, V.any, V.any, V.any, V.any, V.any, V.any, V.any, V.any, V.any], H, []⟩ (kAt (cx b w0) update_work_path.plan update_work_path.planL update_work_path.body [1, 1, 1, 1, 1, 1, 1, 1, 1] (kFin prog update_work_path.res Q))
def update_work_path.j13 (b : Nat) (w0 : World) (x0 : V) (x3 : V) (x4 : V) (x5 : V) (x8 : V) (x10 : Bool) (H : Hp) (Q : Rs → Hp → Prop) : Prop := Aw (cx b w0) (cAt update_work_path.body [1, 1, 1, 1, 1, 1, 1, 1, 1, 1]) ⟨[x0, V.any, V.any, x3, x4, x5, V.any, V.any, x8, V.any, (V.bool x10), V.any, V.any, V.any, V.any, V.any, V.any, V.any, V.any, V.any, V.any, V.any, V.any, V.any, V.any, V.any, V.any, V.any, V.any, V.any, V.any, V.any, V.any, V.any, V.any, V.any, V.any, V.any, V.any, V.any, V.any, V.any, V.any, V.any, V.any, V.any, V.any, V.any, V.any, V.any, V.any, V.any, V.any, V.any, V.any, V.any, V.any, V.any, V.any, V.any, V.any, V.any, V.any, V.any, V.any, V.any, V.any, V.any, V.any, V.any, V.any, V.any, V.any, V.any, V.any, V.any, V.any, V.any, V.any, V.any, V.any, V.any, V.any, V.any, V.any, V.any, V.any, V.any, V.any, V.any, V.any, V.any, V.any, V.any, V.any, V.any, V.any, V.any, V.any, V.any, V.any, V.any, V.any, V.any, V.any, V.any, V.any, V.any, V.any, V.any, V.any, V.any, V.any, V.any, V.any, V.any, V.any, V.any, V.any, V.any, V.any, V.any, V.any, V.any, V.any, V.any, V.any, V.any, V.any, V.any, V.any, V.any, V.any, V.any, V.any, V.any, V.any, V.any, V.any, V.any, V.any, V.any, V.any, V.any, V.any, V.any, V.any, V.any, V.any, V.any, V.any, V.any, V.any], H, []⟩ (kAt (cx b w0) update_work_path.plan update_work_path.planL update_work_path.body [1, 1, 1, 1, 1, 1, 1, 1, 1, 1] (kFin prog update_work_path.res Q))
def update_work_path.l14 (b : Nat) (w0 : World) (x0 : V) (x3 : V) (x4 : V) (x5 : V) (x10 : Bool) (x85 : V) (x86 : Int) (x87 : Int) (H : Hp) (Q : Rs → Hp → Prop) : Prop := Al (cx b w0) (cAt update_work_path.body [1, 1, 1, 1, 1, 1, 1, 1, 1, 1, 0, 1, 0, 0]) ⟨[x0, V.any, V.any, x3, x4, x5, V.any, V.any, V.any, V.any, (V.bool x10), V.any, V.any, V.any, V.any, V.any, V.any, V.any, V.any, V.any, V.any, V.any, V.any, V.any, V.any, V.any, V.any, V.any, V.any, V.any, V.any, V.any, V.any, V.any, V.any, V.any, V.any, V.any, V.any, V.any, V.any, V.any, V.any, V.any, V.any, V.any, V.any, V.any, V.any, V.any, V.any, V.any, V.any, V.any, V.any, V.any, V.any, V.any, V.any, V.any, V.any, V.any, V.any, V.any, V.any, V.any, V.any, V.any, V.any, V.any, V.any, V.any, V.any, V.any, V.any, V.any, V.any, V.any, V.any, V.any, V.any, V.any, V.any, V.any, V.any, x85, (V.int .i64 x86), (V.int .i64 x87), V.any, V.any, V.any, V.any, V.any, V.any, V.any, V.any, V.any, V.any, V.any, V.any, V.any, V.any, V.any, V.any, V.any, V.any, V.any, V.any, V.any, V.any, V.any, V.any, V.any, V.any, V.any, V.any, V.any, V.any, V.any, V.any, V.any, V.any, V.any, V.any, V.any, V.any, V.any, V.any, V.any, V.any, V.any, V.any, V.any, V.any, V.any, V.any, V.any, V.any, V.any, V.any, V.any, V.any, V.any, V.any, V.any, V.any, V.any, V.any, V.any, V.any, V.any, V.any, V.any], H, []⟩ (kAt (cx b w0) update_work_path.plan update_work_path.planL update_work_path.body [1, 1, 1, 1, 1, 1, 1, 1, 1, 1, 0, 1, 0] (kFin prog update_work_path.res Q))
def update_work_path.j23 (b : Nat) (w0 : World) (x0 : V) (x3 : V) (x4 : V) (x10 : Bool) (H : Hp) (Q : Rs → Hp → Prop) : Prop := Aw (cx b w0) (cAt update_work_path.body [1, 1, 1, 1, 1, 1, 1, 1, 1, 1, 1, 1]) ⟨[x0, V.any, V.any, x3, x4, V.any, V.any, V.any, V.any, V.any, (V.bool x10), V.any, V.any, V.any, V.any, V.any, V.any, V.any, V.any, V.any, V.any, V.any, V.any, V.any, V.any, V.any, V.any, V.any, V.any, V.any, V.any, V.any, V.any, V.any, V.any, V.any, V.any, V.any, V.any, V.any, V.any, V.any, V.any, V.any, V.any, V.any, V.any, V.any, V.any, V.any, V.any, V.any, V.any, V.any, V.any, V.any, V.any, V.any, V.any, V.any, V.any, V.any, V.any, V.any, V.any, V.any, V.any, V.any, V.any, V.any, V.any, V.any, V.any, V.any, V.any, V.any, V.any, V.any, V.any, V.any, V.any, V.any, V.any, V.any, V.any, V.any, V.any, V.any, V.any, V.any, V.any, V.any, V.any, V.any, V.any, V.any, V.any, V.any, V.any, V.any, V.any, V.any, V.any, V.any, V.any, V.any, V.any, V.any, V.any, V.any, V.any, V.any, V.any, V.any, V.any, V.any, V.any, V.any, V.any, V.any, V.any, V.any, V.any, V.any, V.any, V.any, V.any, V.any, V.any, V.any, V.any, V.any, V.any, V.any, V.any, V.any, V.any, V.any, V.any, V.any, V.any, V.any, V.any, V.any, V.any, V.any, V.any, V.any, V.any, V.any, V.any, V.any, V.any], H, []⟩ (kAt (cx b w0) update_work_path.plan update_work_path.planL update_work_path.body [1, 1, 1, 1, 1, 1, 1, 1, 1, 1, 1, 1] (kFin prog update_work_path.res Q))
def update_work_path.j19 (b : Nat) (w0 : World) (x0 : V) (x3 : V) (x4 : V) (x5 : V) (x10 : Bool) (x111 : Bool) (H : Hp) (Q : Rs → Hp → Prop) : Prop := Aw (cx b w0) (cAt update_work_path.body [1, 1, 1, 1, 1, 1, 1, 1, 1, 1, 1, 0, 1]) ⟨[x0, V.any, V.any, x3, x4, x5, V.any, V.any, V.any, V.any, (V.bool x10), V.any, V.any, V.any, V.any, V.any, V.any, V.any, V.any, V.any, V.any, V.any, V.any, V.any, V.any, V.any, V.any, V.any, V.any, V.any, V.any, V.any, V.any, V.any, V.any, V.any, V.any, V.any, V.any, V.any, V.any, V.any, V.any, V.any, V.any, V.any, V.any, V.any, V.any, V.any, V.any, V.any, V.any, V.any, V.any, V.any, V.any, V.any, V.any, V.any, V.any, V.any, V.any, V.any, V.any, V.any, V.any, V.any, V.any, V.any, V.any, V.any, V.any, V.any, V.any, V.any, V.any, V.any, V.any, V.any, V.any, V.any, V.any, V.any, V.any, V.any, V.any, V.any, V.any, V.any, V.any, V.any, V.any, V.any, V.any, V.any, V.any, V.any, V.any, V.any, V.any, V.any, V.any, V.any, V.any, V.any, V.any, V.any, V.any, V.any, V.any, (V.bool x111), V.any, V.any, V.any, V.any, V.any, V.any, V.any, V.any, V.any, V.any, V.any, V.any, V.any, V.any, V.any, V.any, V.any, V.any, V.any, V.any, V.any, V.any, V.any, V.any, V.any, V.any, V.any, V.any, V.any, V.any, V.any, V.any, V.any, V.any, V.any, V.any, V.any, V.any, V.any, V.any, V.any], H, []⟩ (kAt (cx b w0) update_work_path.plan update_work_path.planL update_work_path.body [1, 1, 1, 1, 1, 1, 1, 1, 1, 1, 1, 0, 1] (kFin prog update_work_path.res Q))
def update_work_path.j22 (b : Nat) (w0 : World) (x0 : V) (x3 : V) (x4 : V) (x10 : Bool) (H : Hp) (Q : Rs → Hp → Prop) : Prop := Aw (cx b w0) (cAt update_work_path.body [1, 1, 1, 1, 1, 1, 1, 1, 1, 1, 1, 0, 1, 0, 1]) ⟨[x0, V.any, V.any, x3, x4, V.any, V.any, V.any, V.any, V.any, (V.bool x10), V.any, V.any, V.any, V.any, V.any, V.any, V.any, V.any, V.any, V.any, V.any, V.any, V.any, V.any, V.any, V.any, V.any, V.any, V.any, V.any, V.any, V.any, V.any, V.any, V.any, V.any, V.any, V.any, V.any, V.any, V.any, V.any, V.any, V.any, V.any, V.any, V.any, V.any, V.any, V.any, V.any, V.any, V.any, V.any, V.any, V.any, V.any, V.any, V.any, V.any, V.any, V.any, V.any, V.any, V.any, V.any, V.any, V.any, V.any, V.any, V.any, V.any, V.any, V.any, V.any, V.any, V.any, V.any, V.any, V.any, V.any, V.any, V.any, V.any, V.any, V.any, V.any, V.any, V.any, V.any, V.any, V.any, V.any, V.any, V.any, V.any, V.any, V.any, V.any, V.any, V.any, V.any, V.any, V.any, V.any, V.any, V.any, V.any, V.any, V.any, V.any, V.any, V.any, V.any, V.any, V.any, V.any, V.any, V.any, V.any, V.any, V.any, V.any, V.any, V.any, V.any, V.any, V.any, V.any, V.any, V.any, V.any, V.any, V.any, V.any, V.any, V.any, V.any, V.any, V.any, V.any, V.any, V.any, V.any, V.any, V.any, V.any, V.any, V.any, V.any, V.any, V.any], H, []⟩ (kAt (cx b w0) update_work_path.plan update_work_path.planL update_work_path.body [1, 1, 1, 1, 1, 1, 1, 1, 1, 1, 1, 0, 1, 0, 1] (kFin prog update_work_path.res Q))
def update_work_path.j20 (b : Nat) (w0 : World) (x0 : V) (x3 : V) (x4 : V) (x10 : Bool) (x13 : V) (H : Hp) (Q : Rs → Hp → Prop) : Prop := Aw (cx b w0) (cAt update_work_path.body [1, 1, 1, 1, 1, 1, 1, 1, 1, 1, 1, 0, 1, 0, 0, 1]) ⟨[x0, V.any, V.any, x3, x4, V.any, V.any, V.any, V.any, V.any, (V.bool x10), V.any, V.any, x13, V.any, V.any, V.any, V.any, V.any, V.any, V.any, V.any, V.any, V.any, V.any, V.any, V.any, V.any, V.any, V.any, V.any, V.any, V.any, V.any, V.any, V.any, V.any, V.any, V.any, V.any, V.any, V.any, V.any, V.any, V.any, V.any, V.any, V.any, V.any, V.any, V.any, V.any, V.any, V.any, V.any, V.any, V.any, V.any, V.any, V.any, V.any, V.any, V.any, V.any, V.any, V.any, V.any, V.any, V.any, V.any, V.any, V.any, V.any, V.any, V.any, V.any, V.any, V.any, V.any, V.any, V.any, V.any, V.any, V.any, V.any, V.any, V.any, V.any, V.any, V.any, V.any, V.any, V.any, V.any, V.any, V.any, V.any, V.any, V.any, V.any, V.any, V.any, V.any, V.any, V.any, V.any, V.any, V.any, V.any, V.any, V.any, V.any, V.any, V.any, V.any, V.any, V.any, V.any, V.any, V.any, V.any, V.any, V.any, V.any, V.any, V.any, V.any, V.any, V.any, V.any, V.any, V.any, V.any, V.any, V.any, V.any, V.any, V.any, V.any, V.any, V.any, V.any, V.any, V.any, V.any, V.any, V.any, V.any, V.any, V.any, V.any, V.any, V.any], H, []⟩ (kAt (cx b w0) update_work_path.plan update_work_path.planL update_work_path.body [1, 1, 1, 1, 1, 1, 1, 1, 1, 1, 1, 0, 1, 0, 0, 1] (kFin prog update_work_path.res Q))
def update_work_path.j3p (b : Nat) (w0 : World) (x0 : V) (x3 : V) (x4 : V) (H : Hp) (Q : Rs → Hp → Prop) : Prop :=
nckE x0 fun v_1 =>
faE 3 v_1 fun p_2 =>
ldE false 1 p_2 H fun v_3 =>
faE 0 x3 fun p_4 =>
ldE false 1 p_4 H fun v_5 =>
strE v_5 fun s_6 =>
upE v_3 H (putK s_6 (V.int .i64 1)) fun H_7 =>
update_work_path.j4 b w0 x0 x3 x4 H_7 Q
theorem update_work_path.j3s (b : Nat) (w0 : World) (x0 : V) (x3 : V) (x4 : V) (H : Hp) (Q : Rs → Hp → Prop) (h : update_work_path.j3p b w0 x0 x3 x4 H Q) : update_work_path.j3 b w0 x0 x3 x4 H Q := by
  have e : wpE (cx b w0) update_work_path.plan update_work_path.planL (cAt update_work_path.body [1, 1]) ⟨[x0, V.any, V.any, x3, x4, V.any, V.any, V.any, V.any, V.any, V.any, V.any, V.any, V.any, V.any, V.any, V.any, V.any, V.any, V.any, V.any, V.any, V.any, V.any, V.any, V.any, V.any, V.any, V.any, V.any, V.any, V.any, V.any, V.any, V.any, V.any, V.any, V.any, V.any, V.any, V.any, V.any, V.any, V.any, V.any, V.any, V.any, V.any, V.any, V.any, V.any, V.any, V.any, V.any, V.any, V.any, V.any, V.any, V.any, V.any, V.any, V.any, V.any, V.any, V.any, V.any, V.any, V.any, V.any, V.any, V.any, V.any, V.any, V.any, V.any, V.any, V.any, V.any, V.any, V.any, V.any, V.any, V.any, V.any, V.any, V.any, V.any, V.any, V.any, V.any, V.any, V.any, V.any, V.any, V.any, V.any, V.any, V.any, V.any, V.any, V.any, V.any, V.any, V.any, V.any, V.any, V.any, V.any, V.any, V.any, V.any, V.any, V.any, V.any, V.any, V.any, V.any, V.any, V.any, V.any, V.any, V.any, V.any, V.any, V.any, V.any, V.any, V.any, V.any, V.any, V.any, V.any, V.any, V.any, V.any, V.any, V.any, V.any, V.any, V.any, V.any, V.any, V.any, V.any, V.any, V.any, V.any, V.any, V.any, V.any, V.any, V.any, V.any], H, []⟩ (kAt (cx b w0) update_work_path.plan update_work_path.planL update_work_path.body [1, 1] (kFin prog update_work_path.res Q)) = update_work_path.j3p b w0 x0 x3 x4 H Q := by kernel_rfl
  exact wpE_ok mixed _ _ _ (e.mpr h)
def update_work_path.j4p (b : Nat) (w0 : World) (x0 : V) (x3 : V) (x4 : V) (H : Hp) (Q : Rs → Hp → Prop) : Prop :=
nckE x0 fun v_8 =>
faE 0 v_8 fun p_9 =>
ldE false 1 p_9 H fun v_10 =>
ldE true 2 x3 H fun v_11 =>
aggE v_11 fun l_12 =>
headE l_12 fun c_13 r_14 =>
strE c_13 fun s_15 =>
headE r_14 fun c_16 r_17 =>
strE c_16 fun s_18 =>
endE r_17 (
((invE prog v_10 "Find" fun g_19 fx_20 => (callE (cx b w0) g_19 (fx_20 :: [(V.agg [(V.str s_15), (V.str s_18)])]) H (fun v_21 H_22 =>
aggE v_21 fun l_25 =>
headE l_25 fun c_26 r_27 =>
strE c_26 fun s_28 =>
headE r_27 fun c_29 r_30 =>
strE c_29 fun s_31 =>
headE r_30 fun c_32 r_33 =>
headE r_33 fun c_34 r_35 =>
headE r_35 fun c_36 r_37 =>
headE r_37 fun c_38 r_39 =>
strE c_38 fun s_40 =>
headE r_39 fun c_41 r_42 =>
intK .i64 c_41 fun n_43 =>
headE r_42 fun c_44 r_45 =>
boolE c_44 fun b_46 =>
headE r_45 fun c_47 r_48 =>
boolE c_47 fun b_49 =>
endE r_48 (
newE H_22 (O.box [(V.str []), (V.str []), V.nilsl, V.nilsl, V.nilsl, (V.str []), (V.int .i64 0), (V.bool false), (V.bool false)] 167) fun a_50 H_51 =>
stE (V.ptr a_50 0) [(V.str s_28), (V.str s_31), c_32, c_34, c_36, (V.str s_40), (V.int .i64 n_43), (V.bool b_46), (V.bool b_49)] H_51 fun H_52 =>
update_work_path.j5 b w0 x0 x3 x4 (V.ptr a_50 0) H_52 Q))
(fun v_23 H_24 => Q (Rs.pan v_23) H_24))) ∧
(newE H (O.box [(V.str []), (V.str []), V.nilsl, V.nilsl, V.nilsl, (V.str []), (V.int .i64 0), (V.bool false), (V.bool false)] 167) fun a_53 H_54 =>
((ldE true 2 x3 H_54 fun v_55 =>
aggE v_55 fun l_56 =>
headE l_56 fun c_57 r_58 =>
strE c_57 fun s_59 =>
headE r_58 fun c_60 r_61 =>
strE c_60 fun s_62 =>
endE r_61 (
((V.agg [(V.str s_59), (V.str s_62)]) = (V.agg [(V.str s_15), (V.str s_18)])))) ∧
((ldE false 1 p_9 H_54 fun v_63 =>
(v_63 = v_10)) ∧
invE prog v_10 "Find" fun g_64 fx_65 => (callE (cx b w0) g_64 (fx_65 :: [(V.agg [(V.str s_15), (V.str s_18)])]) H_54 (fun v_66 H_67 =>
aggE v_66 fun l_70 =>
headE l_70 fun c_71 r_72 =>
strE c_71 fun s_73 =>
headE r_72 fun c_74 r_75 =>
strE c_74 fun s_76 =>
headE r_75 fun c_77 r_78 =>
headE r_78 fun c_79 r_80 =>
headE r_80 fun c_81 r_82 =>
headE r_82 fun c_83 r_84 =>
strE c_83 fun s_85 =>
headE r_84 fun c_86 r_87 =>
intK .i64 c_86 fun n_88 =>
headE r_87 fun c_89 r_90 =>
boolE c_89 fun b_91 =>
headE r_90 fun c_92 r_93 =>
boolE c_92 fun b_94 =>
endE r_93 (
stE (V.ptr a_53 0) [(V.str s_73), (V.str s_76), c_77, c_79, c_81, (V.str s_85), (V.int .i64 n_88), (V.bool b_91), (V.bool b_94)] H_67 fun H_95 =>
update_work_path.j5 b w0 x0 x3 x4 (V.ptr a_53 0) H_95 Q))
(fun v_68 H_69 => Q (Rs.pan v_68) H_69)))))))
theorem update_work_path.j4s (b : Nat) (w0 : World) (x0 : V) (x3 : V) (x4 : V) (H : Hp) (Q : Rs → Hp → Prop) (h : update_work_path.j4p b w0 x0 x3 x4 H Q) : update_work_path.j4 b w0 x0 x3 x4 H Q := by
  have e : wpE (cx b w0) update_work_path.plan update_work_path.planL (cAt update_work_path.body [1, 1, 1]) ⟨[x0, V.any, V.any, x3, x4, V.any, V.any, V.any, V.any, V.any, V.any, V.any, V.any, V.any, V.any, V.any, V.any, V.any, V.any, V.any, V.any, V.any, V.any, V.any, V.any, V.any, V.any, V.any, V.any, V.any, V.any, V.any, V.any, V.any, V.any, V.any, V.any, V.any, V.any, V.any, V.any, V.any, V.any, V.any, V.any, V.any, V.any, V.any, V.any, V.any, V.any, V.any, V.any, V.any, V.any, V.any, V.any, V.any, V.any, V.any, V.any, V.any, V.any, V.any, V.any, V.any, V.any, V.any, V.any, V.any, V.any, V.any, V.any, V.any, V.any, V.any, V.any, V.any, V.any, V.any, V.any, V.any, V.any, V.any, V.any, V.any, V.any, V.any, V.any, V.any, V.any, V.any, V.any, V.any, V.any, V.any, V.any, V.any, V.any, V.any, V.any, V.any, V.any, V.any, V.any, V.any, V.any, V.any, V.any, V.any, V.any, V.any, V.any, V.any, V.any, V.any, V.any, V.any, V.any, V.any, V.any, V.any, V.any, V.any, V.any, V.any, V.any, V.any, V.any, V.any, V.any, V.any, V.any, V.any, V.any, V.any, V.any, V.any, V.any, V.any, V.any, V.any, V.any, V.any, V.any, V.any, V.any, V.any, V.any, V.any, V.any, V.any, V.any], H, []⟩ (kAt (cx b w0) update_work_path.plan update_work_path.planL update_work_path.body [1, 1, 1] (kFin prog update_work_path.res Q)) = update_work_path.j4p b w0 x0 x3 x4 H Q := by kernel_rfl
  exact wpE_ok mixed _ _ _ (e.mpr h)
def update_work_path.j5p (b : Nat) (w0 : World) (x0 : V) (x3 : V) (x4 : V) (x5 : V) (H : Hp) (Q : Rs → Hp → Prop) : Prop :=
nckE x0 fun v_96 =>
faE 0 v_96 fun p_97 =>
ldE false 1 p_97 H fun v_98 =>
faE 0 x3 fun p_99 =>
ldE false 1 p_99 H fun v_100 =>
strE v_100 fun s_101 =>
invE prog v_98 "Time" fun g_102 fx_103 => (callE (cx b w0) g_102 (fx_103 :: [(V.str s_101)]) H (fun v_104 H_105 =>
tupE v_104 fun l_108 =>
headE l_108 fun c_109 r_110 =>
intK .i64 c_109 fun n_111 =>
headE r_110 fun c_112 r_113 =>
boolE c_112 fun b_114 =>
endE r_113 (
update_work_path.j6 b w0 x0 x3 x4 x5 b_114 H_105 Q))
(fun v_106 H_107 => Q (Rs.pan v_106) H_107))
theorem update_work_path.j5s (b : Nat) (w0 : World) (x0 : V) (x3 : V) (x4 : V) (x5 : V) (H : Hp) (Q : Rs → Hp → Prop) (h : update_work_path.j5p b w0 x0 x3 x4 x5 H Q) : update_work_path.j5 b w0 x0 x3 x4 x5 H Q := by
  have e : wpE (cx b w0) update_work_path.plan update_work_path.planL (cAt update_work_path.body [1, 1, 1, 1]) ⟨[x0, V.any, V.any, x3, x4, x5, V.any, V.any, V.any, V.any, V.any, V.any, V.any, V.any, V.any, V.any, V.any, V.any, V.any, V.any, V.any, V.any, V.any, V.any, V.any, V.any, V.any, V.any, V.any, V.any, V.any, V.any, V.any, V.any, V.any, V.any, V.any, V.any, V.any, V.any, V.any, V.any, V.any, V.any, V.any, V.any, V.any, V.any, V.any, V.any, V.any, V.any, V.any, V.any, V.any, V.any, V.any, V.any, V.any, V.any, V.any, V.any, V.any, V.any, V.any, V.any, V.any, V.any, V.any, V.any, V.any, V.any, V.any, V.any, V.any, V.any, V.any, V.any, V.any, V.any, V.any, V.any, V.any, V.any, V.any, V.any, V.any, V.any, V.any, V.any, V.any, V.any, V.any, V.any, V.any, V.any, V.any, V.any, V.any, V.any, V.any, V.any, V.any, V.any, V.any, V.any, V.any, V.any, V.any, V.any, V.any, V.any, V.any, V.any, V.any, V.any, V.any, V.any, V.any, V.any, V.any, V.any, V.any, V.any, V.any, V.any, V.any, V.any, V.any, V.any, V.any, V.any, V.any, V.any, V.any, V.any, V.any, V.any, V.any, V.any, V.any, V.any, V.any, V.any, V.any, V.any, V.any, V.any, V.any, V.any, V.any, V.any, V.any], H, []⟩ (kAt (cx b w0) update_work_path.plan update_work_path.planL update_work_path.body [1, 1, 1, 1] (kFin prog update_work_path.res Q)) = update_work_path.j5p b w0 x0 x3 x4 x5 H Q := by kernel_rfl
  exact wpE_ok mixed _ _ _ (e.mpr h)
def update_work_path.j6p (b : Nat) (w0 : World) (x0 : V) (x3 : V) (x4 : V) (x5 : V) (x7 : Bool) (H : Hp) (Q : Rs → Hp → Prop) : Prop :=
faE 8 x5 fun p_115 =>
ldE false 1 p_115 H fun v_116 =>
boolE v_116 fun b_117 =>
cnd ((!b_117) == true) (
update_work_path.j7 b w0 x0 x3 x4 x5 (!x7) H Q) (
update_work_path.j7 b w0 x0 x3 x4 x5 false H Q)
theorem update_work_path.j6s (b : Nat) (w0 : World) (x0 : V) (x3 : V) (x4 : V) (x5 : V) (x7 : Bool) (H : Hp) (Q : Rs → Hp → Prop) (h : update_work_path.j6p b w0 x0 x3 x4 x5 x7 H Q) : update_work_path.j6 b w0 x0 x3 x4 x5 x7 H Q := by
  have e : wpE (cx b w0) update_work_path.plan update_work_path.planL (cAt update_work_path.body [1, 1, 1, 1, 1]) ⟨[x0, V.any, V.any, x3, x4, x5, V.any, (V.bool x7), V.any, V.any, V.any, V.any, V.any, V.any, V.any, V.any, V.any, V.any, V.any, V.any, V.any, V.any, V.any, V.any, V.any, V.any, V.any, V.any, V.any, V.any, V.any, V.any, V.any, V.any, V.any, V.any, V.any, V.any, V.any, V.any, V.any, V.any, V.any, V.any, V.any, V.any, V.any, V.any, V.any, V.any, V.any, V.any, V.any, V.any, V.any, V.any, V.any, V.any, V.any, V.any, V.any, V.any, V.any, V.any, V.any, V.any, V.any, V.any, V.any, V.any, V.any, V.any, V.any, V.any, V.any, V.any, V.any, V.any, V.any, V.any, V.any, V.any, V.any, V.any, V.any, V.any, V.any, V.any, V.any, V.any, V.any, V.any, V.any, V.any, V.any, V.any, V.any, V.any, V.any, V.any, V.any, V.any, V.any, V.any, V.any, V.any, V.any, V.any, V.any, V.any, V.any, V.any, V.any, V.any, V.any, V.any, V.any, V.any, V.any, V.any, V.any, V.any, V.any, V.any, V.any, V.any, V.any, V.any, V.any, V.any, V.any, V.any, V.any, V.any, V.any, V.any, V.any, V.any, V.any, V.any, V.any, V.any, V.any, V.any, V.any, V.any, V.any, V.any, V.any, V.any, V.any, V.any, V.any], H, []⟩ (kAt (cx b w0) update_work_path.plan update_work_path.planL update_work_path.body [1, 1, 1, 1, 1] (kFin prog update_work_path.res Q)) = update_work_path.j6p b w0 x0 x3 x4 x5 x7 H Q := by kernel_rfl
  exact wpE_ok mixed _ _ _ (e.mpr h)
def update_work_path.j8p (b : Nat) (w0 : World) (x0 : V) (x3 : V) (x4 : V) (x5 : V) (H : Hp) (Q : Rs → Hp → Prop) : Prop :=
ldE true 9 x5 H fun v_118 =>
aggE v_118 fun l_119 =>
headE l_119 fun c_120 r_121 =>
strE c_120 fun s_122 =>
headE r_121 fun c_123 r_124 =>
strE c_123 fun s_125 =>
headE r_124 fun c_126 r_127 =>
headE r_127 fun c_128 r_129 =>
headE r_129 fun c_130 r_131 =>
headE r_131 fun c_132 r_133 =>
strE c_132 fun s_134 =>
headE r_133 fun c_135 r_136 =>
intK .i64 c_135 fun n_137 =>
headE r_136 fun c_138 r_139 =>
boolE c_138 fun b_140 =>
headE r_139 fun c_141 r_142 =>
boolE c_141 fun b_143 =>
endE r_142 (
Ac (cx b w0) 70 [x0, (V.agg [(V.str s_122), (V.str s_125), c_126, c_128, c_130, (V.str s_134), (V.int .i64 n_137), (V.bool b_140), (V.bool b_143)])] H (thenR (fun v_144 H_145 =>
tupE v_144 fun l_148 =>
headE l_148 fun c_149 r_150 =>
headE r_150 fun c_151 r_152 =>
aggE c_151 fun l_153 =>
headE l_153 fun c_154 r_155 =>
intK .i64 c_154 fun n_156 =>
headE r_155 fun c_157 r_158 =>
strE c_157 fun s_159 =>
headE r_158 fun c_160 r_161 =>
intK .i64 c_160 fun n_162 =>
endE r_161 (
endE r_152 (
newE H_145 (O.box [(V.int .i64 0), (V.str []), (V.int .i64 0)] 33) fun a_163 H_164 =>
stE (V.ptr a_163 0) [(V.int .i64 n_156), (V.str s_159), (V.int .i64 n_162)] H_164 fun H_165 =>
ldE false 1 (V.ptr a_163 (0 + 0)) H_165 fun v_166 =>
intK .i64 v_166 fun n_167 =>
cnd (!decide ((n_167 : Int) = 0)) (
ldE true 3 (V.ptr a_163 0) H_165 fun v_168 =>
aggE v_168 fun l_169 =>
headE l_169 fun c_170 r_171 =>
intK .i64 c_170 fun n_172 =>
headE r_171 fun c_173 r_174 =>
strE c_173 fun s_175 =>
headE r_174 fun c_176 r_177 =>
intK .i64 c_176 fun n_178 =>
endE r_177 (
stE x4 [(V.int .i64 n_172), (V.str s_175), (V.int .i64 n_178)] H_165 fun H_179 =>
ldE true 3 x4 H_179 fun v_180 =>
aggE v_180 fun l_181 =>
headE l_181 fun c_182 r_183 =>
intK .i64 c_182 fun n_184 =>
headE r_183 fun c_185 r_186 =>
strE c_185 fun s_187 =>
headE r_186 fun c_188 r_189 =>
intK .i64 c_188 fun n_190 =>
endE r_189 (
Q (Rs.ret (V.agg [(V.int .i64 n_184), (V.str s_187), (V.int .i64 n_190)])) H_179))) (
nckE x0 fun v_191 =>
faE 0 v_191 fun p_192 =>
ldE false 1 p_192 H_165 fun v_193 =>
faE 0 x3 fun p_194 =>
ldE false 1 p_194 H_165 fun v_195 =>
strE v_195 fun s_196 =>
invE prog v_193 "Time" fun g_197 fx_198 => (callE (cx b w0) g_197 (fx_198 :: [(V.str s_196)]) H_165 (fun v_199 H_200 =>
tupE v_199 fun l_203 =>
headE l_203 fun c_204 r_205 =>
intK .i64 c_204 fun n_206 =>
headE r_205 fun c_207 r_208 =>
boolE c_207 fun b_209 =>
endE r_208 (
update_work_path.j12 b w0 x0 x3 x4 x5 b_209 c_149 H_200 Q))
(fun v_201 H_202 => Q (Rs.pan v_201) H_202))))))
(fun v_146 H_147 => Q (Rs.pan v_146) H_147)))
theorem update_work_path.j8s (b : Nat) (w0 : World) (x0 : V) (x3 : V) (x4 : V) (x5 : V) (H : Hp) (Q : Rs → Hp → Prop) (h : update_work_path.j8p b w0 x0 x3 x4 x5 H Q) : update_work_path.j8 b w0 x0 x3 x4 x5 H Q := by
  have e : wpE (cx b w0) update_work_path.plan update_work_path.planL (cAt update_work_path.body [1, 1, 1, 1, 1, 1]) ⟨[x0, V.any, V.any, x3, x4, x5, V.any, V.any, V.any, V.any, V.any, V.any, V.any, V.any, V.any, V.any, V.any, V.any, V.any, V.any, V.any, V.any, V.any, V.any, V.any, V.any, V.any, V.any, V.any, V.any, V.any, V.any, V.any, V.any, V.any, V.any, V.any, V.any, V.any, V.any, V.any, V.any, V.any, V.any, V.any, V.any, V.any, V.any, V.any, V.any, V.any, V.any, V.any, V.any, V.any, V.any, V.any, V.any, V.any, V.any, V.any, V.any, V.any, V.any, V.any, V.any, V.any, V.any, V.any, V.any, V.any, V.any, V.any, V.any, V.any, V.any, V.any, V.any, V.any, V.any, V.any, V.any, V.any, V.any, V.any, V.any, V.any, V.any, V.any, V.any, V.any, V.any, V.any, V.any, V.any, V.any, V.any, V.any, V.any, V.any, V.any, V.any, V.any, V.any, V.any, V.any, V.any, V.any, V.any, V.any, V.any, V.any, V.any, V.any, V.any, V.any, V.any, V.any, V.any, V.any, V.any, V.any, V.any, V.any, V.any, V.any, V.any, V.any, V.any, V.any, V.any, V.any, V.any, V.any, V.any, V.any, V.any, V.any, V.any, V.any, V.any, V.any, V.any, V.any, V.any, V.any, V.any, V.any, V.any, V.any, V.any, V.any, V.any], H, []⟩ (kAt (cx b w0) update_work_path.plan update_work_path.planL update_work_path.body [1, 1, 1, 1, 1, 1] (kFin prog update_work_path.res Q)) = update_work_path.j8p b w0 x0 x3 x4 x5 H Q := by kernel_rfl
  exact wpE_ok mixed _ _ _ (e.mpr h)
def update_work_path.j7p (b : Nat) (w0 : World) (x0 : V) (x3 : V) (x4 : V) (x5 : V) (x51 : Bool) (H : Hp) (Q : Rs → Hp → Prop) : Prop :=
cnd x51 (
faE 0 x3 fun p_210 =>
ldE false 1 p_210 H fun v_211 =>
strE v_211 fun s_212 =>
stE x4 [(V.int .i64 8), (V.str s_212), (V.int .i64 0)] H fun H_213 =>
ldE true 3 x4 H_213 fun v_214 =>
aggE v_214 fun l_215 =>
headE l_215 fun c_216 r_217 =>
intK .i64 c_216 fun n_218 =>
headE r_217 fun c_219 r_220 =>
strE c_219 fun s_221 =>
headE r_220 fun c_222 r_223 =>
intK .i64 c_222 fun n_224 =>
endE r_223 (
Q (Rs.ret (V.agg [(V.int .i64 n_218), (V.str s_221), (V.int .i64 n_224)])) H_213)) (
update_work_path.j8 b w0 x0 x3 x4 x5 H Q)
theorem update_work_path.j7s (b : Nat) (w0 : World) (x0 : V) (x3 : V) (x4 : V) (x5 : V) (x51 : Bool) (H : Hp) (Q : Rs → Hp → Prop) (h : update_work_path.j7p b w0 x0 x3 x4 x5 x51 H Q) : update_work_path.j7 b w0 x0 x3 x4 x5 x51 H Q := by
  have e : wpE (cx b w0) update_work_path.plan update_work_path.planL (cAt update_work_path.body [1, 1, 1, 1, 1, 0, 1]) ⟨[x0, V.any, V.any, x3, x4, x5, V.any, V.any, V.any, V.any, V.any, V.any, V.any, V.any, V.any, V.any, V.any, V.any, V.any, V.any, V.any, V.any, V.any, V.any, V.any, V.any, V.any, V.any, V.any, V.any, V.any, V.any, V.any, V.any, V.any, V.any, V.any, V.any, V.any, V.any, V.any, V.any, V.any, V.any, V.any, V.any, V.any, V.any, V.any, V.any, V.any, (V.bool x51), V.any, V.any, V.any, V.any, V.any, V.any, V.any, V.any, V.any, V.any, V.any, V.any, V.any, V.any, V.any, V.any, V.any, V.any, V.any, V.any, V.any, V.any, V.any, V.any, V.any, V.any, V.any, V.any, V.any, V.any, V.any, V.any, V.any, V.any, V.any, V.any, V.any, V.any, V.any, V.any, V.any, V.any, V.any, V.any, V.any, V.any, V.any, V.any, V.any, V.any, V.any, V.any, V.any, V.any, V.any, V.any, V.any, V.any, V.any, V.any, V.any, V.any, V.any, V.any, V.any, V.any, V.any, V.any, V.any, V.any, V.any, V.any, V.any, V.any, V.any, V.any, V.any, V.any, V.any, V.any, V.any, V.any, V.any, V.any, V.any, V.any, V.any, V.any, V.any, V.any, V.any, V.any, V.any, V.any, V.any, V.any, V.any, V.any, V.any, V.any, V.any], H, []⟩ (kAt (cx b w0) update_work_path.plan update_work_path.planL update_work_path.body [1, 1, 1, 1, 1, 0, 1] (kFin prog update_work_path.res Q)) = update_work_path.j7p b w0 x0 x3 x4 x5 x51 H Q := by kernel_rfl
  exact wpE_ok mixed _ _ _ (e.mpr h)
def update_work_path.j12p (b : Nat) (w0 : World) (x0 : V) (x3 : V) (x4 : V) (x5 : V) (x7 : Bool) (x8 : V) (H : Hp) (Q : Rs → Hp → Prop) : Prop :=
faE 8 x5 fun p_225 =>
ldE false 1 p_225 H fun v_226 =>
boolE v_226 fun b_227 =>
cnd (b_227 == true) (
faE 7 x5 fun p_228 =>
ldE false 1 p_228 H fun v_229 =>
boolE v_229 fun b_230 =>
cnd (b_230 == false) (
update_work_path.j13 b w0 x0 x3 x4 x5 x8 (!x7) H Q) (
update_work_path.j13 b w0 x0 x3 x4 x5 x8 true H Q)) (
update_work_path.j13 b w0 x0 x3 x4 x5 x8 false H Q)
theorem update_work_path.j12s (b : Nat) (w0 : World) (x0 : V) (x3 : V) (x4 : V) (x5 : V) (x7 : Bool) (x8 : V) (H : Hp) (Q : Rs → Hp → Prop) (h : update_work_path.j12p b w0 x0 x3 x4 x5 x7 x8 H Q) : update_work_path.j12 b w0 x0 x3 x4 x5 x7 x8 H Q := by
  have e : wpE (cx b w0) update_work_path.plan update_work_path.planL (cAt update_work_path.body [1, 1, 1, 1, 1, 1, 1, 1, 1]) ⟨[x0, V.any, V.any, x3, x4, x5, V.any, (V.bool x7), x8, V.any, V.any, V.any, V.any, V.any, V.any, V.any, V.any, V.any, V.any, V.any, V.any, V.any, V.any, V.any, V.any, V.any, V.any, V.any, V.any, V.any, V.any, V.any, V.any, V.any, V.any, V.any, V.any, V.any, V.any, V.any, V.any, V.any, V.any, V.any, V.any, V.any, V.any, V.any, V.any, V.any, V.any, V.any, V.any, V.any, V.any, V.any, V.any, V.any, V.any, V.any, V.any, V.any, V.any, V.any, V.any, V.any, V.any, V.any, V.any, V.any, V.any, V.any, V.any, V.any, V.any, V.any, V.any, V.any, V.any, V.any, V.any, V.any, V.any, V.any, V.any, V.any, V.any, V.any, V.any, V.any, V.any, V.any, V.any, V.any, V.any, V.any, V.any, V.any, V.any, V.any, V.any, V.any, V.any, V.any, V.any, V.any, V.any, V.any, V.any, V.any, V.any, V.any, V.any, V.any, V.any, V.any, V.any, V.any, V.any, V.any, V.any, V.any, V.any, V.any, V.any, V.any, V.any, V.any, V.any, V.any, V.any, V.any, V.any, V.any, V.any, V.any, V.any, V.any, V.any, V.any, V.any, V.any, V.any, V.any, V.any, V.any, V.any, V.any, V.any, V.any, V.any, V.any, V.any], H, []⟩ (kAt (cx b w0) update_work_path.plan update_work_path.planL update_work_path.body [1, 1, 1, 1, 1, 1, 1, 1, 1] (kFin prog update_work_path.res Q)) = update_work_path.j12p b w0 x0 x3 x4 x5 x7 x8 H Q := by kernel_rfl
  exact wpE_ok mixed _ _ _ (e.mpr h)
def update_work_path.j13p (b : Nat) (w0 : World) (x0 : V) (x3 : V) (x4 : V) (x5 : V) (x8 : V) (x10 : Bool) (H : Hp) (Q : Rs → Hp → Prop) : Prop :=
lenE x8 fun k_231 =>
update_work_path.l14 b w0 x0 x3 x4 x5 x10 x8 (k_231 : Int) 0 H Q
theorem update_work_path.j13s (b : Nat) (w0 : World) (x0 : V) (x3 : V) (x4 : V) (x5 : V) (x8 : V) (x10 : Bool) (H : Hp) (Q : Rs → Hp → Prop) (h : update_work_path.j13p b w0 x0 x3 x4 x5 x8 x10 H Q) : update_work_path.j13 b w0 x0 x3 x4 x5 x8 x10 H Q := by
  have e : wpE (cx b w0) update_work_path.plan update_work_path.planL (cAt update_work_path.body [1, 1, 1, 1, 1, 1, 1, 1, 1, 1]) ⟨[x0, V.any, V.any, x3, x4, x5, V.any, V.any, x8, V.any, (V.bool x10), V.any, V.any, V.any, V.any, V.any, V.any, V.any, V.any, V.any, V.any, V.any, V.any, V.any, V.any, V.any, V.any, V.any, V.any, V.any, V.any, V.any, V.any, V.any, V.any, V.any, V.any, V.any, V.any, V.any, V.any, V.any, V.any, V.any, V.any, V.any, V.any, V.any, V.any, V.any, V.any, V.any, V.any, V.any, V.any, V.any, V.any, V.any, V.any, V.any, V.any, V.any, V.any, V.any, V.any, V.any, V.any, V.any, V.any, V.any, V.any, V.any, V.any, V.any, V.any, V.any, V.any, V.any, V.any, V.any, V.any, V.any, V.any, V.any, V.any, V.any, V.any, V.any, V.any, V.any, V.any, V.any, V.any, V.any, V.any, V.any, V.any, V.any, V.any, V.any, V.any, V.any, V.any, V.any, V.any, V.any, V.any, V.any, V.any, V.any, V.any, V.any, V.any, V.any, V.any, V.any, V.any, V.any, V.any, V.any, V.any, V.any, V.any, V.any, V.any, V.any, V.any, V.any, V.any, V.any, V.any, V.any, V.any, V.any, V.any, V.any, V.any, V.any, V.any, V.any, V.any, V.any, V.any, V.any, V.any, V.any, V.any, V.any, V.any, V.any, V.any, V.any, V.any], H, []⟩ (kAt (cx b w0) update_work_path.plan update_work_path.planL update_work_path.body [1, 1, 1, 1, 1, 1, 1, 1, 1, 1] (kFin prog update_work_path.res Q)) = update_work_path.j13p b w0 x0 x3 x4 x5 x8 x10 H Q := by kernel_rfl
  exact wpE_ok mixed _ _ _ (e.mpr h)
def update_work_path.l14p (b : Nat) (w0 : World) (x0 : V) (x3 : V) (x4 : V) (x5 : V) (x10 : Bool) (x85 : V) (x86 : Int) (x87 : Int) (H : Hp) (Q : Rs → Hp → Prop) : Prop :=
cnd (decide ((x87 : Int) < x86)) (
idxE 2 x85 x87 fun p_232 =>
ldE true 2 p_232 H fun v_233 =>
aggE v_233 fun l_234 =>
headE l_234 fun c_235 r_236 =>
strE c_235 fun s_237 =>
headE r_236 fun c_238 r_239 =>
strE c_238 fun s_240 =>
endE r_239 (
newE H (O.box [(V.str []), (V.str [])] 111) fun a_241 H_242 =>
stE (V.ptr a_241 0) [(V.str s_237), (V.str s_240)] H_242 fun H_243 =>
cnd (x10 == false) (
faE 8 x5 fun p_244 =>
ldE false 1 p_244 H_243 fun v_245 =>
boolE v_245 fun b_246 =>
cnd (b_246 == true) (
ldE false 1 (V.ptr a_241 (0 + 0)) H_243 fun v_247 =>
strE v_247 fun s_248 =>
faE 0 x3 fun p_249 =>
ldE false 1 p_249 H_243 fun v_250 =>
strE v_250 fun s_251 =>
Ac (cx b w0) 71 [x0, (V.str s_248), (V.str s_251)] H_243 (thenR (fun v_252 H_253 =>
boolE v_252 fun b_256 =>
update_work_path.l14 b w0 x0 x3 x4 x5 b_256 x85 x86 ((IntKind.i64.wrap (x87 + 1))) H_253 Q)
(fun v_254 H_255 => Q (Rs.pan v_254) H_255))) (
update_work_path.l14 b w0 x0 x3 x4 x5 false x85 x86 ((IntKind.i64.wrap (x87 + 1))) H_243 Q)) (
update_work_path.l14 b w0 x0 x3 x4 x5 true x85 x86 ((IntKind.i64.wrap (x87 + 1))) H_243 Q))) (
cnd (x10 == true) (
faE 4 x5 fun p_257 =>
ldE false 1 p_257 H fun v_258 =>
lenE v_258 fun k_259 =>
update_work_path.j19 b w0 x0 x3 x4 x5 x10 ((decide ((0 : Int) < (k_259 : Int)))) H Q) (
update_work_path.j19 b w0 x0 x3 x4 x5 x10 false H Q))
theorem update_work_path.l14s (b : Nat) (w0 : World) (x0 : V) (x3 : V) (x4 : V) (x5 : V) (x10 : Bool) (x85 : V) (x86 : Int) (x87 : Int) (H : Hp) (Q : Rs → Hp → Prop) (h : update_work_path.l14p b w0 x0 x3 x4 x5 x10 x85 x86 x87 H Q) : update_work_path.l14 b w0 x0 x3 x4 x5 x10 x85 x86 x87 H Q := by
  have e : wpE (cx b w0) update_work_path.plan update_work_path.planL (cAt update_work_path.body [1, 1, 1, 1, 1, 1, 1, 1, 1, 1, 0, 1, 0, 0]) ⟨[x0, V.any, V.any, x3, x4, x5, V.any, V.any, V.any, V.any, (V.bool x10), V.any, V.any, V.any, V.any, V.any, V.any, V.any, V.any, V.any, V.any, V.any, V.any, V.any, V.any, V.any, V.any, V.any, V.any, V.any, V.any, V.any, V.any, V.any, V.any, V.any, V.any, V.any, V.any, V.any, V.any, V.any, V.any, V.any, V.any, V.any, V.any, V.any, V.any, V.any, V.any, V.any, V.any, V.any, V.any, V.any, V.any, V.any, V.any, V.any, V.any, V.any, V.any, V.any, V.any, V.any, V.any, V.any, V.any, V.any, V.any, V.any, V.any, V.any, V.any, V.any, V.any, V.any, V.any, V.any, V.any, V.any, V.any, V.any, V.any, x85, (V.int .i64 x86), (V.int .i64 x87), V.any, V.any, V.any, V.any, V.any, V.any, V.any, V.any, V.any, V.any, V.any, V.any, V.any, V.any, V.any, V.any, V.any, V.any, V.any, V.any, V.any, V.any, V.any, V.any, V.any, V.any, V.any, V.any, V.any, V.any, V.any, V.any, V.any, V.any, V.any, V.any, V.any, V.any, V.any, V.any, V.any, V.any, V.any, V.any, V.any, V.any, V.any, V.any, V.any, V.any, V.any, V.any, V.any, V.any, V.any, V.any, V.any, V.any, V.any, V.any, V.any, V.any, V.any, V.any, V.any], H, []⟩ (kLoop (cx b w0) (((firstR (cAt update_work_path.body [1, 1, 1, 1, 1, 1, 1, 1, 1, 1, 0, 1, 0, 0])).bind update_work_path.planL).getD []) (cAt update_work_path.body [1, 1, 1, 1, 1, 1, 1, 1, 1, 1, 0, 1, 0, 0]) (kAt (cx b w0) update_work_path.plan update_work_path.planL update_work_path.body [1, 1, 1, 1, 1, 1, 1, 1, 1, 1, 0, 1, 0] (kFin prog update_work_path.res Q))) = update_work_path.l14p b w0 x0 x3 x4 x5 x10 x85 x86 x87 H Q := by kernel_rfl
  exact Al.round _ (wpE_ok mixed _ _ _ (e.mpr h))
def update_work_path.j23p (b : Nat) (w0 : World) (x0 : V) (x3 : V) (x4 : V) (x10 : Bool) (H : Hp) (Q : Rs → Hp → Prop) : Prop :=
nckE x0 fun v_260 =>
faE 4 v_260 fun p_261 =>
ldE false 1 p_261 H fun v_262 =>
faE 0 x3 fun p_263 =>
ldE false 1 p_263 H fun v_264 =>
strE v_264 fun s_265 =>
nckE x0 fun v_266 =>
faE 3 v_266 fun p_267 =>
ldE false 1 p_267 H fun v_268 =>
faE 0 x3 fun p_269 =>
ldE false 1 p_269 H fun v_270 =>
strE v_270 fun s_271 =>
entE v_262 s_265 (V.bool false) H fun v_272 n_273 H_274 =>
((ldE false 1 p_269 H_274 fun v_275 =>
strE v_275 fun s_276 =>
((V.str s_276) = (V.str s_271))) ∧
esE v_262 (V.stamp n_273 s_265) (V.bool x10) H_274 fun H_277 =>
((ldE false 1 p_269 H_277 fun v_278 =>
strE v_278 fun s_279 =>
((V.str s_279) = (V.str s_271))) ∧
entE v_268 s_271 (V.int .i64 0) H_277 fun v_280 n_281 H_282 =>
esE v_268 (V.stamp n_281 s_271) (V.int .i64 2) H_282 fun H_283 =>
stE x4 [(V.int .i64 0), (V.str []), (V.int .i64 0)] H_283 fun H_284 =>
ldE true 3 x4 H_284 fun v_285 =>
aggE v_285 fun l_286 =>
headE l_286 fun c_287 r_288 =>
intK .i64 c_287 fun n_289 =>
headE r_288 fun c_290 r_291 =>
strE c_290 fun s_292 =>
headE r_291 fun c_293 r_294 =>
intK .i64 c_293 fun n_295 =>
endE r_294 (
Q (Rs.ret (V.agg [(V.int .i64 n_289), (V.str s_292), (V.int .i64 n_295)])) H_284)))
theorem update_work_path.j23s (b : Nat) (w0 : World) (x0 : V) (x3 : V) (x4 : V) (x10 : Bool) (H : Hp) (Q : Rs → Hp → Prop) (h : update_work_path.j23p b w0 x0 x3 x4 x10 H Q) : update_work_path.j23 b w0 x0 x3 x4 x10 H Q := by
  have e : wpE (cx b w0) update_work_path.plan update_work_path.planL (cAt update_work_path.body [1, 1, 1, 1, 1, 1, 1, 1, 1, 1, 1, 1]) ⟨[x0, V.any, V.any, x3, x4, V.any, V.any, V.any, V.any, V.any, (V.bool x10), V.any, V.any, V.any, V.any, V.any, V.any, V.any, V.any, V.any, V.any, V.any, V.any, V.any, V.any, V.any, V.any, V.any, V.any, V.any, V.any, V.any, V.any, V.any, V.any, V.any, V.any, V.any, V.any, V.any, V.any, V.any, V.any, V.any, V.any, V.any, V.any, V.any, V.any, V.any, V.any, V.any, V.any, V.any, V.any, V.any, V.any, V.any, V.any, V.any, V.any, V.any, V.any, V.any, V.any, V.any, V.any, V.any, V.any, V.any, V.any, V.any, V.any, V.any, V.any, V.any, V.any, V.any, V.any, V.any, V.any, V.any, V.any, V.any, V.any, V.any, V.any, V.any, V.any, V.any, V.any, V.any, V.any, V.any, V.any, V.any, V.any, V.any, V.any, V.any, V.any, V.any, V.any, V.any, V.any, V.any, V.any, V.any, V.any, V.any, V.any, V.any, V.any, V.any, V.any, V.any, V.any, V.any, V.any, V.any, V.any, V.any, V.any, V.any, V.any, V.any, V.any, V.any, V.any, V.any, V.any, V.any, V.any, V.any, V.any, V.any, V.any, V.any, V.any, V.any, V.any, V.any, V.any, V.any, V.any, V.any, V.any, V.any, V.any, V.any, V.any, V.any, V.any], H, []⟩ (kAt (cx b w0) update_work_path.plan update_work_path.planL update_work_path.body [1, 1, 1, 1, 1, 1, 1, 1, 1, 1, 1, 1] (kFin prog update_work_path.res Q)) = update_work_path.j23p b w0 x0 x3 x4 x10 H Q := by kernel_rfl
  exact wpE_ok mixed _ _ _ (e.mpr h)
def update_work_path.j19p (b : Nat) (w0 : World) (x0 : V) (x3 : V) (x4 : V) (x5 : V) (x10 : Bool) (x111 : Bool) (H : Hp) (Q : Rs → Hp → Prop) : Prop :=
cnd x111 (
nckE x0 fun v_296 =>
faE 0 v_296 fun p_297 =>
ldE false 1 p_297 H fun v_298 =>
ldE true 9 x5 H fun v_299 =>
aggE v_299 fun l_300 =>
headE l_300 fun c_301 r_302 =>
strE c_301 fun s_303 =>
headE r_302 fun c_304 r_305 =>
strE c_304 fun s_306 =>
headE r_305 fun c_307 r_308 =>
headE r_308 fun c_309 r_310 =>
headE r_310 fun c_311 r_312 =>
headE r_312 fun c_313 r_314 =>
strE c_313 fun s_315 =>
headE r_314 fun c_316 r_317 =>
intK .i64 c_316 fun n_318 =>
headE r_317 fun c_319 r_320 =>
boolE c_319 fun b_321 =>
headE r_320 fun c_322 r_323 =>
boolE c_322 fun b_324 =>
endE r_323 (
((invE prog v_298 "Make" fun g_325 fx_326 => (callE (cx b w0) g_325 (fx_326 :: [(V.agg [(V.str s_303), (V.str s_306), c_307, c_309, c_311, (V.str s_315), (V.int .i64 n_318), (V.bool b_321), (V.bool b_324)])]) H (fun v_327 H_328 =>
aggE v_327 fun l_331 =>
headE l_331 fun c_332 r_333 =>
intK .i64 c_332 fun n_334 =>
headE r_333 fun c_335 r_336 =>
strE c_335 fun s_337 =>
headE r_336 fun c_338 r_339 =>
intK .i64 c_338 fun n_340 =>
endE r_339 (
newE H_328 (O.box [(V.int .i64 0), (V.str []), (V.int .i64 0)] 33) fun a_341 H_342 =>
stE (V.ptr a_341 0) [(V.int .i64 n_334), (V.str s_337), (V.int .i64 n_340)] H_342 fun H_343 =>
update_work_path.j20 b w0 x0 x3 x4 x10 (V.ptr a_341 0) H_343 Q))
(fun v_329 H_330 => Q (Rs.pan v_329) H_330))) ∧
(newE H (O.box [(V.int .i64 0), (V.str []), (V.int .i64 0)] 33) fun a_344 H_345 =>
((ldE true 9 x5 H_345 fun v_346 =>
aggE v_346 fun l_347 =>
headE l_347 fun c_348 r_349 =>
strE c_348 fun s_350 =>
headE r_349 fun c_351 r_352 =>
strE c_351 fun s_353 =>
headE r_352 fun c_354 r_355 =>
headE r_355 fun c_356 r_357 =>
headE r_357 fun c_358 r_359 =>
headE r_359 fun c_360 r_361 =>
strE c_360 fun s_362 =>
headE r_361 fun c_363 r_364 =>
intK .i64 c_363 fun n_365 =>
headE r_364 fun c_366 r_367 =>
boolE c_366 fun b_368 =>
headE r_367 fun c_369 r_370 =>
boolE c_369 fun b_371 =>
endE r_370 (
((V.agg [(V.str s_350), (V.str s_353), c_354, c_356, c_358, (V.str s_362), (V.int .i64 n_365), (V.bool b_368), (V.bool b_371)]) = (V.agg [(V.str s_303), (V.str s_306), c_307, c_309, c_311, (V.str s_315), (V.int .i64 n_318), (V.bool b_321), (V.bool b_324)])))) ∧
((ldE false 1 p_297 H_345 fun v_372 =>
(v_372 = v_298)) ∧
invE prog v_298 "Make" fun g_373 fx_374 => (callE (cx b w0) g_373 (fx_374 :: [(V.agg [(V.str s_303), (V.str s_306), c_307, c_309, c_311, (V.str s_315), (V.int .i64 n_318), (V.bool b_321), (V.bool b_324)])]) H_345 (fun v_375 H_376 =>
aggE v_375 fun l_379 =>
headE l_379 fun c_380 r_381 =>
intK .i64 c_380 fun n_382 =>
headE r_381 fun c_383 r_384 =>
strE c_383 fun s_385 =>
headE r_384 fun c_386 r_387 =>
intK .i64 c_386 fun n_388 =>
endE r_387 (
stE (V.ptr a_344 0) [(V.int .i64 n_382), (V.str s_385), (V.int .i64 n_388)] H_376 fun H_389 =>
update_work_path.j20 b w0 x0 x3 x4 x10 (V.ptr a_344 0) H_389 Q))
(fun v_377 H_378 => Q (Rs.pan v_377) H_378)))))))) (
update_work_path.j23 b w0 x0 x3 x4 x10 H Q)
theorem update_work_path.j19s (b : Nat) (w0 : World) (x0 : V) (x3 : V) (x4 : V) (x5 : V) (x10 : Bool) (x111 : Bool) (H : Hp) (Q : Rs → Hp → Prop) (h : update_work_path.j19p b w0 x0 x3 x4 x5 x10 x111 H Q) : update_work_path.j19 b w0 x0 x3 x4 x5 x10 x111 H Q := by
  have e : wpE (cx b w0) update_work_path.plan update_work_path.planL (cAt update_work_path.body [1, 1, 1, 1, 1, 1, 1, 1, 1, 1, 1, 0, 1]) ⟨[x0, V.any, V.any, x3, x4, x5, V.any, V.any, V.any, V.any, (V.bool x10), V.any, V.any, V.any, V.any, V.any, V.any, V.any, V.any, V.any, V.any, V.any, V.any, V.any, V.any, V.any, V.any, V.any, V.any, V.any, V.any, V.any, V.any, V.any, V.any, V.any, V.any, V.any, V.any, V.any, V.any, V.any, V.any, V.any, V.any, V.any, V.any, V.any, V.any, V.any, V.any, V.any, V.any, V.any, V.any, V.any, V.any, V.any, V.any, V.any, V.any, V.any, V.any, V.any, V.any, V.any, V.any, V.any, V.any, V.any, V.any, V.any, V.any, V.any, V.any, V.any, V.any, V.any, V.any, V.any, V.any, V.any, V.any, V.any, V.any, V.any, V.any, V.any, V.any, V.any, V.any, V.any, V.any, V.any, V.any, V.any, V.any, V.any, V.any, V.any, V.any, V.any, V.any, V.any, V.any, V.any, V.any, V.any, V.any, V.any, V.any, (V.bool x111), V.any, V.any, V.any, V.any, V.any, V.any, V.any, V.any, V.any, V.any, V.any, V.any, V.any, V.any, V.any, V.any, V.any, V.any, V.any, V.any, V.any, V.any, V.any, V.any, V.any, V.any, V.any, V.any, V.any, V.any, V.any, V.any, V.any, V.any, V.any, V.any, V.any, V.any, V.any, V.any, V.any], H, []⟩ (kAt (cx b w0) update_work_path.plan update_work_path.planL update_work_path.body [1, 1, 1, 1, 1, 1, 1, 1, 1, 1, 1, 0, 1] (kFin prog update_work_path.res Q)) = update_work_path.j19p b w0 x0 x3 x4 x5 x10 x111 H Q := by kernel_rfl
  exact wpE_ok mixed _ _ _ (e.mpr h)
def update_work_path.j22p (b : Nat) (w0 : World) (x0 : V) (x3 : V) (x4 : V) (x10 : Bool) (H : Hp) (Q : Rs → Hp → Prop) : Prop :=
nckE x0 fun v_390 =>
faE 1 v_390 fun p_391 =>
faE 0 p_391 fun p_392 =>
ldE false 1 p_392 H fun v_393 =>
faE 0 x3 fun p_394 =>
ldE false 1 p_394 H fun v_395 =>
strE v_395 fun s_396 =>
newE H (O.tip (1 * 1) 9) fun a_397 H_398 =>
((ldE false 1 p_392 H_398 fun v_399 =>
(v_399 = v_393)) ∧
appE 1 9 v_393 [(V.str s_396)] H_398 fun v_400 H_401 =>
nckE x0 fun v_402 =>
faE 1 v_402 fun p_403 =>
faE 0 p_403 fun p_404 =>
oneE v_400 (
stE p_404 [v_400] H_401 fun H_405 =>
update_work_path.j23 b w0 x0 x3 x4 x10 H_405 Q))
theorem update_work_path.j22s (b : Nat) (w0 : World) (x0 : V) (x3 : V) (x4 : V) (x10 : Bool) (H : Hp) (Q : Rs → Hp → Prop) (h : update_work_path.j22p b w0 x0 x3 x4 x10 H Q) : update_work_path.j22 b w0 x0 x3 x4 x10 H Q := by
  have e : wpE (cx b w0) update_work_path.plan update_work_path.planL (cAt update_work_path.body [1, 1, 1, 1, 1, 1, 1, 1, 1, 1, 1, 0, 1, 0, 1]) ⟨[x0, V.any, V.any, x3, x4, V.any, V.any, V.any, V.any, V.any, (V.bool x10), V.any, V.any, V.any, V.any, V.any, V.any, V.any, V.any, V.any, V.any, V.any, V.any, V.any, V.any, V.any, V.any, V.any, V.any, V.any, V.any, V.any, V.any, V.any, V.any, V.any, V.any, V.any, V.any, V.any, V.any, V.any, V.any, V.any, V.any, V.any, V.any, V.any, V.any, V.any, V.any, V.any, V.any, V.any, V.any, V.any, V.any, V.any, V.any, V.any, V.any, V.any, V.any, V.any, V.any, V.any, V.any, V.any, V.any, V.any, V.any, V.any, V.any, V.any, V.any, V.any, V.any, V.any, V.any, V.any, V.any, V.any, V.any, V.any, V.any, V.any, V.any, V.any, V.any, V.any, V.any, V.any, V.any, V.any, V.any, V.any, V.any, V.any, V.any, V.any, V.any, V.any, V.any, V.any, V.any, V.any, V.any, V.any, V.any, V.any, V.any, V.any, V.any, V.any, V.any, V.any, V.any, V.any, V.any, V.any, V.any, V.any, V.any, V.any, V.any, V.any, V.any, V.any, V.any, V.any, V.any, V.any, V.any, V.any, V.any, V.any, V.any, V.any, V.any, V.any, V.any, V.any, V.any, V.any, V.any, V.any, V.any, V.any, V.any, V.any, V.any, V.any, V.any], H, []⟩ (kAt (cx b w0) update_work_path.plan update_work_path.planL update_work_path.body [1, 1, 1, 1, 1, 1, 1, 1, 1, 1, 1, 0, 1, 0, 1] (kFin prog update_work_path.res Q)) = update_work_path.j22p b w0 x0 x3 x4 x10 H Q := by kernel_rfl
  exact wpE_ok mixed _ _ _ (e.mpr h)
def update_work_path.j20p (b : Nat) (w0 : World) (x0 : V) (x3 : V) (x4 : V) (x10 : Bool) (x13 : V) (H : Hp) (Q : Rs → Hp → Prop) : Prop :=
faE 0 x13 fun p_406 =>
ldE false 1 p_406 H fun v_407 =>
intK .i64 v_407 fun n_408 =>
cnd (!decide ((n_408 : Int) = 0)) (
ldE true 3 x13 H fun v_409 =>
aggE v_409 fun l_410 =>
headE l_410 fun c_411 r_412 =>
intK .i64 c_411 fun n_413 =>
headE r_412 fun c_414 r_415 =>
strE c_414 fun s_416 =>
headE r_415 fun c_417 r_418 =>
intK .i64 c_417 fun n_419 =>
endE r_418 (
stE x4 [(V.int .i64 n_413), (V.str s_416), (V.int .i64 n_419)] H fun H_420 =>
ldE true 3 x4 H_420 fun v_421 =>
aggE v_421 fun l_422 =>
headE l_422 fun c_423 r_424 =>
intK .i64 c_423 fun n_425 =>
headE r_424 fun c_426 r_427 =>
strE c_426 fun s_428 =>
headE r_427 fun c_429 r_430 =>
intK .i64 c_429 fun n_431 =>
endE r_430 (
Q (Rs.ret (V.agg [(V.int .i64 n_425), (V.str s_428), (V.int .i64 n_431)])) H_420))) (
update_work_path.j22 b w0 x0 x3 x4 x10 H Q)
theorem update_work_path.j20s (b : Nat) (w0 : World) (x0 : V) (x3 : V) (x4 : V) (x10 : Bool) (x13 : V) (H : Hp) (Q : Rs → Hp → Prop) (h : update_work_path.j20p b w0 x0 x3 x4 x10 x13 H Q) : update_work_path.j20 b w0 x0 x3 x4 x10 x13 H Q := by
  have e : wpE (cx b w0) update_work_path.plan update_work_path.planL (cAt update_work_path.body [1, 1, 1, 1, 1, 1, 1, 1, 1, 1, 1, 0, 1, 0, 0, 1]) ⟨[x0, V.any, V.any, x3, x4, V.any, V.any, V.any, V.any, V.any, (V.bool x10), V.any, V.any, x13, V.any, V.any, V.any, V.any, V.any, V.any, V.any, V.any, V.any, V.any, V.any, V.any, V.any, V.any, V.any, V.any, V.any, V.any, V.any, V.any, V.any, V.any, V.any, V.any, V.any, V.any, V.any, V.any, V.any, V.any, V.any, V.any, V.any, V.any, V.any, V.any, V.any, V.any, V.any, V.any, V.any, V.any, V.any, V.any, V.any, V.any, V.any, V.any, V.any, V.any, V.any, V.any, V.any, V.any, V.any, V.any, V.any, V.any, V.any, V.any, V.any, V.any, V.any, V.any, V.any, V.any, V.any, V.any, V.any, V.any, V.any, V.any, V.any, V.any, V.any, V.any, V.any, V.any, V.any, V.any, V.any, V.any, V.any, V.any, V.any, V.any, V.any, V.any, V.any, V.any, V.any, V.any, V.any, V.any, V.any, V.any, V.any, V.any, V.any, V.any, V.any, V.any, V.any, V.any, V.any, V.any, V.any, V.any, V.any, V.any, V.any, V.any, V.any, V.any, V.any, V.any, V.any, V.any, V.any, V.any, V.any, V.any, V.any, V.any, V.any, V.any, V.any, V.any, V.any, V.any, V.any, V.any, V.any, V.any, V.any, V.any, V.any, V.any, V.any], H, []⟩ (kAt (cx b w0) update_work_path.plan update_work_path.planL update_work_path.body [1, 1, 1, 1, 1, 1, 1, 1, 1, 1, 1, 0, 1, 0, 0, 1] (kFin prog update_work_path.res Q)) = update_work_path.j20p b w0 x0 x3 x4 x10 x13 H Q := by kernel_rfl
  exact wpE_ok mixed _ _ _ (e.mpr h)
def update_work_path.p (b : Nat) (w0 : World) (a0 : V) (a1_0 : List UInt8) (a1_1 : List UInt8) (H : Hp) (Q : Rs → Hp → Prop) : Prop :=
newE H (O.box [(V.str a1_0), (V.str a1_1)] 111) fun a_432 H_433 =>
newE H_433 (O.box [(V.int .i64 0), (V.str []), (V.int .i64 0)] 33) fun a_434 H_435 =>
nckE a0 fun v_436 =>
faE 3 v_436 fun p_437 =>
ldE false 1 p_437 H_435 fun v_438 =>
ldE false 1 (V.ptr a_432 (0 + 0)) H_435 fun v_439 =>
strE v_439 fun s_440 =>
lkE v_438 s_440 (V.int .i64 0) H_435 fun v_441 b_442 =>
intK .i64 v_441 fun n_443 =>
cnd (decide ((n_443 : Int) = 2)) (
stE (V.ptr a_434 0) [(V.int .i64 0), (V.str []), (V.int .i64 0)] H_435 fun H_444 =>
ldE true 3 (V.ptr a_434 0) H_444 fun v_445 =>
aggE v_445 fun l_446 =>
headE l_446 fun c_447 r_448 =>
intK .i64 c_447 fun n_449 =>
headE r_448 fun c_450 r_451 =>
strE c_450 fun s_452 =>
headE r_451 fun c_453 r_454 =>
intK .i64 c_453 fun n_455 =>
endE r_454 (
Q (Rs.ret (V.agg [(V.int .i64 n_449), (V.str s_452), (V.int .i64 n_455)])) H_444)) (
update_work_path.j3 b w0 a0 (V.ptr a_432 0) (V.ptr a_434 0) H_435 Q)
theorem update_work_path.s (b : Nat) (w0 : World) (a0 : V) (a1_0 : List UInt8) (a1_1 : List UInt8) (H : Hp) (Q : Rs → Hp → Prop) (h : update_work_path.p b w0 a0 a1_0 a1_1 H Q) : Ac (cx b w0) 40 [a0, (V.agg [(V.str a1_0), (V.str a1_1)])] H Q := by
  have e : wpE (cx b w0) update_work_path.plan update_work_path.planL update_work_path.body ⟨[a0, (V.agg [(V.str a1_0), (V.str a1_1)])] ++ List.replicate (Try.f40.ntmps - 2) .any, H, []⟩ (kFin prog update_work_path.res Q) = update_work_path.p b w0 a0 a1_0 a1_1 H Q := by kernel_rfl
  exact Ac.enter mixed (fn := Try.f40) (by kernel_rfl) (show Try.f40.body = some update_work_path.body by kernel_rfl) (e.mpr h)

/-! update_work_needs -/
noncomputable def update_work_needs.body : Code := (Try.f70.body).getD .skip
noncomputable def update_work_needs.res : List ResultVar := Try.f70.results.toList
def update_work_needs.plan : Plan := planOf [(13, [5, 6]), (3, [0, 3, 5, 6, 15, 16, 17]), (7, [0, 3, 5, 6, 7, 8, 15, 16, 17]), (6, [0, 3, 5, 6, 7, 8, 15, 16, 17, 29])]
def update_work_needs.planL : Plan := planOf [(3, [0, 3, 5, 6, 15, 16, 17])]
def update_work_needs.j13 (b : Nat) (w0 : World) (x5 : V) (x6 : V) (H : Hp) (Q : Rs → Hp → Prop) : Prop := Aw (cx b w0) (cAt update_work_needs.body [1, 1, 1]) ⟨[V.any, V.any, V.any, V.any, V.any, x5, x6, V.any, V.any, V.any, V.any, V.any, V.any, V.any, V.any, V.any, V.any, V.any, V.any, V.any, V.any, V.any, V.any, V.any, V.any, V.any, V.any, V.any, V.any, V.any, V.any, V.any, V.any, V.any, V.any, V.any, V.any, V.any, V.any, V.any, V.any, V.any, V.any, V.any, V.any, V.any, V.any, V.any, V.any, V.any, V.any, V.any, V.any, V.any, V.any, V.any, V.any, V.any, V.any, V.any, V.any, V.any, V.any, V.any, V.any, V.any], H, []⟩ (kAt (cx b w0) update_work_needs.plan update_work_needs.planL update_work_needs.body [1, 1, 1] (kFin prog update_work_needs.res Q))
def update_work_needs.j3 (b : Nat) (w0 : World) (x0 : V) (x3 : V) (x5 : V) (x6 : V) (x15 : V) (x16 : Int) (x17 : Int) (H : Hp) (Q : Rs → Hp → Prop) : Prop := Aw (cx b w0) (cAt update_work_needs.body [1, 1, 0, 1]) ⟨[x0, V.any, V.any, x3, V.any, x5, x6, V.any, V.any, V.any, V.any, V.any, V.any, V.any, V.any, x15, (V.int .i64 x16), (V.int .i64 x17), V.any, V.any, V.any, V.any, V.any, V.any, V.any, V.any, V.any, V.any, V.any, V.any, V.any, V.any, V.any, V.any, V.any, V.any, V.any, V.any, V.any, V.any, V.any, V.any, V.any, V.any, V.any, V.any, V.any, V.any, V.any, V.any, V.any, V.any, V.any, V.any, V.any, V.any, V.any, V.any, V.any, V.any, V.any, V.any, V.any, V.any, V.any, V.any], H, []⟩ (kAt (cx b w0) update_work_needs.plan update_work_needs.planL update_work_needs.body [1, 1, 0, 1] (kFin prog update_work_needs.res Q))
def update_work_needs.l3 (b : Nat) (w0 : World) (x0 : V) (x3 : V) (x5 : V) (x6 : V) (x15 : V) (x16 : Int) (x17 : Int) (H : Hp) (Q : Rs → Hp → Prop) : Prop := Al (cx b w0) (cAt update_work_needs.body [1, 1, 0, 1, 0, 0]) ⟨[x0, V.any, V.any, x3, V.any, x5, x6, V.any, V.any, V.any, V.any, V.any, V.any, V.any, V.any, x15, (V.int .i64 x16), (V.int .i64 x17), V.any, V.any, V.any, V.any, V.any, V.any, V.any, V.any, V.any, V.any, V.any, V.any, V.any, V.any, V.any, V.any, V.any, V.any, V.any, V.any, V.any, V.any, V.any, V.any, V.any, V.any, V.any, V.any, V.any, V.any, V.any, V.any, V.any, V.any, V.any, V.any, V.any, V.any, V.any, V.any, V.any, V.any, V.any, V.any, V.any, V.any, V.any, V.any], H, []⟩ (kAt (cx b w0) update_work_needs.plan update_work_needs.planL update_work_needs.body [1, 1, 0, 1, 0] (kFin prog update_work_needs.res Q))
def update_work_needs.j7 (b : Nat) (w0 : World) (x0 : V) (x3 : V) (x5 : V) (x6 : V) (x7 : Int) (x8 : V) (x15 : V) (x16 : Int) (x17 : Int) (H : Hp) (Q : Rs → Hp → Prop) : Prop := Aw (cx b w0) (cAt update_work_needs.body [1, 1, 0, 1, 0, 0, 1, 1, 0, 0, 1, 1]) ⟨[x0, V.any, V.any, x3, V.any, x5, x6, (V.int .i64 x7), x8, V.any, V.any, V.any, V.any, V.any, V.any, x15, (V.int .i64 x16), (V.int .i64 x17), V.any, V.any, V.any, V.any, V.any, V.any, V.any, V.any, V.any, V.any, V.any, V.any, V.any, V.any, V.any, V.any, V.any, V.any, V.any, V.any, V.any, V.any, V.any, V.any, V.any, V.any, V.any, V.any, V.any, V.any, V.any, V.any, V.any, V.any, V.any, V.any, V.any, V.any, V.any, V.any, V.any, V.any, V.any, V.any, V.any, V.any, V.any, V.any], H, []⟩ (kAt (cx b w0) update_work_needs.plan update_work_needs.planL update_work_needs.body [1, 1, 0, 1, 0, 0, 1, 1, 0, 0, 1, 1] (kFin prog update_work_needs.res Q))
def update_work_needs.j6 (b : Nat) (w0 : World) (x0 : V) (x3 : V) (x5 : V) (x6 : V) (x7 : Int) (x8 : V) (x15 : V) (x16 : Int) (x17 : Int) (x29 : Bool) (H : Hp) (Q : Rs → Hp → Prop) : Prop := Aw (cx b w0) (cAt update_work_needs.body [1, 1, 0, 1, 0, 0, 1, 1, 0, 0, 1, 0, 1]) ⟨[x0, V.any, V.any, x3, V.any, x5, x6, (V.int .i64 x7), x8, V.any, V.any, V.any, V.any, V.any, V.any, x15, (V.int .i64 x16), (V.int .i64 x17), V.any, V.any, V.any, V.any, V.any, V.any, V.any, V.any, V.any, V.any, V.any, (V.bool x29), V.any, V.any, V.any, V.any, V.any, V.any, V.any, V.any, V.any, V.any, V.any, V.any, V.any, V.any, V.any, V.any, V.any, V.any, V.any, V.any, V.any, V.any, V.any, V.any, V.any, V.any, V.any, V.any, V.any, V.any, V.any, V.any, V.any, V.any, V.any, V.any], H, []⟩ (kAt (cx b w0) update_work_needs.plan update_work_needs.planL update_work_needs.body [1, 1, 0, 1, 0, 0, 1, 1, 0, 0, 1, 0, 1] (kFin prog update_work_needs.res Q))
def update_work_needs.j13p (b : Nat) (w0 : World) (x5 : V) (x6 : V) (H : Hp) (Q : Rs → Hp → Prop) : Prop :=
stE x5 [(V.int .i64 0), (V.str []), (V.int .i64 0)] H fun H_1 =>
ldE true 3 x5 H_1 fun v_2 =>
aggE v_2 fun l_3 =>
headE l_3 fun c_4 r_5 =>
intK .i64 c_4 fun n_6 =>
headE r_5 fun c_7 r_8 =>
strE c_7 fun s_9 =>
headE r_8 fun c_10 r_11 =>
intK .i64 c_10 fun n_12 =>
endE r_11 (
Q (Rs.ret (V.tuple [x6, (V.agg [(V.int .i64 n_6), (V.str s_9), (V.int .i64 n_12)])])) H_1)
theorem update_work_needs.j13s (b : Nat) (w0 : World) (x5 : V) (x6 : V) (H : Hp) (Q : Rs → Hp → Prop) (h : update_work_needs.j13p b w0 x5 x6 H Q) : update_work_needs.j13 b w0 x5 x6 H Q := by
  have e : wpE (cx b w0) update_work_needs.plan update_work_needs.planL (cAt update_work_needs.body [1, 1, 1]) ⟨[V.any, V.any, V.any, V.any, V.any, x5, x6, V.any, V.any, V.any, V.any, V.any, V.any, V.any, V.any, V.any, V.any, V.any, V.any, V.any, V.any, V.any, V.any, V.any, V.any, V.any, V.any, V.any, V.any, V.any, V.any, V.any, V.any, V.any, V.any, V.any, V.any, V.any, V.any, V.any, V.any, V.any, V.any, V.any, V.any, V.any, V.any, V.any, V.any, V.any, V.any, V.any, V.any, V.any, V.any, V.any, V.any, V.any, V.any, V.any, V.any, V.any, V.any, V.any, V.any, V.any], H, []⟩ (kAt (cx b w0) update_work_needs.plan update_work_needs.planL update_work_needs.body [1, 1, 1] (kFin prog update_work_needs.res Q)) = update_work_needs.j13p b w0 x5 x6 H Q := by kernel_rfl
  exact wpE_ok mixed _ _ _ (e.mpr h)
def update_work_needs.j3p (b : Nat) (w0 : World) (x0 : V) (x3 : V) (x5 : V) (x6 : V) (x15 : V) (x16 : Int) (x17 : Int) (H : Hp) (Q : Rs → Hp → Prop) : Prop :=
update_work_needs.l3 b w0 x0 x3 x5 x6 x15 x16 x17 H Q
theorem update_work_needs.j3s (b : Nat) (w0 : World) (x0 : V) (x3 : V) (x5 : V) (x6 : V) (x15 : V) (x16 : Int) (x17 : Int) (H : Hp) (Q : Rs → Hp → Prop) (h : update_work_needs.j3p b w0 x0 x3 x5 x6 x15 x16 x17 H Q) : update_work_needs.j3 b w0 x0 x3 x5 x6 x15 x16 x17 H Q := by
  have e : wpE (cx b w0) update_work_needs.plan update_work_needs.planL (cAt update_work_needs.body [1, 1, 0, 1]) ⟨[x0, V.any, V.any, x3, V.any, x5, x6, V.any, V.any, V.any, V.any, V.any, V.any, V.any, V.any, x15, (V.int .i64 x16), (V.int .i64 x17), V.any, V.any, V.any, V.any, V.any, V.any, V.any, V.any, V.any, V.any, V.any, V.any, V.any, V.any, V.any, V.any, V.any, V.any, V.any, V.any, V.any, V.any, V.any, V.any, V.any, V.any, V.any, V.any, V.any, V.any, V.any, V.any, V.any, V.any, V.any, V.any, V.any, V.any, V.any, V.any, V.any, V.any, V.any, V.any, V.any, V.any, V.any, V.any], H, []⟩ (kAt (cx b w0) update_work_needs.plan update_work_needs.planL update_work_needs.body [1, 1, 0, 1] (kFin prog update_work_needs.res Q)) = update_work_needs.j3p b w0 x0 x3 x5 x6 x15 x16 x17 H Q := by kernel_rfl
  exact wpE_ok mixed _ _ _ (e.mpr h)
def update_work_needs.l3p (b : Nat) (w0 : World) (x0 : V) (x3 : V) (x5 : V) (x6 : V) (x15 : V) (x16 : Int) (x17 : Int) (H : Hp) (Q : Rs → Hp → Prop) : Prop :=
cnd (decide ((x17 : Int) < x16)) (
idxE 2 x15 x17 fun p_13 =>
ldE true 2 p_13 H fun v_14 =>
aggE v_14 fun l_15 =>
headE l_15 fun c_16 r_17 =>
strE c_16 fun s_18 =>
headE r_17 fun c_19 r_20 =>
strE c_19 fun s_21 =>
endE r_20 (
newE H (O.box [(V.str []), (V.str [])] 111) fun a_22 H_23 =>
stE (V.ptr a_22 0) [(V.str s_18), (V.str s_21)] H_23 fun H_24 =>
nckE x0 fun v_25 =>
faE 3 v_25 fun p_26 =>
ldE false 1 p_26 H_24 fun v_27 =>
ldE false 1 (V.ptr a_22 (0 + 0)) H_24 fun v_28 =>
strE v_28 fun s_29 =>
lkE v_27 s_29 (V.int .i64 0) H_24 fun v_30 b_31 =>
intK .i64 v_30 fun n_32 =>
update_work_needs.j6 b w0 x0 x3 x5 x6 x17 (V.ptr a_22 0) x15 x16 x17 ((decide ((n_32 : Int) = 1))) H_24 Q)) (
update_work_needs.j13 b w0 x5 x6 H Q)
theorem update_work_needs.l3s (b : Nat) (w0 : World) (x0 : V) (x3 : V) (x5 : V) (x6 : V) (x15 : V) (x16 : Int) (x17 : Int) (H : Hp) (Q : Rs → Hp → Prop) (h : update_work_needs.l3p b w0 x0 x3 x5 x6 x15 x16 x17 H Q) : update_work_needs.l3 b w0 x0 x3 x5 x6 x15 x16 x17 H Q := by
  have e : wpE (cx b w0) update_work_needs.plan update_work_needs.planL (cAt update_work_needs.body [1, 1, 0, 1, 0, 0]) ⟨[x0, V.any, V.any, x3, V.any, x5, x6, V.any, V.any, V.any, V.any, V.any, V.any, V.any, V.any, x15, (V.int .i64 x16), (V.int .i64 x17), V.any, V.any, V.any, V.any, V.any, V.any, V.any, V.any, V.any, V.any, V.any, V.any, V.any, V.any, V.any, V.any, V.any, V.any, V.any, V.any, V.any, V.any, V.any, V.any, V.any, V.any, V.any, V.any, V.any, V.any, V.any, V.any, V.any, V.any, V.any, V.any, V.any, V.any, V.any, V.any, V.any, V.any, V.any, V.any, V.any, V.any, V.any, V.any], H, []⟩ (kLoop (cx b w0) (((firstR (cAt update_work_needs.body [1, 1, 0, 1, 0, 0])).bind update_work_needs.planL).getD []) (cAt update_work_needs.body [1, 1, 0, 1, 0, 0]) (kAt (cx b w0) update_work_needs.plan update_work_needs.planL update_work_needs.body [1, 1, 0, 1, 0] (kFin prog update_work_needs.res Q))) = update_work_needs.l3p b w0 x0 x3 x5 x6 x15 x16 x17 H Q := by kernel_rfl
  exact Al.round _ (wpE_ok mixed _ _ _ (e.mpr h))
def update_work_needs.j7p (b : Nat) (w0 : World) (x0 : V) (x3 : V) (x5 : V) (x6 : V) (x7 : Int) (x8 : V) (x15 : V) (x16 : Int) (x17 : Int) (H : Hp) (Q : Rs → Hp → Prop) : Prop :=
ldE true 2 x8 H fun v_33 =>
aggE v_33 fun l_34 =>
headE l_34 fun c_35 r_36 =>
strE c_35 fun s_37 =>
headE r_36 fun c_38 r_39 =>
strE c_38 fun s_40 =>
endE r_39 (
Ac (cx b w0) 40 [x0, (V.agg [(V.str s_37), (V.str s_40)])] H (thenR (fun v_41 H_42 =>
aggE v_41 fun l_45 =>
headE l_45 fun c_46 r_47 =>
intK .i64 c_46 fun n_48 =>
headE r_47 fun c_49 r_50 =>
strE c_49 fun s_51 =>
headE r_50 fun c_52 r_53 =>
intK .i64 c_52 fun n_54 =>
endE r_53 (
newE H_42 (O.box [(V.int .i64 0), (V.str []), (V.int .i64 0)] 33) fun a_55 H_56 =>
stE (V.ptr a_55 0) [(V.int .i64 n_48), (V.str s_51), (V.int .i64 n_54)] H_56 fun H_57 =>
ldE false 1 (V.ptr a_55 (0 + 0)) H_57 fun v_58 =>
intK .i64 v_58 fun n_59 =>
cnd (!decide ((n_59 : Int) = 0)) (
ldE true 3 (V.ptr a_55 0) H_57 fun v_60 =>
aggE v_60 fun l_61 =>
headE l_61 fun c_62 r_63 =>
intK .i64 c_62 fun n_64 =>
headE r_63 fun c_65 r_66 =>
strE c_65 fun s_67 =>
headE r_66 fun c_68 r_69 =>
intK .i64 c_68 fun n_70 =>
endE r_69 (
stE x5 [(V.int .i64 n_64), (V.str s_67), (V.int .i64 n_70)] H_57 fun H_71 =>
ldE true 3 x5 H_71 fun v_72 =>
aggE v_72 fun l_73 =>
headE l_73 fun c_74 r_75 =>
intK .i64 c_74 fun n_76 =>
headE r_75 fun c_77 r_78 =>
strE c_77 fun s_79 =>
headE r_78 fun c_80 r_81 =>
intK .i64 c_80 fun n_82 =>
endE r_81 (
Q (Rs.ret (V.tuple [V.nilsl, (V.agg [(V.int .i64 n_76), (V.str s_79), (V.int .i64 n_82)])])) H_71))) (
faE 2 x3 fun p_83 =>
ldE false 1 p_83 H_57 fun v_84 =>
lenE v_84 fun k_85 =>
cnd (decide ((x7 : Int) < (k_85 : Int))) (
ldE true 2 x8 H_57 fun v_86 =>
aggE v_86 fun l_87 =>
headE l_87 fun c_88 r_89 =>
strE c_88 fun s_90 =>
headE r_89 fun c_91 r_92 =>
strE c_91 fun s_93 =>
endE r_92 (
newE H_57 (O.tip (1 * 2) 111) fun a_94 H_95 =>
appE 2 111 x6 [(V.agg [(V.str s_90), (V.str s_93)])] H_95 fun v_96 H_97 =>
update_work_needs.l3 b w0 x0 x3 x5 v_96 x15 x16 ((IntKind.i64.wrap (x17 + 1))) H_97 Q)) (
update_work_needs.l3 b w0 x0 x3 x5 x6 x15 x16 ((IntKind.i64.wrap (x17 + 1))) H_57 Q))))
(fun v_43 H_44 => Q (Rs.pan v_43) H_44)))
theorem update_work_needs.j7s (b : Nat) (w0 : World) (x0 : V) (x3 : V) (x5 : V) (x6 : V) (x7 : Int) (x8 : V) (x15 : V) (x16 : Int) (x17 : Int) (H : Hp) (Q : Rs → Hp → Prop) (h : update_work_needs.j7p b w0 x0 x3 x5 x6 x7 x8 x15 x16 x17 H Q) : update_work_needs.j7 b w0 x0 x3 x5 x6 x7 x8 x15 x16 x17 H Q := by
  have e : wpE (cx b w0) update_work_needs.plan update_work_needs.planL (cAt update_work_needs.body [1, 1, 0, 1, 0, 0, 1, 1, 0, 0, 1, 1]) ⟨[x0, V.any, V.any, x3, V.any, x5, x6, (V.int .i64 x7), x8, V.any, V.any, V.any, V.any, V.any, V.any, x15, (V.int .i64 x16), (V.int .i64 x17), V.any, V.any, V.any, V.any, V.any, V.any, V.any, V.any, V.any, V.any, V.any, V.any, V.any, V.any, V.any, V.any, V.any, V.any, V.any, V.any, V.any, V.any, V.any, V.any, V.any, V.any, V.any, V.any, V.any, V.any, V.any, V.any, V.any, V.any, V.any, V.any, V.any, V.any, V.any, V.any, V.any, V.any, V.any, V.any, V.any, V.any, V.any, V.any], H, []⟩ (kAt (cx b w0) update_work_needs.plan update_work_needs.planL update_work_needs.body [1, 1, 0, 1, 0, 0, 1, 1, 0, 0, 1, 1] (kFin prog update_work_needs.res Q)) = update_work_needs.j7p b w0 x0 x3 x5 x6 x7 x8 x15 x16 x17 H Q := by kernel_rfl
  exact wpE_ok mixed _ _ _ (e.mpr h)
def update_work_needs.j6p (b : Nat) (w0 : World) (x0 : V) (x3 : V) (x5 : V) (x6 : V) (x7 : Int) (x8 : V) (x15 : V) (x16 : Int) (x17 : Int) (x29 : Bool) (H : Hp) (Q : Rs → Hp → Prop) : Prop :=
cnd x29 (
nckE x0 fun v_98 =>
faE 1 v_98 fun p_99 =>
faE 1 p_99 fun p_100 =>
ldE false 1 p_100 H fun v_101 =>
faE 0 x3 fun p_102 =>
faE 0 p_102 fun p_103 =>
ldE false 1 p_103 H fun v_104 =>
strE v_104 fun s_105 =>
faE 0 x8 fun p_106 =>
ldE false 1 p_106 H fun v_107 =>
strE v_107 fun s_108 =>
newE H (O.tip (1 * 2) 46) fun a_109 H_110 =>
((ldE false 1 p_100 H_110 fun v_111 =>
(v_111 = v_101)) ∧
appE 2 46 v_101 [(V.agg [(V.str s_105), (V.str s_108)])] H_110 fun v_112 H_113 =>
nckE x0 fun v_114 =>
faE 1 v_114 fun p_115 =>
faE 1 p_115 fun p_116 =>
oneE v_112 (
stE p_116 [v_112] H_113 fun H_117 =>
update_work_needs.l3 b w0 x0 x3 x5 x6 x15 x16 ((IntKind.i64.wrap (x17 + 1))) H_117 Q))) (
update_work_needs.j7 b w0 x0 x3 x5 x6 x7 x8 x15 x16 x17 H Q)
theorem update_work_needs.j6s (b : Nat) (w0 : World) (x0 : V) (x3 : V) (x5 : V) (x6 : V) (x7 : Int) (x8 : V) (x15 : V) (x16 : Int) (x17 : Int) (x29 : Bool) (H : Hp) (Q : Rs → Hp → Prop) (h : update_work_needs.j6p b w0 x0 x3 x5 x6 x7 x8 x15 x16 x17 x29 H Q) : update_work_needs.j6 b w0 x0 x3 x5 x6 x7 x8 x15 x16 x17 x29 H Q := by
  have e : wpE (cx b w0) update_work_needs.plan update_work_needs.planL (cAt update_work_needs.body [1, 1, 0, 1, 0, 0, 1, 1, 0, 0, 1, 0, 1]) ⟨[x0, V.any, V.any, x3, V.any, x5, x6, (V.int .i64 x7), x8, V.any, V.any, V.any, V.any, V.any, V.any, x15, (V.int .i64 x16), (V.int .i64 x17), V.any, V.any, V.any, V.any, V.any, V.any, V.any, V.any, V.any, V.any, V.any, (V.bool x29), V.any, V.any, V.any, V.any, V.any, V.any, V.any, V.any, V.any, V.any, V.any, V.any, V.any, V.any, V.any, V.any, V.any, V.any, V.any, V.any, V.any, V.any, V.any, V.any, V.any, V.any, V.any, V.any, V.any, V.any, V.any, V.any, V.any, V.any, V.any, V.any], H, []⟩ (kAt (cx b w0) update_work_needs.plan update_work_needs.planL update_work_needs.body [1, 1, 0, 1, 0, 0, 1, 1, 0, 0, 1, 0, 1] (kFin prog update_work_needs.res Q)) = update_work_needs.j6p b w0 x0 x3 x5 x6 x7 x8 x15 x16 x17 x29 H Q := by kernel_rfl
  exact wpE_ok mixed _ _ _ (e.mpr h)
def update_work_needs.p (b : Nat) (w0 : World) (a0 : V) (a1_0 : List UInt8) (a1_1 : List UInt8) (a1_2 : V) (a1_3 : V) (a1_4 : V) (a1_5 : List UInt8) (a1_6 : Int) (a1_7 : Bool) (a1_8 : Bool) (H : Hp) (Q : Rs → Hp → Prop) : Prop :=
newE H (O.box [(V.str a1_0), (V.str a1_1), a1_2, a1_3, a1_4, (V.str a1_5), (V.int .i64 a1_6), (V.bool a1_7), (V.bool a1_8)] 167) fun a_118 H_119 =>
newE H_119 (O.box [(V.int .i64 0), (V.str []), (V.int .i64 0)] 33) fun a_120 H_121 =>
ldE false 1 (V.ptr a_118 (0 + 2)) H_121 fun v_122 =>
ldE false 1 (V.ptr a_118 (0 + 3)) H_121 fun v_123 =>
valsE 2 v_122 fun l_124 =>
appE 2 111 V.nilsl l_124 H_121 fun v_125 H_126 =>
((ldE false 1 (V.ptr a_118 (0 + 3)) H_126 fun v_127 =>
(v_127 = v_123)) ∧
valsE 2 v_123 fun l_128 =>
appE 2 111 v_125 l_128 H_126 fun v_129 H_130 =>
lenE v_129 fun k_131 =>
update_work_needs.j3 b w0 a0 (V.ptr a_118 0) (V.ptr a_120 0) V.nilsl v_129 (k_131 : Int) 0 H_130 Q)
theorem update_work_needs.s (b : Nat) (w0 : World) (a0 : V) (a1_0 : List UInt8) (a1_1 : List UInt8) (a1_2 : V) (a1_3 : V) (a1_4 : V) (a1_5 : List UInt8) (a1_6 : Int) (a1_7 : Bool) (a1_8 : Bool) (H : Hp) (Q : Rs → Hp → Prop) (h : update_work_needs.p b w0 a0 a1_0 a1_1 a1_2 a1_3 a1_4 a1_5 a1_6 a1_7 a1_8 H Q) : Ac (cx b w0) 70 [a0, (V.agg [(V.str a1_0), (V.str a1_1), a1_2, a1_3, a1_4, (V.str a1_5), (V.int .i64 a1_6), (V.bool a1_7), (V.bool a1_8)])] H Q := by
  have e : wpE (cx b w0) update_work_needs.plan update_work_needs.planL update_work_needs.body ⟨[a0, (V.agg [(V.str a1_0), (V.str a1_1), a1_2, a1_3, a1_4, (V.str a1_5), (V.int .i64 a1_6), (V.bool a1_7), (V.bool a1_8)])] ++ List.replicate (Try.f70.ntmps - 2) .any, H, []⟩ (kFin prog update_work_needs.res Q) = update_work_needs.p b w0 a0 a1_0 a1_1 a1_2 a1_3 a1_4 a1_5 a1_6 a1_7 a1_8 H Q := by kernel_rfl
  exact Ac.enter mixed (fn := Try.f70) (by kernel_rfl) (show Try.f70.body = some update_work_needs.body by kernel_rfl) (e.mpr h)

/-! update_work_newer -/
noncomputable def update_work_newer.body : Code := (Try.f71.body).getD .skip
noncomputable def update_work_newer.res : List ResultVar := Try.f71.results.toList
def update_work_newer.plan : Plan := planOf []
def update_work_newer.planL : Plan := planOf []
def update_work_newer.p (b : Nat) (w0 : World) (a0 : V) (a1 : List UInt8) (a2 : List UInt8) (H : Hp) (Q : Rs → Hp → Prop) : Prop :=
nckE a0 fun v_1 =>
faE 0 v_1 fun p_2 =>
ldE false 1 p_2 H fun v_3 =>
invE prog v_3 "Time" fun g_4 fx_5 => (callE (cx b w0) g_4 (fx_5 :: [(V.str a1)]) H (fun v_6 H_7 =>
tupE v_6 fun l_10 =>
headE l_10 fun c_11 r_12 =>
intK .i64 c_11 fun n_13 =>
headE r_12 fun c_14 r_15 =>
boolE c_14 fun b_16 =>
endE r_15 (
nckE a0 fun v_17 =>
faE 0 v_17 fun p_18 =>
ldE false 1 p_18 H_7 fun v_19 =>
invE prog v_19 "Time" fun g_20 fx_21 => (callE (cx b w0) g_20 (fx_21 :: [(V.str a2)]) H_7 (fun v_22 H_23 =>
tupE v_22 fun l_26 =>
headE l_26 fun c_27 r_28 =>
intK .i64 c_27 fun n_29 =>
headE r_28 fun c_30 r_31 =>
boolE c_30 fun b_32 =>
endE r_31 (
nckE a0 fun v_33 =>
faE 4 v_33 fun p_34 =>
ldE false 1 p_34 H_23 fun v_35 =>
lkE v_35 a1 (V.bool false) H_23 fun v_36 b_37 =>
boolE v_36 fun b_38 =>
cnd (b_38 == false) (
cnd (b_16 == true) (
cnd (b_32 == true) (
Q (Rs.ret (V.bool (decide ((n_29 : Int) < n_13)))) H_23) (
Q (Rs.ret (V.bool false)) H_23)) (
Q (Rs.ret (V.bool false)) H_23)) (
Q (Rs.ret (V.bool true)) H_23)))
(fun v_24 H_25 => Q (Rs.pan v_24) H_25))))
(fun v_8 H_9 => Q (Rs.pan v_8) H_9))
theorem update_work_newer.s (b : Nat) (w0 : World) (a0 : V) (a1 : List UInt8) (a2 : List UInt8) (H : Hp) (Q : Rs → Hp → Prop) (h : update_work_newer.p b w0 a0 a1 a2 H Q) : Ac (cx b w0) 71 [a0, (V.str a1), (V.str a2)] H Q := by
  have e : wpE (cx b w0) update_work_newer.plan update_work_newer.planL update_work_newer.body ⟨[a0, (V.str a1), (V.str a2)] ++ List.replicate (Try.f71.ntmps - 3) .any, H, []⟩ (kFin prog update_work_newer.res Q) = update_work_newer.p b w0 a0 a1 a2 H Q := by kernel_rfl
  exact Ac.enter mixed (fn := Try.f71) (by kernel_rfl) (show Try.f71.body = some update_work_newer.body by kernel_rfl) (e.mpr h)

end Go.Proofs.Ytmpheeanjjfddaa.S
