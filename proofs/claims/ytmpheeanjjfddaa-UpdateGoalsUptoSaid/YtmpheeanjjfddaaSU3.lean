import Derived.Test.YtmpheeanjjfddaaSBase
namespace Go.Proofs.Ytmpheeanjjfddaa.S
open Go Go.RowKit Go.Proofs Go.Proofs.Ytmpheeanjjfddaa.SM
set_option linter.unusedVariables false
set_option maxRecDepth 100000
/-! flatironlaw18_world_Find -/
noncomputable def flatironlaw18_world_Find.body : Code := (Try.f148.body).getD .skip
noncomputable def flatironlaw18_world_Find.res : List ResultVar := Try.f148.results.toList
def flatironlaw18_world_Find.plan : Plan := planOf [(3, [4, 5, 6])]
def flatironlaw18_world_Find.planL : Plan := planOf []
def flatironlaw18_world_Find.j3 (b : Nat) (w0 : World) (x4 : V) (x5 : V) (x6 : V) (H : Hp) (Q : Rs → Hp → Prop) : Prop := Aw (cx b w0) (cAt flatironlaw18_world_Find.body [1, 1, 1]) ⟨[V.any, V.any, V.any, V.any, x4, x5, x6, V.any, V.any, V.any, V.any, V.any, V.any, V.any, V.any, V.any, V.any, V.any, V.any, V.any, V.any, V.any, V.any, V.any, V.any, V.any, V.any, V.any, V.any, V.any], H, []⟩ (kAt (cx b w0) flatironlaw18_world_Find.plan flatironlaw18_world_Find.planL flatironlaw18_world_Find.body [1, 1, 1] (kFin prog flatironlaw18_world_Find.res Q))
def flatironlaw18_world_Find.j3p (b : Nat) (w0 : World) (x4 : V) (x5 : V) (x6 : V) (H : Hp) (Q : Rs → Hp → Prop) : Prop :=
faE 4 x5 fun p_1 =>
ldE false 1 p_1 H fun v_2 =>
boolE v_2 fun b_3 =>
cnd b_3 (
newE H (O.tip (1 * 3) 260) fun a_4 H_5 =>
faE 4 x6 fun p_6 =>
stE p_6 [(V.osl a_4 3 [(V.agg [(V.int .i64 1), (V.str [116, 114, 117, 101]), (V.bool true)])])] H_5 fun H_7 =>
ldE true 9 x6 H_7 fun v_8 =>
aggE v_8 fun l_9 =>
headE l_9 fun c_10 r_11 =>
strE c_10 fun s_12 =>
headE r_11 fun c_13 r_14 =>
strE c_13 fun s_15 =>
headE r_14 fun c_16 r_17 =>
headE r_17 fun c_18 r_19 =>
headE r_19 fun c_20 r_21 =>
headE r_21 fun c_22 r_23 =>
strE c_22 fun s_24 =>
headE r_23 fun c_25 r_26 =>
intK .i64 c_25 fun n_27 =>
headE r_26 fun c_28 r_29 =>
boolE c_28 fun b_30 =>
headE r_29 fun c_31 r_32 =>
boolE c_31 fun b_33 =>
endE r_32 (
stE x4 [(V.str s_12), (V.str s_15), c_16, c_18, c_20, (V.str s_24), (V.int .i64 n_27), (V.bool b_30), (V.bool b_33)] H_7 fun H_34 =>
ldE true 9 x4 H_34 fun v_35 =>
aggE v_35 fun l_36 =>
headE l_36 fun c_37 r_38 =>
strE c_37 fun s_39 =>
headE r_38 fun c_40 r_41 =>
strE c_40 fun s_42 =>
headE r_41 fun c_43 r_44 =>
headE r_44 fun c_45 r_46 =>
headE r_46 fun c_47 r_48 =>
headE r_48 fun c_49 r_50 =>
strE c_49 fun s_51 =>
headE r_50 fun c_52 r_53 =>
intK .i64 c_52 fun n_54 =>
headE r_53 fun c_55 r_56 =>
boolE c_55 fun b_57 =>
headE r_56 fun c_58 r_59 =>
boolE c_58 fun b_60 =>
endE r_59 (
Q (Rs.ret (V.agg [(V.str s_39), (V.str s_42), c_43, c_45, c_47, (V.str s_51), (V.int .i64 n_54), (V.bool b_57), (V.bool b_60)])) H_34))) (
ldE true 9 x6 H fun v_61 =>
aggE v_61 fun l_62 =>
headE l_62 fun c_63 r_64 =>
strE c_63 fun s_65 =>
headE r_64 fun c_66 r_67 =>
strE c_66 fun s_68 =>
headE r_67 fun c_69 r_70 =>
headE r_70 fun c_71 r_72 =>
headE r_72 fun c_73 r_74 =>
headE r_74 fun c_75 r_76 =>
strE c_75 fun s_77 =>
headE r_76 fun c_78 r_79 =>
intK .i64 c_78 fun n_80 =>
headE r_79 fun c_81 r_82 =>
boolE c_81 fun b_83 =>
headE r_82 fun c_84 r_85 =>
boolE c_84 fun b_86 =>
endE r_85 (
stE x4 [(V.str s_65), (V.str s_68), c_69, c_71, c_73, (V.str s_77), (V.int .i64 n_80), (V.bool b_83), (V.bool b_86)] H fun H_87 =>
ldE true 9 x4 H_87 fun v_88 =>
aggE v_88 fun l_89 =>
headE l_89 fun c_90 r_91 =>
strE c_90 fun s_92 =>
headE r_91 fun c_93 r_94 =>
strE c_93 fun s_95 =>
headE r_94 fun c_96 r_97 =>
headE r_97 fun c_98 r_99 =>
headE r_99 fun c_100 r_101 =>
headE r_101 fun c_102 r_103 =>
strE c_102 fun s_104 =>
headE r_103 fun c_105 r_106 =>
intK .i64 c_105 fun n_107 =>
headE r_106 fun c_108 r_109 =>
boolE c_108 fun b_110 =>
headE r_109 fun c_111 r_112 =>
boolE c_111 fun b_113 =>
endE r_112 (
Q (Rs.ret (V.agg [(V.str s_92), (V.str s_95), c_96, c_98, c_100, (V.str s_104), (V.int .i64 n_107), (V.bool b_110), (V.bool b_113)])) H_87)))
theorem flatironlaw18_world_Find.j3s (b : Nat) (w0 : World) (x4 : V) (x5 : V) (x6 : V) (H : Hp) (Q : Rs → Hp → Prop) (h : flatironlaw18_world_Find.j3p b w0 x4 x5 x6 H Q) : flatironlaw18_world_Find.j3 b w0 x4 x5 x6 H Q := by
  have e : wpE (cx b w0) flatironlaw18_world_Find.plan flatironlaw18_world_Find.planL (cAt flatironlaw18_world_Find.body [1, 1, 1]) ⟨[V.any, V.any, V.any, V.any, x4, x5, x6, V.any, V.any, V.any, V.any, V.any, V.any, V.any, V.any, V.any, V.any, V.any, V.any, V.any, V.any, V.any, V.any, V.any, V.any, V.any, V.any, V.any, V.any, V.any], H, []⟩ (kAt (cx b w0) flatironlaw18_world_Find.plan flatironlaw18_world_Find.planL flatironlaw18_world_Find.body [1, 1, 1] (kFin prog flatironlaw18_world_Find.res Q)) = flatironlaw18_world_Find.j3p b w0 x4 x5 x6 H Q := by kernel_rfl
  exact wpE_ok mixed _ _ _ (e.mpr h)
def flatironlaw18_world_Find.p (b : Nat) (w0 : World) (a0_0 : V) (a1_0 : List UInt8) (a1_1 : List UInt8) (H : Hp) (Q : Rs → Hp → Prop) : Prop :=
newE H (O.box [a0_0] 37) fun a_114 H_115 =>
newE H_115 (O.box [(V.str a1_0), (V.str a1_1)] 111) fun a_116 H_117 =>
newE H_117 (O.box [(V.str []), (V.str []), V.nilsl, V.nilsl, V.nilsl, (V.str []), (V.int .i64 0), (V.bool false), (V.bool false)] 167) fun a_118 H_119 =>
ldE false 1 (V.ptr a_114 (0 + 0)) H_119 fun v_120 =>
ldE false 1 (V.ptr a_116 (0 + 0)) H_119 fun v_121 =>
strE v_121 fun s_122 =>
Ac (cx b w0) 73 [v_120, (V.str s_122)] H_119 (thenR (fun v_123 H_124 =>
aggE v_123 fun l_127 =>
headE l_127 fun c_128 r_129 =>
strE c_128 fun s_130 =>
headE r_129 fun c_131 r_132 =>
headE r_132 fun c_133 r_134 =>
headE r_134 fun c_135 r_136 =>
boolE c_135 fun b_137 =>
headE r_136 fun c_138 r_139 =>
boolE c_138 fun b_140 =>
headE r_139 fun c_141 r_142 =>
boolE c_141 fun b_143 =>
headE r_142 fun c_144 r_145 =>
intK .i64 c_144 fun n_146 =>
headE r_145 fun c_147 r_148 =>
boolE c_147 fun b_149 =>
headE r_148 fun c_150 r_151 =>
boolE c_150 fun b_152 =>
endE r_151 (
newE H_124 (O.box [(V.str []), V.nilsl, V.nilsl, (V.bool false), (V.bool false), (V.bool false), (V.int .i64 0), (V.bool false), (V.bool false)] 48) fun a_153 H_154 =>
stE (V.ptr a_153 0) [(V.str s_130), c_131, c_133, (V.bool b_137), (V.bool b_140), (V.bool b_143), (V.int .i64 n_146), (V.bool b_149), (V.bool b_152)] H_154 fun H_155 =>
ldE true 2 (V.ptr a_116 0) H_155 fun v_156 =>
aggE v_156 fun l_157 =>
headE l_157 fun c_158 r_159 =>
strE c_158 fun s_160 =>
headE r_159 fun c_161 r_162 =>
strE c_161 fun s_163 =>
endE r_162 (
ldE false 1 (V.ptr a_153 (0 + 1)) H_155 fun v_164 =>
ldE false 1 (V.ptr a_153 (0 + 2)) H_155 fun v_165 =>
ldE false 1 (V.ptr a_153 (0 + 5)) H_155 fun v_166 =>
boolE v_166 fun b_167 =>
ldE false 1 (V.ptr a_153 (0 + 3)) H_155 fun v_168 =>
boolE v_168 fun b_169 =>
((Ac (cx b w0) 12 [v_164] H_155 (thenR (fun v_170 H_171 =>
((ldE false 1 (V.ptr a_153 (0 + 3)) H_171 fun v_174 =>
boolE v_174 fun b_175 =>
((V.bool b_175) = (V.bool b_169))) ∧
((ldE false 1 (V.ptr a_153 (0 + 5)) H_171 fun v_176 =>
boolE v_176 fun b_177 =>
((V.bool b_177) = (V.bool b_167))) ∧
((ldE false 1 (V.ptr a_153 (0 + 2)) H_171 fun v_178 =>
(v_178 = v_165)) ∧
((ldE true 2 (V.ptr a_116 0) H_171 fun v_179 =>
aggE v_179 fun l_180 =>
headE l_180 fun c_181 r_182 =>
strE c_181 fun s_183 =>
headE r_182 fun c_184 r_185 =>
strE c_184 fun s_186 =>
endE r_185 (
((V.agg [(V.str s_183), (V.str s_186)]) = (V.agg [(V.str s_160), (V.str s_163)])))) ∧
((Ac (cx b w0) 12 [v_165] H_171 (thenR (fun v_187 H_188 =>
((ldE false 1 (V.ptr a_153 (0 + 3)) H_188 fun v_191 =>
boolE v_191 fun b_192 =>
((V.bool b_192) = (V.bool b_169))) ∧
((ldE false 1 (V.ptr a_153 (0 + 5)) H_188 fun v_193 =>
boolE v_193 fun b_194 =>
((V.bool b_194) = (V.bool b_167))) ∧
((ldE true 2 (V.ptr a_116 0) H_188 fun v_195 =>
aggE v_195 fun l_196 =>
headE l_196 fun c_197 r_198 =>
strE c_197 fun s_199 =>
headE r_198 fun c_200 r_201 =>
strE c_200 fun s_202 =>
endE r_201 (
((V.agg [(V.str s_199), (V.str s_202)]) = (V.agg [(V.str s_160), (V.str s_163)])))) ∧
oneE v_170 (
oneE v_187 (
newE H_188 (O.box [(V.str []), (V.str []), V.nilsl, V.nilsl, V.nilsl, (V.str []), (V.int .i64 0), (V.bool false), (V.bool false)] 167) fun a_203 H_204 =>
((ldE false 1 (V.ptr a_153 (0 + 3)) H_204 fun v_205 =>
boolE v_205 fun b_206 =>
((V.bool b_206) = (V.bool b_169))) ∧
((ldE false 1 (V.ptr a_153 (0 + 5)) H_204 fun v_207 =>
boolE v_207 fun b_208 =>
((V.bool b_208) = (V.bool b_167))) ∧
((ldE true 2 (V.ptr a_116 0) H_204 fun v_209 =>
aggE v_209 fun l_210 =>
headE l_210 fun c_211 r_212 =>
strE c_211 fun s_213 =>
headE r_212 fun c_214 r_215 =>
strE c_214 fun s_216 =>
endE r_215 (
((V.agg [(V.str s_213), (V.str s_216)]) = (V.agg [(V.str s_160), (V.str s_163)])))) ∧
stE (V.ptr a_203 0) [(V.str s_160), (V.str s_163), v_170, v_187, V.nilsl, (V.str []), (V.int .i64 0), (V.bool b_167), (V.bool b_169)] H_204 fun H_217 =>
flatironlaw18_world_Find.j3 b w0 (V.ptr a_118 0) (V.ptr a_153 0) (V.ptr a_203 0) H_217 Q)))))))))
(fun v_189 H_190 => Q (Rs.pan v_189) H_190))) ∧
(newE H_171 (O.box [(V.str []), (V.str []), V.nilsl, V.nilsl, V.nilsl, (V.str []), (V.int .i64 0), (V.bool false), (V.bool false)] 167) fun a_218 H_219 =>
((ldE false 1 (V.ptr a_153 (0 + 3)) H_219 fun v_220 =>
boolE v_220 fun b_221 =>
((V.bool b_221) = (V.bool b_169))) ∧
((ldE false 1 (V.ptr a_153 (0 + 5)) H_219 fun v_222 =>
boolE v_222 fun b_223 =>
((V.bool b_223) = (V.bool b_167))) ∧
((ldE false 1 (V.ptr a_153 (0 + 2)) H_219 fun v_224 =>
(v_224 = v_165)) ∧
((ldE true 2 (V.ptr a_116 0) H_219 fun v_225 =>
aggE v_225 fun l_226 =>
headE l_226 fun c_227 r_228 =>
strE c_227 fun s_229 =>
headE r_228 fun c_230 r_231 =>
strE c_230 fun s_232 =>
endE r_231 (
((V.agg [(V.str s_229), (V.str s_232)]) = (V.agg [(V.str s_160), (V.str s_163)])))) ∧
Ac (cx b w0) 12 [v_165] H_219 (thenR (fun v_233 H_234 =>
((ldE false 1 (V.ptr a_153 (0 + 3)) H_234 fun v_237 =>
boolE v_237 fun b_238 =>
((V.bool b_238) = (V.bool b_169))) ∧
((ldE false 1 (V.ptr a_153 (0 + 5)) H_234 fun v_239 =>
boolE v_239 fun b_240 =>
((V.bool b_240) = (V.bool b_167))) ∧
((ldE true 2 (V.ptr a_116 0) H_234 fun v_241 =>
aggE v_241 fun l_242 =>
headE l_242 fun c_243 r_244 =>
strE c_243 fun s_245 =>
headE r_244 fun c_246 r_247 =>
strE c_246 fun s_248 =>
endE r_247 (
((V.agg [(V.str s_245), (V.str s_248)]) = (V.agg [(V.str s_160), (V.str s_163)])))) ∧
oneE v_170 (
oneE v_233 (
stE (V.ptr a_218 0) [(V.str s_160), (V.str s_163), v_170, v_233, V.nilsl, (V.str []), (V.int .i64 0), (V.bool b_167), (V.bool b_169)] H_234 fun H_249 =>
flatironlaw18_world_Find.j3 b w0 (V.ptr a_118 0) (V.ptr a_153 0) (V.ptr a_218 0) H_249 Q))))))
(fun v_235 H_236 => Q (Rs.pan v_235) H_236)))))))))))))
(fun v_172 H_173 => Q (Rs.pan v_172) H_173))) ∧
(newE H_155 (O.box [(V.str []), (V.str []), V.nilsl, V.nilsl, V.nilsl, (V.str []), (V.int .i64 0), (V.bool false), (V.bool false)] 167) fun a_250 H_251 =>
((ldE false 1 (V.ptr a_153 (0 + 3)) H_251 fun v_252 =>
boolE v_252 fun b_253 =>
((V.bool b_253) = (V.bool b_169))) ∧
((ldE false 1 (V.ptr a_153 (0 + 5)) H_251 fun v_254 =>
boolE v_254 fun b_255 =>
((V.bool b_255) = (V.bool b_167))) ∧
((ldE false 1 (V.ptr a_153 (0 + 2)) H_251 fun v_256 =>
(v_256 = v_165)) ∧
((ldE false 1 (V.ptr a_153 (0 + 1)) H_251 fun v_257 =>
(v_257 = v_164)) ∧
((ldE true 2 (V.ptr a_116 0) H_251 fun v_258 =>
aggE v_258 fun l_259 =>
headE l_259 fun c_260 r_261 =>
strE c_260 fun s_262 =>
headE r_261 fun c_263 r_264 =>
strE c_263 fun s_265 =>
endE r_264 (
((V.agg [(V.str s_262), (V.str s_265)]) = (V.agg [(V.str s_160), (V.str s_163)])))) ∧
Ac (cx b w0) 12 [v_164] H_251 (thenR (fun v_266 H_267 =>
((ldE false 1 (V.ptr a_153 (0 + 3)) H_267 fun v_270 =>
boolE v_270 fun b_271 =>
((V.bool b_271) = (V.bool b_169))) ∧
((ldE false 1 (V.ptr a_153 (0 + 5)) H_267 fun v_272 =>
boolE v_272 fun b_273 =>
((V.bool b_273) = (V.bool b_167))) ∧
((ldE false 1 (V.ptr a_153 (0 + 2)) H_267 fun v_274 =>
(v_274 = v_165)) ∧
((ldE true 2 (V.ptr a_116 0) H_267 fun v_275 =>
aggE v_275 fun l_276 =>
headE l_276 fun c_277 r_278 =>
strE c_277 fun s_279 =>
headE r_278 fun c_280 r_281 =>
strE c_280 fun s_282 =>
endE r_281 (
((V.agg [(V.str s_279), (V.str s_282)]) = (V.agg [(V.str s_160), (V.str s_163)])))) ∧
Ac (cx b w0) 12 [v_165] H_267 (thenR (fun v_283 H_284 =>
((ldE false 1 (V.ptr a_153 (0 + 3)) H_284 fun v_287 =>
boolE v_287 fun b_288 =>
((V.bool b_288) = (V.bool b_169))) ∧
((ldE false 1 (V.ptr a_153 (0 + 5)) H_284 fun v_289 =>
boolE v_289 fun b_290 =>
((V.bool b_290) = (V.bool b_167))) ∧
((ldE true 2 (V.ptr a_116 0) H_284 fun v_291 =>
aggE v_291 fun l_292 =>
headE l_292 fun c_293 r_294 =>
strE c_293 fun s_295 =>
headE r_294 fun c_296 r_297 =>
strE c_296 fun s_298 =>
endE r_297 (
((V.agg [(V.str s_295), (V.str s_298)]) = (V.agg [(V.str s_160), (V.str s_163)])))) ∧
oneE v_266 (
oneE v_283 (
stE (V.ptr a_250 0) [(V.str s_160), (V.str s_163), v_266, v_283, V.nilsl, (V.str []), (V.int .i64 0), (V.bool b_167), (V.bool b_169)] H_284 fun H_299 =>
flatironlaw18_world_Find.j3 b w0 (V.ptr a_118 0) (V.ptr a_153 0) (V.ptr a_250 0) H_299 Q))))))
(fun v_285 H_286 => Q (Rs.pan v_285) H_286)))))))
(fun v_268 H_269 => Q (Rs.pan v_268) H_269))))))))))))
(fun v_125 H_126 => Q (Rs.pan v_125) H_126))
theorem flatironlaw18_world_Find.s (b : Nat) (w0 : World) (a0_0 : V) (a1_0 : List UInt8) (a1_1 : List UInt8) (H : Hp) (Q : Rs → Hp → Prop) (h : flatironlaw18_world_Find.p b w0 a0_0 a1_0 a1_1 H Q) : Ac (cx b w0) 148 [(V.agg [a0_0]), (V.agg [(V.str a1_0), (V.str a1_1)])] H Q := by
  have e : wpE (cx b w0) flatironlaw18_world_Find.plan flatironlaw18_world_Find.planL flatironlaw18_world_Find.body ⟨[(V.agg [a0_0]), (V.agg [(V.str a1_0), (V.str a1_1)])] ++ List.replicate (Try.f148.ntmps - 2) .any, H, []⟩ (kFin prog flatironlaw18_world_Find.res Q) = flatironlaw18_world_Find.p b w0 a0_0 a1_0 a1_1 H Q := by kernel_rfl
  exact Ac.enter mixed (fn := Try.f148) (by kernel_rfl) (show Try.f148.body = some flatironlaw18_world_Find.body by kernel_rfl) (e.mpr h)

/-! flatironlaw18_world_Make -/
noncomputable def flatironlaw18_world_Make.body : Code := (Try.f149.body).getD .skip
noncomputable def flatironlaw18_world_Make.res : List ResultVar := Try.f149.results.toList
def flatironlaw18_world_Make.plan : Plan := planOf []
def flatironlaw18_world_Make.planL : Plan := planOf []
def flatironlaw18_world_Make.p (b : Nat) (w0 : World) (a0_0 : V) (a1_0 : List UInt8) (a1_1 : List UInt8) (a1_2 : V) (a1_3 : V) (a1_4 : V) (a1_5 : List UInt8) (a1_6 : Int) (a1_7 : Bool) (a1_8 : Bool) (H : Hp) (Q : Rs → Hp → Prop) : Prop :=
newE H (O.box [a0_0] 37) fun a_1 H_2 =>
newE H_2 (O.box [(V.str a1_0), (V.str a1_1), a1_2, a1_3, a1_4, (V.str a1_5), (V.int .i64 a1_6), (V.bool a1_7), (V.bool a1_8)] 167) fun a_3 H_4 =>
newE H_4 (O.box [(V.int .i64 0), (V.str []), (V.int .i64 0)] 33) fun a_5 H_6 =>
ldE false 1 (V.ptr a_1 (0 + 0)) H_6 fun v_7 =>
ldE false 1 (V.ptr a_3 ((0 + 0) + 0)) H_6 fun v_8 =>
strE v_8 fun s_9 =>
Ac (cx b w0) 74 [v_7, (V.str s_9)] H_6 (thenR (fun v_10 H_11 =>
boolE v_10 fun b_14 =>
cnd (!b_14) (
ldE false 1 (V.ptr a_3 ((0 + 0) + 0)) H_11 fun v_15 =>
strE v_15 fun s_16 =>
stE (V.ptr a_5 0) [(V.int .i64 9), (V.str s_16), (V.int .i64 0)] H_11 fun H_17 =>
ldE true 3 (V.ptr a_5 0) H_17 fun v_18 =>
aggE v_18 fun l_19 =>
headE l_19 fun c_20 r_21 =>
intK .i64 c_20 fun n_22 =>
headE r_21 fun c_23 r_24 =>
strE c_23 fun s_25 =>
headE r_24 fun c_26 r_27 =>
intK .i64 c_26 fun n_28 =>
endE r_27 (
Q (Rs.ret (V.agg [(V.int .i64 n_22), (V.str s_25), (V.int .i64 n_28)])) H_17)) (
stE (V.ptr a_5 0) [(V.int .i64 0), (V.str []), (V.int .i64 0)] H_11 fun H_29 =>
ldE true 3 (V.ptr a_5 0) H_29 fun v_30 =>
aggE v_30 fun l_31 =>
headE l_31 fun c_32 r_33 =>
intK .i64 c_32 fun n_34 =>
headE r_33 fun c_35 r_36 =>
strE c_35 fun s_37 =>
headE r_36 fun c_38 r_39 =>
intK .i64 c_38 fun n_40 =>
endE r_39 (
Q (Rs.ret (V.agg [(V.int .i64 n_34), (V.str s_37), (V.int .i64 n_40)])) H_29)))
(fun v_12 H_13 => Q (Rs.pan v_12) H_13))
theorem flatironlaw18_world_Make.s (b : Nat) (w0 : World) (a0_0 : V) (a1_0 : List UInt8) (a1_1 : List UInt8) (a1_2 : V) (a1_3 : V) (a1_4 : V) (a1_5 : List UInt8) (a1_6 : Int) (a1_7 : Bool) (a1_8 : Bool) (H : Hp) (Q : Rs → Hp → Prop) (h : flatironlaw18_world_Make.p b w0 a0_0 a1_0 a1_1 a1_2 a1_3 a1_4 a1_5 a1_6 a1_7 a1_8 H Q) : Ac (cx b w0) 149 [(V.agg [a0_0]), (V.agg [(V.str a1_0), (V.str a1_1), a1_2, a1_3, a1_4, (V.str a1_5), (V.int .i64 a1_6), (V.bool a1_7), (V.bool a1_8)])] H Q := by
  have e : wpE (cx b w0) flatironlaw18_world_Make.plan flatironlaw18_world_Make.planL flatironlaw18_world_Make.body ⟨[(V.agg [a0_0]), (V.agg [(V.str a1_0), (V.str a1_1), a1_2, a1_3, a1_4, (V.str a1_5), (V.int .i64 a1_6), (V.bool a1_7), (V.bool a1_8)])] ++ List.replicate (Try.f149.ntmps - 2) .any, H, []⟩ (kFin prog flatironlaw18_world_Make.res Q) = flatironlaw18_world_Make.p b w0 a0_0 a1_0 a1_1 a1_2 a1_3 a1_4 a1_5 a1_6 a1_7 a1_8 H Q := by kernel_rfl
  exact Ac.enter mixed (fn := Try.f149) (by kernel_rfl) (show Try.f149.body = some flatironlaw18_world_Make.body by kernel_rfl) (e.mpr h)

/-! flatironlaw18_world_Time -/
noncomputable def flatironlaw18_world_Time.body : Code := (Try.f150.body).getD .skip
noncomputable def flatironlaw18_world_Time.res : List ResultVar := Try.f150.results.toList
def flatironlaw18_world_Time.plan : Plan := planOf []
def flatironlaw18_world_Time.planL : Plan := planOf []
def flatironlaw18_world_Time.p (b : Nat) (w0 : World) (a0_0 : V) (a1 : List UInt8) (H : Hp) (Q : Rs → Hp → Prop) : Prop :=
newE H (O.box [a0_0] 37) fun a_1 H_2 =>
ldE false 1 (V.ptr a_1 (0 + 0)) H_2 fun v_3 =>
Ac (cx b w0) 73 [v_3, (V.str a1)] H_2 (thenR (fun v_4 H_5 =>
aggE v_4 fun l_8 =>
headE l_8 fun c_9 r_10 =>
strE c_9 fun s_11 =>
headE r_10 fun c_12 r_13 =>
headE r_13 fun c_14 r_15 =>
headE r_15 fun c_16 r_17 =>
boolE c_16 fun b_18 =>
headE r_17 fun c_19 r_20 =>
boolE c_19 fun b_21 =>
headE r_20 fun c_22 r_23 =>
boolE c_22 fun b_24 =>
headE r_23 fun c_25 r_26 =>
intK .i64 c_25 fun n_27 =>
headE r_26 fun c_28 r_29 =>
boolE c_28 fun b_30 =>
headE r_29 fun c_31 r_32 =>
boolE c_31 fun b_33 =>
endE r_32 (
Q (Rs.ret (V.tuple [(V.int .i64 n_27), (V.bool (!decide ((n_27 : Int) = 0)))])) H_5))
(fun v_6 H_7 => Q (Rs.pan v_6) H_7))
theorem flatironlaw18_world_Time.s (b : Nat) (w0 : World) (a0_0 : V) (a1 : List UInt8) (H : Hp) (Q : Rs → Hp → Prop) (h : flatironlaw18_world_Time.p b w0 a0_0 a1 H Q) : Ac (cx b w0) 150 [(V.agg [a0_0]), (V.str a1)] H Q := by
  have e : wpE (cx b w0) flatironlaw18_world_Time.plan flatironlaw18_world_Time.planL flatironlaw18_world_Time.body ⟨[(V.agg [a0_0]), (V.str a1)] ++ List.replicate (Try.f150.ntmps - 2) .any, H, []⟩ (kFin prog flatironlaw18_world_Time.res Q) = flatironlaw18_world_Time.p b w0 a0_0 a1 H Q := by kernel_rfl
  exact Ac.enter mixed (fn := Try.f150) (by kernel_rfl) (show Try.f150.body = some flatironlaw18_world_Time.body by kernel_rfl) (e.mpr h)

/-! flatironlaw18_files -/
noncomputable def flatironlaw18_files.body : Code := (Try.f12.body).getD .skip
noncomputable def flatironlaw18_files.res : List ResultVar := Try.f12.results.toList
def flatironlaw18_files.plan : Plan := planOf []
def flatironlaw18_files.planL : Plan := planOf [(3, [3, 6, 7, 8])]
def flatironlaw18_files.l3 (b : Nat) (w0 : World) (x3 : V) (x6 : V) (x7 : Int) (x8 : Int) (H : Hp) (Q : Rs → Hp → Prop) : Prop := Al (cx b w0) (cAt flatironlaw18_files.body [1, 1, 0, 1, 0, 0]) ⟨[V.any, V.any, V.any, x3, V.any, V.any, x6, (V.int .i64 x7), (V.int .i64 x8), V.any, V.any, V.any, V.any, V.any, V.any, V.any, V.any, V.any, V.any, V.any], H, []⟩ (kAt (cx b w0) flatironlaw18_files.plan flatironlaw18_files.planL flatironlaw18_files.body [1, 1, 0, 1, 0] (kFin prog flatironlaw18_files.res Q))
def flatironlaw18_files.l3p (b : Nat) (w0 : World) (x3 : V) (x6 : V) (x7 : Int) (x8 : Int) (H : Hp) (Q : Rs → Hp → Prop) : Prop :=
cnd (decide ((x8 : Int) < x7)) (
idxE 1 x6 x8 fun p_1 =>
ldE false 1 p_1 H fun v_2 =>
strE v_2 fun s_3 =>
newE H (O.tip (1 * 2) 111) fun a_4 H_5 =>
appE 2 111 x3 [(V.agg [(V.str s_3), (V.str s_3)])] H_5 fun v_6 H_7 =>
flatironlaw18_files.l3 b w0 v_6 x6 x7 ((IntKind.i64.wrap (x8 + 1))) H_7 Q) (
Q (Rs.ret x3) H)
theorem flatironlaw18_files.l3s (b : Nat) (w0 : World) (x3 : V) (x6 : V) (x7 : Int) (x8 : Int) (H : Hp) (Q : Rs → Hp → Prop) (h : flatironlaw18_files.l3p b w0 x3 x6 x7 x8 H Q) : flatironlaw18_files.l3 b w0 x3 x6 x7 x8 H Q := by
  have e : wpE (cx b w0) flatironlaw18_files.plan flatironlaw18_files.planL (cAt flatironlaw18_files.body [1, 1, 0, 1, 0, 0]) ⟨[V.any, V.any, V.any, x3, V.any, V.any, x6, (V.int .i64 x7), (V.int .i64 x8), V.any, V.any, V.any, V.any, V.any, V.any, V.any, V.any, V.any, V.any, V.any], H, []⟩ (kLoop (cx b w0) (((firstR (cAt flatironlaw18_files.body [1, 1, 0, 1, 0, 0])).bind flatironlaw18_files.planL).getD []) (cAt flatironlaw18_files.body [1, 1, 0, 1, 0, 0]) (kAt (cx b w0) flatironlaw18_files.plan flatironlaw18_files.planL flatironlaw18_files.body [1, 1, 0, 1, 0] (kFin prog flatironlaw18_files.res Q))) = flatironlaw18_files.l3p b w0 x3 x6 x7 x8 H Q := by kernel_rfl
  exact Al.round _ (wpE_ok mixed _ _ _ (e.mpr h))
def flatironlaw18_files.p (b : Nat) (w0 : World) (a0 : V) (H : Hp) (Q : Rs → Hp → Prop) : Prop :=
lenE a0 fun k_8 =>
flatironlaw18_files.l3 b w0 V.nilsl a0 (k_8 : Int) 0 H Q
theorem flatironlaw18_files.s (b : Nat) (w0 : World) (a0 : V) (H : Hp) (Q : Rs → Hp → Prop) (h : flatironlaw18_files.p b w0 a0 H Q) : Ac (cx b w0) 12 [a0] H Q := by
  have e : wpE (cx b w0) flatironlaw18_files.plan flatironlaw18_files.planL flatironlaw18_files.body ⟨[a0] ++ List.replicate (Try.f12.ntmps - 1) .any, H, []⟩ (kFin prog flatironlaw18_files.res Q) = flatironlaw18_files.p b w0 a0 H Q := by kernel_rfl
  exact Ac.enter mixed (fn := Try.f12) (by kernel_rfl) (show Try.f12.body = some flatironlaw18_files.body by kernel_rfl) (e.mpr h)

end Go.Proofs.Ytmpheeanjjfddaa.S
