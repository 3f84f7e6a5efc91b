/- HeapActs: the switch of a round, at 1. -/
import Derived.Test.YtikahcbkeempdaaLwHA1
namespace Go.Proofs.Ytikahcbkeempdaa
open Go.RowKit Go.Maps

set_option maxRecDepth 1000000 in
set_option maxHeartbeats 40000000 in
theorem haSwA1 {w9 wa : World} {hp each c C1 C2 B7 g i : Nat} {m0 m1 m2 z0 z1 z2 z3 : Int} {nv rv : Value} {bb pp uu : Nat → Nat} {tt : Nat → Value} {R : List (Nat × Nat)} {F : Nat → Nat → List Nat} {T : Nat → List (Nat × Nat)}
    {u0 u1 u2 u3 u4 u5 u6 u7 u8 u9 u10 u11 u13 u15 u16 u18 u19 u20 u21 u22 u23 u24 u25 u26 u27 u28 u29 u30 u31 u32 u33 u34 u35 u36 u37 u38 u39 u40 u41 u42 u43 u44 u45 u46 u47 u48 u49 u50 u51 u52 u53 u54 u55 u56 u57 u58 u59 u60 u61 u62 u63 u64 u65 u66 u67 u68 u69 u70 u71 u72 u73 u74 u75 u76 u77 u78 u79 u80 u81 u82 u83 u84 u85 u86 u87 u88 u89 u90 u91 u92 u93 u94 u95 u96 u97 u98 u99 u100 u101 u102 u103 u104 u105 u106 u107 u108 u109 u110 u111 u112 u113 u114 u115 u116 u117 u118 u119 u120 u121 u122 u123 u124 u125 u126 u127 u128 u129 u130 u131 u132 u133 u134 u135 u136 u137 u138 u139 u140 u141 u142 u143 u144 u145 u146 u147 u148 u149 u150 u151 u152 u153 u154 u155 u156 u157 u158 u159 u160 u161 u162 u163 u164 u165 u166 u167 u168 u169 u170 u171 u172 u173 u174 u175 u176 u177 u178 u179 u180 u181 u182 u183 u184 u185 u186 u187 u189 u190 u191 u192 u193 u194 u195 u196 u197 u198 u199 u200 u201 u202 u203 u204 u205 u206 u207 u208 u209 u210 u211 u212 u213 u214 u215 u216 u217 u218 u219 u220 u221 u222 u223 u224 u225 u226 u227 u228 u229 u230 u231 u232 u233 u234 u235 u236 u237 u238 u239 u240 u241 u242 u243 u244 u245 u246 u247 u248 u249 u250 u251 u252 u253 u254 u255 u256 u257 u258 u259 u260 u261 u262 u263 u264 u265 u266 u267 u268 u269 u270 u271 u272 u273 u274 u275 u276 u277 u278 u279 u280 u281 u282 u283 u284 u285 u286 u287 u288 u289 u290 u291 u292 u293 u294 u295 u296 u297 u298 u299 u300 u301 u302 u303 u304 u305 u306 u307 u308 u309 u310 u311 u312 u313 u314 u315 u316 u317 u318 u319 u320 u321 u322 u323 u324 u325 u326 u327 u328 u329 u330 u331 u332 u333 u334 u335 u336 u337 u338 u339 u340 u341 u342 u343 u344 u345 u346 u347 u348 u349 u350 u351 u352 u353 u354 u355 u356 u357 u358 u359 u360 u361 u362 u363 u364 u365 u366 u367 u368 u369 u370 u371 u372 u373 u374 u375 u376 u377 u378 u379 u380 u381 u382 u383 u384 u385 u386 u387 u388 u389 u390 u391 u392 u393 u394 u395 u396 u397 u398 u399 u400 u401 u402 u403 u404 u405 u406 u407 u408 u409 u410 u411 u412 u413 u414 u415 u416 u417 u418 u419 u420 u421 u422 u423 u424 u425 u426 u427 u428 u429 u430 u431 u432 u433 u434 u435 u436 u437 u438 u439 u440 u441 u442 u443 u444 u445 u446 : Value} (hTA : TH wa hp each m0 m1 m2 c nv bb C1 rv pp uu C1 C2 tt u15 R F T) (hS : HSpan B7 C1 hp c nv bb) (hc8 : c ≤ 8) (_ : each ≤ 1024) (hRi : R.length ≤ i) (hi24 : i < 24) (hCg : C1 ≤ g) (hgl : g < wa.heap.size)
    (hRg : ¬ RHF C1 rv pp uu tt c g) (hvg : ¬ u15.ownBlock = some g) (hBK : wa.heap[g]? = some (Obj.cells #[Value.int IntKind.i64 z0, Value.int IntKind.i64 z1, Value.int IntKind.i64 z2, Value.int IntKind.i64 z3] 93 (0, 0))) (hba : Below B7 w9 wa) {Q : Exit → Act → World → Prop}
    (hQ : ∀ (v15 v18 v19 v20 v21 v22 v23 v24 v189 v190 v191 v192 v193 v194 v195 v196 v197 v198 v199 v200 v201 v202 v203 v204 v205 v206 v207 v208 v209 v210 v211 v212 v213 v214 v215 v216 v217 v218 v219 v220 v221 v222 v223 v224 v225 v226 v227 v228 v229 v230 v231 v232 v233 v234 v235 v236 v237 v238 v239 v240 v241 v242 v243 v244 v245 v246 v247 v248 v249 v250 v251 v252 v253 v254 v255 v256 v257 v258 v259 v260 v261 v262 v263 v264 v265 v266 v267 v268 v269 v270 v271 v272 v273 v274 v275 v276 v277 v278 v279 v280 v281 v282 v283 v284 v285 v286 v287 v288 v289 v290 v291 v292 v293 v294 v295 v296 v297 v298 v299 v300 v301 v302 v303 v304 v305 v306 v307 v308 v309 v310 v311 v312 v313 : Value) (wx : World), HACut w9 B7 hp each m0 m1 m2 c nv bb C1 rv pp uu C1 C2 g i (Obj.cells #[Value.int IntKind.i64 z0, Value.int IntKind.i64 z1, Value.int IntKind.i64 z2, Value.int IntKind.i64 z3] 93 (0, 0)) v15 wx → Q .normal ⟨#[u0, u1, u2, u3, u4, u5, u6, u7, u8, u9, u10, u11, .pointer (some ⟨hp, 0, none⟩), u13, .pointer (some ⟨C1, 0, none⟩), v15, u16, .pointer (some ⟨g, 0, none⟩), v18, v19, v20, v21, v22, v23, v24, u25, u26, u27, u28, u29, u30, u31, u32, u33, u34, u35, u36, u37, u38, u39, u40, u41, u42, u43, u44, u45, u46, u47, u48, u49, u50, u51, u52, u53, u54, u55, u56, u57, u58, u59, u60, u61, u62, u63, u64, u65, u66, u67, u68, u69, u70, u71, u72, u73, u74, u75, u76, u77, u78, u79, u80, u81, u82, u83, u84, u85, u86, u87, u88, u89, u90, u91, u92, u93, u94, u95, u96, u97, u98, u99, u100, u101, u102, u103, u104, u105, u106, u107, u108, u109, u110, u111, u112, u113, u114, u115, u116, u117, u118, u119, u120, u121, u122, u123, u124, u125, u126, u127, u128, u129, u130, u131, u132, u133, u134, u135, u136, u137, u138, u139, u140, u141, u142, u143, u144, u145, u146, u147, u148, u149, u150, u151, u152, u153, u154, u155, u156, u157, u158, u159, u160, u161, u162, u163, u164, u165, u166, u167, u168, u169, u170, u171, u172, u173, u174, u175, u176, u177, u178, u179, u180, u181, u182, u183, u184, u185, u186, u187, .int .i64 1, v189, v190, v191, v192, v193, v194, v195, v196, v197, v198, v199, v200, v201, v202, v203, v204, v205, v206, v207, v208, v209, v210, v211, v212, v213, v214, v215, v216, v217, v218, v219, v220, v221, v222, v223, v224, v225, v226, v227, v228, v229, v230, v231, v232, v233, v234, v235, v236, v237, v238, v239, v240, v241, v242, v243, v244, v245, v246, v247, v248, v249, v250, v251, v252, v253, v254, v255, v256, v257, v258, v259, v260, v261, v262, v263, v264, v265, v266, v267, v268, v269, v270, v271, v272, v273, v274, v275, v276, v277, v278, v279, v280, v281, v282, v283, v284, v285, v286, v287, v288, v289, v290, v291, v292, v293, v294, v295, v296, v297, v298, v299, v300, v301, v302, v303, v304, v305, v306, v307, v308, v309, v310, v311, v312, v313, u314, u315, u316, u317, u318, u319, u320, u321, u322, u323, u324, u325, u326, u327, u328, u329, u330, u331, u332, u333, u334, u335, u336, u337, u338, u339, u340, u341, u342, u343, u344, u345, u346, u347, u348, u349, u350, u351, u352, u353, u354, u355, u356, u357, u358, u359, u360, u361, u362, u363, u364, u365, u366, u367, u368, u369, u370, u371, u372, u373, u374, u375, u376, u377, u378, u379, u380, u381, u382, u383, u384, u385, u386, u387, u388, u389, u390, u391, u392, u393, u394, u395, u396, u397, u398, u399, u400, u401, u402, u403, u404, u405, u406, u407, u408, u409, u410, u411, u412, u413, u414, u415, u416, u417, u418, u419, u420, u421, u422, u423, u424, u425, u426, u427, u428, u429, u430, u431, u432, u433, u434, u435, u436, u437, u438, u439, u440, u441, u442, u443, u444, u445, u446], []⟩ wx) :
    Code.wp Try.prog bk2 Q ⟨#[u0, u1, u2, u3, u4, u5, u6, u7, u8, u9, u10, u11, .pointer (some ⟨hp, 0, none⟩), u13, .pointer (some ⟨C1, 0, none⟩), u15, u16, .pointer (some ⟨g, 0, none⟩), u18, u19, u20, u21, u22, u23, u24, u25, u26, u27, u28, u29, u30, u31, u32, u33, u34, u35, u36, u37, u38, u39, u40, u41, u42, u43, u44, u45, u46, u47, u48, u49, u50, u51, u52, u53, u54, u55, u56, u57, u58, u59, u60, u61, u62, u63, u64, u65, u66, u67, u68, u69, u70, u71, u72, u73, u74, u75, u76, u77, u78, u79, u80, u81, u82, u83, u84, u85, u86, u87, u88, u89, u90, u91, u92, u93, u94, u95, u96, u97, u98, u99, u100, u101, u102, u103, u104, u105, u106, u107, u108, u109, u110, u111, u112, u113, u114, u115, u116, u117, u118, u119, u120, u121, u122, u123, u124, u125, u126, u127, u128, u129, u130, u131, u132, u133, u134, u135, u136, u137, u138, u139, u140, u141, u142, u143, u144, u145, u146, u147, u148, u149, u150, u151, u152, u153, u154, u155, u156, u157, u158, u159, u160, u161, u162, u163, u164, u165, u166, u167, u168, u169, u170, u171, u172, u173, u174, u175, u176, u177, u178, u179, u180, u181, u182, u183, u184, u185, u186, u187, .int .i64 1, u189, u190, u191, u192, u193, u194, u195, u196, u197, u198, u199, u200, u201, u202, u203, u204, u205, u206, u207, u208, u209, u210, u211, u212, u213, u214, u215, u216, u217, u218, u219, u220, u221, u222, u223, u224, u225, u226, u227, u228, u229, u230, u231, u232, u233, u234, u235, u236, u237, u238, u239, u240, u241, u242, u243, u244, u245, u246, u247, u248, u249, u250, u251, u252, u253, u254, u255, u256, u257, u258, u259, u260, u261, u262, u263, u264, u265, u266, u267, u268, u269, u270, u271, u272, u273, u274, u275, u276, u277, u278, u279, u280, u281, u282, u283, u284, u285, u286, u287, u288, u289, u290, u291, u292, u293, u294, u295, u296, u297, u298, u299, u300, u301, u302, u303, u304, u305, u306, u307, u308, u309, u310, u311, u312, u313, u314, u315, u316, u317, u318, u319, u320, u321, u322, u323, u324, u325, u326, u327, u328, u329, u330, u331, u332, u333, u334, u335, u336, u337, u338, u339, u340, u341, u342, u343, u344, u345, u346, u347, u348, u349, u350, u351, u352, u353, u354, u355, u356, u357, u358, u359, u360, u361, u362, u363, u364, u365, u366, u367, u368, u369, u370, u371, u372, u373, u374, u375, u376, u377, u378, u379, u380, u381, u382, u383, u384, u385, u386, u387, u388, u389, u390, u391, u392, u393, u394, u395, u396, u397, u398, u399, u400, u401, u402, u403, u404, u405, u406, u407, u408, u409, u410, u411, u412, u413, u414, u415, u416, u417, u418, u419, u420, u421, u422, u423, u424, u425, u426, u427, u428, u429, u430, u431, u432, u433, u434, u435, u436, u437, u438, u439, u440, u441, u442, u443, u444, u445, u446], []⟩ wa := by
  obtain ⟨i0, hi, hz0, hz1, hzb⟩ := info_parts infoP
  have hg0 : wa.cell? ⟨g, 0, none⟩ = some (.int .i64 z0) := by simp [World.cell?, hBK]
  have hg1 : wa.cell? ⟨g, 1, none⟩ = some (.int .i64 z1) := by simp [World.cell?, hBK]
  have hg2 : wa.cell? ⟨g, 2, none⟩ = some (.int .i64 z2) := by simp [World.cell?, hBK]
  have hg3 : wa.cell? ⟨g, 3, none⟩ = some (.int .i64 z3) := by simp [World.cell?, hBK]
  have HTA := Lib.hid hTA
  have HS := Lib.hid hS
  have HRG := Lib.hid hRg
  have HVG := Lib.hid hvg
  have HBK := Lib.hid hBK
  have HQ := Lib.hid hQ
  have hsB : B7 ≤ C1 := by have := hS.hp; omega
  clear hTA hS hRg hvg hBK hQ
  conv => arg 2; whnf
  rcases th_take HTA.out HS.out (by omega) z1 z2 with ⟨gg, hgg, hT1⟩ | ⟨f, k, rfl, hfr, hfl, hT1⟩
  · as_aux_lemma =>
      unfold TakeBad at hT1
      have HT1 := Lib.hid hT1
      have hg0 : ¬ gg = 0 := by omega
      have hg0' : (gg == 0) = false := by rw [beq_eq_false_iff_ne]; exact hg0
      clear hT1
      go_wp2_with fail
      refine HT1.out.mono ?_
      rintro e wb ⟨rfl, hkb, hd⟩
      have HD := Lib.hid hd
      have hbb := Lib.hid ((hkb.2 g hCg hgl HRG.out).trans HBK.out)
      have hb1 : wb.cell? ⟨g, 1, none⟩ = some (.int .i64 z1) := by simp [World.cell?, hbb.out]
      have hb2 : wb.cell? ⟨g, 2, none⟩ = some (.int .i64 z2) := by simp [World.cell?, hbb.out]
      clear hd hkb
      go_wp2_with fail
      refine HD.out.mono ?_
      rintro e wc ⟨rfl, hkc, hTc⟩
      have hbc := Lib.hid ((hkc.2 g hCg hgl HRG.out).trans HBK.out)
      have HTC := Lib.hid hTc
      have HKC := Lib.hid hkc.1
      clear hTc hkc
      go_wp2_with fail
      exact HQ.out _ _ _ _ _ _ _ _ _ _ _ _ _ _ _ _ _ _ _ _ _ _ _ _ _ _ _ _ _ _ _ _ _ _ _ _ _ _ _ _ _ _ _ _ _ _ _ _ _ _ _ _ _ _ _ _ _ _ _ _ _ _ _ _ _ _ _ _ _ _ _ _ _ _ _ _ _ _ _ _ _ _ _ _ _ _ _ _ _ _ _ _ _ _ _ _ _ _ _ _ _ _ _ _ _ _ _ _ _ _ _ _ _ _ _ _ _ _ _ _ _ _ _ _ _ _ _ _ _ _ _ _ _ _ ⟨tt, R, F, T, by omega, HTC.out, hbc.out, hba.trans HKC.out⟩
  · as_aux_lemma =>
      unfold TakeOk at hT1
      have HT1 := Lib.hid hT1
      clear hT1
      go_wp2_with fail
      refine HT1.out.mono ?_
      rintro e wb ⟨rfl, hkb, hd⟩
      have HD := Lib.hid hd
      have hbb := Lib.hid ((hkb.2 g hCg hgl HRG.out).trans HBK.out)
      have hb1 : wb.cell? ⟨g, 1, none⟩ = some (.int .i64 z1) := by simp [World.cell?, hbb.out]
      have hb2 : wb.cell? ⟨g, 2, none⟩ = some (.int .i64 (k : Int)) := by simp [World.cell?, hbb.out]
      clear hd hkb
      go_wp2_with fail
      refine HD.out.mono ?_
      rintro e wc ⟨rfl, hkc, tt', F', T', hP, hspl⟩
      have hbc := Lib.hid ((hkc.2 g hCg hgl HRG.out).trans HBK.out)
      have hc2' : wc.cell? ⟨g, 2, none⟩ = some (.int .i64 (k : Int)) := by simp [World.cell?, hbc.out]
      have hrow := ownsRow_same HTA.out.row fun x hx => (hP.2.2.2.2.1 x hx).1
      have hszc := hP.2.2.2.2.2
      have hord := HTA.out.ord
      have HP := Lib.hid hP
      have HSPL := Lib.hid hspl
      have HKC := Lib.hid hkc.1
      have HFR := Lib.hid hfr
      have HFL := Lib.hid hfl
      clear hP hspl hkc hfr hfl
      go_wp2_with (first
        | (at_builtin; refine wpList_append_lies _ rfl _ _ 50 rfl C2 51 i0 _ 2 16 Try.underlying50 hi hz0 hz1 hzb rfl (by decide) _ _ _ rfl (hrow.alloc _) ⟨wc.heap.size, 0, none⟩ 1 1 [.int .i64 (f : Int), .int .i64 (k : Int)] rfl rfl (World.news_of_block (cs := #[.int .i64 (f : Int), .int .i64 (k : Int)]) (t := 51) (fr := (0, 0)) (heap_alloc_new wc _)) (by simp [Value.oneCell']) (by decide) (by unfold maxLen; omega) (by omega) (by simp; omega) (wc.heap.size + 1) (by simp) ?_; intro g4 cap4 w4 hown4 hg4 hat4 hlt4))
      have hTn := Lib.hid (HP.out.app HS.out HTA.out hg4 hown4 hat4 HSPL.out HFR.out HFL.out)
      have hbn := Lib.hid ((hg4.block g (by simp; omega) (fun h => HVG.out h.symm)).trans ((Below.heap_alloc _ _ _ (by omega)).trans hbc.out))
      have hB4 := ((hba.trans HKC.out).alloc (by omega) _).grown hg4 (by simp; omega) (fun x hx => by have := (HTA.out.row.lt x hx).1; omega)
      clear hown4 hg4 hat4 hlt4 hrow
      go_wp2_with fail
      exact HQ.out _ _ _ _ _ _ _ _ _ _ _ _ _ _ _ _ _ _ _ _ _ _ _ _ _ _ _ _ _ _ _ _ _ _ _ _ _ _ _ _ _ _ _ _ _ _ _ _ _ _ _ _ _ _ _ _ _ _ _ _ _ _ _ _ _ _ _ _ _ _ _ _ _ _ _ _ _ _ _ _ _ _ _ _ _ _ _ _ _ _ _ _ _ _ _ _ _ _ _ _ _ _ _ _ _ _ _ _ _ _ _ _ _ _ _ _ _ _ _ _ _ _ _ _ _ _ _ _ _ _ _ _ _ _ ⟨tt', R ++ [(f, k)], F', T', by simp; omega, hTn.out, hbn.out, hB4⟩
end Go.Proofs.Ytikahcbkeempdaa
