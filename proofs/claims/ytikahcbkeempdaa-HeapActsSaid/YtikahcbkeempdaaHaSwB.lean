/- HeapActs: the switch of a round, at 2. -/
import Derived.Test.YtikahcbkeempdaaLwHA1
namespace Go.Proofs.Ytikahcbkeempdaa
open Go.RowKit Go.Maps

set_option maxRecDepth 1000000 in
set_option maxHeartbeats 40000000 in
theorem haSwB {w9 wa : World} {hp each c C1 C2 B7 g i : Nat} {m0 m1 m2 z0 z1 z2 z3 : Int} {nv rv : Value} {bb pp uu : Nat → Nat} {tt : Nat → Value} {R : List (Nat × Nat)} {F : Nat → Nat → List Nat} {T : Nat → List (Nat × Nat)}
    {u0 u1 u2 u3 u4 u5 u6 u7 u8 u9 u10 u11 u13 u15 u16 u18 u19 u20 u21 u22 u23 u24 u25 u26 u27 u28 u29 u30 u31 u32 u33 u34 u35 u36 u37 u38 u39 u40 u41 u42 u43 u44 u45 u46 u47 u48 u49 u50 u51 u52 u53 u54 u55 u56 u57 u58 u59 u60 u61 u62 u63 u64 u65 u66 u67 u68 u69 u70 u71 u72 u73 u74 u75 u76 u77 u78 u79 u80 u81 u82 u83 u84 u85 u86 u87 u88 u89 u90 u91 u92 u93 u94 u95 u96 u97 u98 u99 u100 u101 u102 u103 u104 u105 u106 u107 u108 u109 u110 u111 u112 u113 u114 u115 u116 u117 u118 u119 u120 u121 u122 u123 u124 u125 u126 u127 u128 u129 u130 u131 u132 u133 u134 u135 u136 u137 u138 u139 u140 u141 u142 u143 u144 u145 u146 u147 u148 u149 u150 u151 u152 u153 u154 u155 u156 u157 u158 u159 u160 u161 u162 u163 u164 u165 u166 u167 u168 u169 u170 u171 u172 u173 u174 u175 u176 u177 u178 u179 u180 u181 u182 u183 u184 u185 u186 u187 u189 u190 u191 u192 u193 u194 u195 u196 u197 u198 u199 u200 u201 u202 u203 u204 u205 u206 u207 u208 u209 u210 u211 u212 u213 u214 u215 u216 u217 u218 u219 u220 u221 u222 u223 u224 u225 u226 u227 u228 u229 u230 u231 u232 u233 u234 u235 u236 u237 u238 u239 u240 u241 u242 u243 u244 u245 u246 u247 u248 u249 u250 u251 u252 u253 u254 u255 u256 u257 u258 u259 u260 u261 u262 u263 u264 u265 u266 u267 u268 u269 u270 u271 u272 u273 u274 u275 u276 u277 u278 u279 u280 u281 u282 u283 u284 u285 u286 u287 u288 u289 u290 u291 u292 u293 u294 u295 u296 u297 u298 u299 u300 u301 u302 u303 u304 u305 u306 u307 u308 u309 u310 u311 u312 u313 u314 u315 u316 u317 u318 u319 u320 u321 u322 u323 u324 u325 u326 u327 u328 u329 u330 u331 u332 u333 u334 u335 u336 u337 u338 u339 u340 u341 u342 u343 u344 u345 u346 u347 u348 u349 u350 u351 u352 u353 u354 u355 u356 u357 u358 u359 u360 u361 u362 u363 u364 u365 u366 u367 u368 u369 u370 u371 u372 u373 u374 u375 u376 u377 u378 u379 u380 u381 u382 u383 u384 u385 u386 u387 u388 u389 u390 u391 u392 u393 u394 u395 u396 u397 u398 u399 u400 u401 u402 u403 u404 u405 u406 u407 u408 u409 u410 u411 u412 u413 u414 u415 u416 u417 u418 u419 u420 u421 u422 u423 u424 u425 u426 u427 u428 u429 u430 u431 u432 u433 u434 u435 u436 u437 u438 u439 u440 u441 u442 u443 u444 u445 u446 : Value} (hTA : TH wa hp each m0 m1 m2 c nv bb C1 rv pp uu C1 C2 tt u15 R F T) (hS : HSpan B7 C1 hp c nv bb) (hc8 : c ≤ 8) (hE : each ≤ 1024) (hRi : R.length ≤ i) (hi24 : i < 24) (hCg : C1 ≤ g) (hgl : g < wa.heap.size)
    (hRg : ¬ RHF C1 rv pp uu tt c g) (hvg : ¬ u15.ownBlock = some g) (hBK : wa.heap[g]? = some (Obj.cells #[Value.int IntKind.i64 z0, Value.int IntKind.i64 z1, Value.int IntKind.i64 z2, Value.int IntKind.i64 z3] 93 (0, 0))) (hba : Below B7 w9 wa) {Q : Exit → Act → World → Prop}
    (hQ : ∀ (v15 v18 v19 v20 v21 v22 v23 v24 v189 v190 v191 v192 v193 v194 v195 v196 v197 v198 v199 v200 v201 v202 v203 v204 v205 v206 v207 v208 v209 v210 v211 v212 v213 v214 v215 v216 v217 v218 v219 v220 v221 v222 v223 v224 v225 v226 v227 v228 v229 v230 v231 v232 v233 v234 v235 v236 v237 v238 v239 v240 v241 v242 v243 v244 v245 v246 v247 v248 v249 v250 v251 v252 v253 v254 v255 v256 v257 v258 v259 v260 v261 v262 v263 v264 v265 v266 v267 v268 v269 v270 v271 v272 v273 v274 v275 v276 v277 v278 v279 v280 v281 v282 v283 v284 v285 v286 v287 v288 v289 v290 v291 v292 v293 v294 v295 v296 v297 v298 v299 v300 v301 v302 v303 v304 v305 v306 v307 v308 v309 v310 v311 v312 v313 : Value) (wx : World), HACut w9 B7 hp each m0 m1 m2 c nv bb C1 rv pp uu C1 C2 g i (Obj.cells #[Value.int IntKind.i64 z0, Value.int IntKind.i64 z1, Value.int IntKind.i64 z2, Value.int IntKind.i64 z3] 93 (0, 0)) v15 wx → Q .normal ⟨#[u0, u1, u2, u3, u4, u5, u6, u7, u8, u9, u10, u11, .pointer (some ⟨hp, 0, none⟩), u13, .pointer (some ⟨C1, 0, none⟩), v15, u16, .pointer (some ⟨g, 0, none⟩), v18, v19, v20, v21, v22, v23, v24, u25, u26, u27, u28, u29, u30, u31, u32, u33, u34, u35, u36, u37, u38, u39, u40, u41, u42, u43, u44, u45, u46, u47, u48, u49, u50, u51, u52, u53, u54, u55, u56, u57, u58, u59, u60, u61, u62, u63, u64, u65, u66, u67, u68, u69, u70, u71, u72, u73, u74, u75, u76, u77, u78, u79, u80, u81, u82, u83, u84, u85, u86, u87, u88, u89, u90, u91, u92, u93, u94, u95, u96, u97, u98, u99, u100, u101, u102, u103, u104, u105, u106, u107, u108, u109, u110, u111, u112, u113, u114, u115, u116, u117, u118, u119, u120, u121, u122, u123, u124, u125, u126, u127, u128, u129, u130, u131, u132, u133, u134, u135, u136, u137, u138, u139, u140, u141, u142, u143, u144, u145, u146, u147, u148, u149, u150, u151, u152, u153, u154, u155, u156, u157, u158, u159, u160, u161, u162, u163, u164, u165, u166, u167, u168, u169, u170, u171, u172, u173, u174, u175, u176, u177, u178, u179, u180, u181, u182, u183, u184, u185, u186, u187, .int .i64 2, v189, v190, v191, v192, v193, v194, v195, v196, v197, v198, v199, v200, v201, v202, v203, v204, v205, v206, v207, v208, v209, v210, v211, v212, v213, v214, v215, v216, v217, v218, v219, v220, v221, v222, v223, v224, v225, v226, v227, v228, v229, v230, v231, v232, v233, v234, v235, v236, v237, v238, v239, v240, v241, v242, v243, v244, v245, v246, v247, v248, v249, v250, v251, v252, v253, v254, v255, v256, v257, v258, v259, v260, v261, v262, v263, v264, v265, v266, v267, v268, v269, v270, v271, v272, v273, v274, v275, v276, v277, v278, v279, v280, v281, v282, v283, v284, v285, v286, v287, v288, v289, v290, v291, v292, v293, v294, v295, v296, v297, v298, v299, v300, v301, v302, v303, v304, v305, v306, v307, v308, v309, v310, v311, v312, v313, u314, u315, u316, u317, u318, u319, u320, u321, u322, u323, u324, u325, u326, u327, u328, u329, u330, u331, u332, u333, u334, u335, u336, u337, u338, u339, u340, u341, u342, u343, u344, u345, u346, u347, u348, u349, u350, u351, u352, u353, u354, u355, u356, u357, u358, u359, u360, u361, u362, u363, u364, u365, u366, u367, u368, u369, u370, u371, u372, u373, u374, u375, u376, u377, u378, u379, u380, u381, u382, u383, u384, u385, u386, u387, u388, u389, u390, u391, u392, u393, u394, u395, u396, u397, u398, u399, u400, u401, u402, u403, u404, u405, u406, u407, u408, u409, u410, u411, u412, u413, u414, u415, u416, u417, u418, u419, u420, u421, u422, u423, u424, u425, u426, u427, u428, u429, u430, u431, u432, u433, u434, u435, u436, u437, u438, u439, u440, u441, u442, u443, u444, u445, u446], []⟩ wx) :
    Code.wp Try.prog bk2 Q ⟨#[u0, u1, u2, u3, u4, u5, u6, u7, u8, u9, u10, u11, .pointer (some ⟨hp, 0, none⟩), u13, .pointer (some ⟨C1, 0, none⟩), u15, u16, .pointer (some ⟨g, 0, none⟩), u18, u19, u20, u21, u22, u23, u24, u25, u26, u27, u28, u29, u30, u31, u32, u33, u34, u35, u36, u37, u38, u39, u40, u41, u42, u43, u44, u45, u46, u47, u48, u49, u50, u51, u52, u53, u54, u55, u56, u57, u58, u59, u60, u61, u62, u63, u64, u65, u66, u67, u68, u69, u70, u71, u72, u73, u74, u75, u76, u77, u78, u79, u80, u81, u82, u83, u84, u85, u86, u87, u88, u89, u90, u91, u92, u93, u94, u95, u96, u97, u98, u99, u100, u101, u102, u103, u104, u105, u106, u107, u108, u109, u110, u111, u112, u113, u114, u115, u116, u117, u118, u119, u120, u121, u122, u123, u124, u125, u126, u127, u128, u129, u130, u131, u132, u133, u134, u135, u136, u137, u138, u139, u140, u141, u142, u143, u144, u145, u146, u147, u148, u149, u150, u151, u152, u153, u154, u155, u156, u157, u158, u159, u160, u161, u162, u163, u164, u165, u166, u167, u168, u169, u170, u171, u172, u173, u174, u175, u176, u177, u178, u179, u180, u181, u182, u183, u184, u185, u186, u187, .int .i64 2, u189, u190, u191, u192, u193, u194, u195, u196, u197, u198, u199, u200, u201, u202, u203, u204, u205, u206, u207, u208, u209, u210, u211, u212, u213, u214, u215, u216, u217, u218, u219, u220, u221, u222, u223, u224, u225, u226, u227, u228, u229, u230, u231, u232, u233, u234, u235, u236, u237, u238, u239, u240, u241, u242, u243, u244, u245, u246, u247, u248, u249, u250, u251, u252, u253, u254, u255, u256, u257, u258, u259, u260, u261, u262, u263, u264, u265, u266, u267, u268, u269, u270, u271, u272, u273, u274, u275, u276, u277, u278, u279, u280, u281, u282, u283, u284, u285, u286, u287, u288, u289, u290, u291, u292, u293, u294, u295, u296, u297, u298, u299, u300, u301, u302, u303, u304, u305, u306, u307, u308, u309, u310, u311, u312, u313, u314, u315, u316, u317, u318, u319, u320, u321, u322, u323, u324, u325, u326, u327, u328, u329, u330, u331, u332, u333, u334, u335, u336, u337, u338, u339, u340, u341, u342, u343, u344, u345, u346, u347, u348, u349, u350, u351, u352, u353, u354, u355, u356, u357, u358, u359, u360, u361, u362, u363, u364, u365, u366, u367, u368, u369, u370, u371, u372, u373, u374, u375, u376, u377, u378, u379, u380, u381, u382, u383, u384, u385, u386, u387, u388, u389, u390, u391, u392, u393, u394, u395, u396, u397, u398, u399, u400, u401, u402, u403, u404, u405, u406, u407, u408, u409, u410, u411, u412, u413, u414, u415, u416, u417, u418, u419, u420, u421, u422, u423, u424, u425, u426, u427, u428, u429, u430, u431, u432, u433, u434, u435, u436, u437, u438, u439, u440, u441, u442, u443, u444, u445, u446], []⟩ wa := by
  obtain ⟨i0, hi, hz0, hz1, hzb⟩ := info_parts infoP
  have hg0 : wa.cell? ⟨g, 0, none⟩ = some (.int .i64 z0) := by simp [World.cell?, hBK]
  have hg1 : wa.cell? ⟨g, 1, none⟩ = some (.int .i64 z1) := by simp [World.cell?, hBK]
  have hg2 : wa.cell? ⟨g, 2, none⟩ = some (.int .i64 z2) := by simp [World.cell?, hBK]
  have hg3 : wa.cell? ⟨g, 3, none⟩ = some (.int .i64 z3) := by simp [World.cell?, hBK]
  have HTA := Lib.hid hTA
  have HS := Lib.hid hS
  have HRG := Lib.hid hRg
  have HVG := Lib.hid hvg
  have HBK := Lib.hid hBK
  have hsB : B7 ≤ C1 := by have := hS.hp; omega
  obtain ⟨K, hK⟩ : ∃ K, Q .normal = K := ⟨_, rfl⟩
  rw [hK] at hQ
  have HQ := Lib.hid hQ
  refine wp_mono (Q := fun e a w => match e with | .normal => K a w | _ => False) ?_ (fun e a w h => by cases e <;> first | (rw [hK]; exact h) | exact h.elim)
  clear hTA hS hRg hvg hBK hQ hK
  clear Q
  conv => arg 2; whnf
  obtain ⟨oa, tcap, rfl, htcap, hsh⟩ := own_shape2 HTA.out.row
  clear hsh
  by_cases hR0 : R.length = 0
  · have ct : ¬ (0 : Int) < (R.length : Int) := by omega
    clear hR0
    go_wp2_with fail
    exact HQ.out _ _ _ _ _ _ _ _ _ _ _ _ _ _ _ _ _ _ _ _ _ _ _ _ _ _ _ _ _ _ _ _ _ _ _ _ _ _ _ _ _ _ _ _ _ _ _ _ _ _ _ _ _ _ _ _ _ _ _ _ _ _ _ _ _ _ _ _ _ _ _ _ _ _ _ _ _ _ _ _ _ _ _ _ _ _ _ _ _ _ _ _ _ _ _ _ _ _ _ _ _ _ _ _ _ _ _ _ _ _ _ _ _ _ _ _ _ _ _ _ _ _ _ _ _ _ _ _ _ _ _ _ _ _ ⟨tt, R, F, T, by omega, HTA.out, HBK.out, hba⟩
  · focus
      have ct : (0 : Int) < (R.length : Int) := by omega
      obtain ⟨gt, cap', cur, hv, hgb, hcap, htk⟩ := own_block2 HTA.out.row (by omega)
      obtain ⟨rfl, rfl⟩ : oa = some ⟨gt, 0, none⟩ ∧ tcap = cap' := by cases hv; exact ⟨rfl, rfl⟩
      clear hv
      have hgt1 := (HTA.out.row.lt gt rfl).1
      have hgt2 := (HTA.out.row.lt gt rfl).2
      have hord := HTA.out.ord
      have hCgt : C1 ≤ gt := by omega
      have HRGT := Lib.hid (HTA.out.dis gt rfl)
      obtain ⟨j, hj, hj1⟩ := u64mod' z3 (R.length : Int) (by omega)
      have hjR : j < R.length := by omega
      have hwl : IntKind.u64.wrap (R.length : Int) = (R.length : Int) := IntWalk.u64_in _ (by omega)
      have hwj : IntKind.i64.wrap (j : Int) = (j : Int) := IntWalk.i64_in _ (by omega)
      have ht0 : ((R.length : Int) == 0) = false := by rw [beq_eq_false_iff_ne]; omega
      have ht1 : ¬ (R.length : Int) = 0 := by omega
      have hj0 : (0 : Int) ≤ (j : Int) := by omega
      have hx0 : wa.cell? ⟨gt, j * 2, none⟩ = some (.int .i64 ((R[j]).1 : Int)) := by
        rw [HTA.out.row.cellAt (j * 2) (by omega)]
        have h1 := (takCells_at R hjR).1
        have h2 : j * 2 < (takCells R).length := by rw [takCells_len]; omega
        simpa [h2] using h1
      have hy0 : wa.cell? ⟨gt, j * 2 + 1, none⟩ = some (.int .i64 ((R[j]).2 : Int)) := by
        rw [HTA.out.row.cellAt (j * 2 + 1) (by omega)]
        have h1 := (takCells_at R hjR).2
        have h2 : j * 2 + 1 < (takCells R).length := by rw [takCells_len]; omega
        simpa [h2] using h1
      obtain ⟨t1, ht1'⟩ : ∃ t1, (R[j]).1 = t1 := ⟨_, rfl⟩
      obtain ⟨t2, ht2'⟩ : ∃ t2, (R[j]).2 = t2 := ⟨_, rfl⟩
      have htt : R[j] = (t1, t2) := Prod.ext ht1' ht2'
      have her := erase_at HTA.out.rnd hjR
      rw [htt] at her hx0 hy0
      simp only at hx0 hy0
      rw [← gone_erase HTA.out.rnd] at her
      obtain ⟨gg, hG⟩ := th_give HTA.out HS.out (by omega) hE (t1 : Int) (t2 : Int)
      have CG := Lib.hid hG
      have HER := Lib.hid her
      have HTK := Lib.hid htk
      have HGB := Lib.hid hgb
      have hgj1 : (j : Int) < (R.length : Int) := by omega
      clear hG her htk hgb htt ht1' ht2'
      go_wp2_with fail
      go_region_held3 (fun w' => w'.cell? ⟨gt, j * 2, none⟩ = some (.int .i64 (t1 : Int)) ∧ w'.cell? ⟨gt, j * 2 + 1, none⟩ = some (.int .i64 (t2 : Int)))
        (first | (go_split_ands; refine ⟨?_, ?_⟩ <;> assumption) | go_keep)
        (first
          | (go_at_call 56; refine (CG.out 1).mono ?_; rintro e wb ⟨rfl, hkb, hdb⟩; have hxb := (World.cell?_of_block (a := ⟨gt, j * 2, none⟩) (hkb.2 gt hCgt hgt2 HRGT.out)).trans hx0; have hyb := (World.cell?_of_block (a := ⟨gt, j * 2 + 1, none⟩) (hkb.2 gt hCgt hgt2 HRGT.out)).trans hy0; have HDB := Lib.hid hdb; clear hdb)
          | (go_at_call 65; refine (HDB.out 0).mono ?_; rintro e wc ⟨rfl, hkc, hTc⟩; have hxc := (World.cell?_of_block (a := ⟨gt, j * 2, none⟩) (hkc.2 gt hCgt hgt2 HRGT.out)).trans hx0; have hyc := (World.cell?_of_block (a := ⟨gt, j * 2 + 1, none⟩) (hkc.2 gt hCgt hgt2 HRGT.out)).trans hy0))
      obtain ⟨tt', F', T', hP, hspl⟩ := hTc
      have hgbc := Lib.hid ((hkc.2 gt hCgt hgt2 HRGT.out).trans HGB.out)
      have hbc := Lib.hid ((hkc.2 g hCg hgl HRG.out).trans HBK.out)
      have hszc := hP.2.2.2.2.2
      have HP := Lib.hid hP
      have HSPL := Lib.hid hspl
      have HKC := Lib.hid hkc.1
      have lg : gt < wc.heap.size := by omega
      have hR24 : R.length ≤ 24 := by omega
      have f1 : IntKind.i64.wrap ((j : Int) + 1) = (j : Int) + 1 := IntWalk.i64_in _ (by omega)
      have f2 : (0 : Int) ≤ (j : Int) + 1 := by omega
      have f3 : ((j : Int) + 1).toNat = j + 1 := by omega
      have f4 : (j : Int) + 1 ≤ (R.length : Int) := by omega
      have f5 : (j : Int) ≤ (R.length : Int) := by omega
      have f6 : j ≤ tcap := by omega
      have f7 : j + 1 ≤ R.length := by omega
      have f9 : j + 1 ≤ tcap := by omega
      have f10 : (j : Int) ≤ (j : Int) + 1 := by omega
      have hec : (tcap = j + 1 ∧ R.length = j + 1) ∨ (¬ tcap = j + 1 ∧ 0 ≤ j) := by omega
      clear hxc hyc hxb hyb hkc hkb hP hspl hcap hx0 hy0
      rcases hec with ⟨ecap, etl⟩ | ⟨ecap, etl⟩
      all_goals
        focus
          go_wp2_with fail
          go_region_law (first
            | (refine step_append_own _ (by rfl) _ _ _ (by rfl) wc.heap.size 51 i0 _ 2 16 Try.underlying50 hi hz0 hz1 hzb rfl (by omega) (.slice (some ⟨wc.heap.size, 0, none⟩) 0 0) 0 [] (by rfl) ((World.ownsRow_made wc #[] 0 (Nat.le_refl _) (by decide) rfl).drew) ⟨gt, 0, none⟩ j _ (takCells (R.take j)) (by rfl) (by rw [takCells_len]; simp; omega) (news_take ((Below.heap_alloc wc _ _ lg).trans hgbc.out) HTK.out) (takCells_one _) (by unfold maxLen; omega) (by omega) (by simp) ?_; intro v3 w10 hown3 hgrow3 hnil3; have hB3 : Below wc.heap.size wc w10 := ⟨hgrow3.os, hgrow3.tape, hgrow3.output, Nat.le_trans (by simp) hgrow3.size, (fun i hi => (hgrow3.block i (by simp; omega) (by simp [Value.ownBlock]; omega)).trans (Below.heap_alloc _ _ _ hi))⟩; have HB3 := Lib.hid hB3; have hs3 := hgrow3.size; clear hB3)
            | (refine step_append_own _ (by rfl) _ _ _ (by rfl) wc.heap.size 51 i0 _ 2 16 Try.underlying50 hi hz0 hz1 hzb rfl (by omega) v3 (0 + j) ([] ++ takCells (R.take j)) (by rfl) hown3 _ _ _ (takCells (R.drop (j + 1))) (by rfl) (by rw [takCells_len]; simp; try omega) (by first | exact news_drop ((HB3.out.block gt lg).trans hgbc.out) HTK.out | (intro j u hj; rw [List.drop_of_length_le (by omega)] at hj; simp [takCells] at hj)) (takCells_one _) (by unfold maxLen; omega) (by omega) (by simp at hs3; omega) ?_; intro v4 w11 hown4 hgrow4 hnil4; have hB4 : Below wc.heap.size wc w11 := ⟨hgrow4.os.trans HB3.out.os, hgrow4.tape.trans HB3.out.tape, hgrow4.output.trans HB3.out.output, Nat.le_trans HB3.out.size hgrow4.size, (fun i hi => (hgrow4.block i (by simp at hs3; omega) (fun e => by have := (hown3.lt i e.symm).1; omega)).trans (HB3.out.block i hi))⟩; have HB4 := Lib.hid hB4; have HO4 := Lib.hid (own_app hown4); clear hB4 hown4 hgrow4 hnil4))
          all_goals go_wp2_with fail
          all_goals exact HQ.out _ _ _ _ _ _ _ _ _ _ _ _ _ _ _ _ _ _ _ _ _ _ _ _ _ _ _ _ _ _ _ _ _ _ _ _ _ _ _ _ _ _ _ _ _ _ _ _ _ _ _ _ _ _ _ _ _ _ _ _ _ _ _ _ _ _ _ _ _ _ _ _ _ _ _ _ _ _ _ _ _ _ _ _ _ _ _ _ _ _ _ _ _ _ _ _ _ _ _ _ _ _ _ _ _ _ _ _ _ _ _ _ _ _ _ _ _ _ _ _ _ _ _ _ _ _ _ _ _ _ _ _ _ _ ⟨tt', gone R (t1 : Int) (t2 : Int), F', T', by have := gone_len R (t1 : Int) (t2 : Int); omega, HP.out.newRow ⟨hord.1, by omega⟩ HB4.out (by rw [HER.out]; exact HO4.out) HSPL.out (gone_nodup HTA.out.rnd) (fun t ht => HTA.out.rlt t (gone_sub t ht)), (HB4.out.block g (by omega)).trans hbc.out, (hba.trans HKC.out).trans (HB4.out.mono (by omega))⟩
end Go.Proofs.Ytikahcbkeempdaa
