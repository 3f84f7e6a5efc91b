/- The law MessuageFrags: the walk. -/
import Derived.Test.YtikahcbkeempdaaDoorTopF
import Derived.Deep.RegionHeld3
import Derived.Deep.CutRange
import Derived.Deep.MidRow
namespace Go.Proofs.YtikahcbkeempdaaDoor
open Go.RowKit Go.Maps

def FGRel (w : World) (b C : Nat) (vi v : Value) (wr : World) : Prop :=
  ∃ (i : Nat) (F : Nat → List Nat) (T : List (Nat × Nat)), vi = .int .i64 (i : Int) ∧ i ≤ 40 ∧ T.length ≤ i ∧ FGSt wr b C v F T ∧ Below w.heap.size w wr
def FGCut (w : World) (b C : Nat) (F : Nat → List Nat) (T : List (Nat × Nat)) (v : Value) (wr : World) : Prop := FGSt wr b C v F T ∧ Below w.heap.size w wr
def FGRel2 (w : World) (b C : Nat) (F : Nat → List Nat) (T : List (Nat × Nat)) (v : Value) (vi : Value) (wr : World) : Prop :=
  ∃ i : Nat, vi = .int .i64 (i : Int) ∧ i ≤ 6 ∧ FGSt wr b C v F T ∧ Below w.heap.size w wr

set_option maxRecDepth 100000 in
set_option maxHeartbeats 4000000 in
theorem messuageFrags_walk (a : Option Addr) (len cap : Nat) (z : Nat → Int) (a2 : Option Addr) (len2 cap2 : Nat) (z2 : Nat → Int) (w : World) (hz : IntsAt w a len z) (hmax : len ≤ 9223372036854775807) (hz2 : IntsAt w a2 len2 z2) (hmax2 : len2 ≤ 9223372036854775807) :
    Calls Tryd.prog 4 #[.slice a len cap, .slice a2 len2 cap2] w fun e w' => e = .returned (.bool true) ∧ Below w.heap.size w w' := by
  obtain ⟨i0, hi, hz0, hz1, hzb⟩ := info_parts infoP
  have HZ := Lib.hid hz
  have HZ2 := Lib.hid hz2
  clear hz hz2
  go_enter Tryd.func4, Tryd.ntmps4
  go_wp2_with fail
  refine (new_ok 64 6 (by omega) rfl _).mono ?_
  rintro e w1 ⟨rfl, hB1, hb1⟩
  go_wp2_with fail
  refine (stands_any _).mono ?_
  rintro e w2 ⟨rfl, hb2⟩
  have hB2 := hB1.same (w' := w2) (fun i _ h => hb2.block i (by have := hB1.lt; omega))
  have hb12 := hb1.trans (hb2.mono hb1.size)
  go_wp2_with fail
  refine (halvesT_any _).mono ?_
  rintro e w3 ⟨rfl, hb3⟩
  have hB3 := hB2.same (w' := w3) (fun i _ h => hb3.block i (by have := hB2.lt; omega))
  have hb13 := hb12.trans (hb3.mono hb12.size)
  have hL := hB3.lt
  have h3 : FGSt w3 w.heap.size w3.heap.size (.slice none 0 0) (Bu.newF 64) [] := ⟨hB3, Bu.inv_new (N := 6) (by decide) rfl, World.ownsRow_nil _ _ _ _, hL, Nat.le_refl _⟩
  have H3 := Lib.hid h3
  obtain ⟨C, hC⟩ : ∃ C, w3.heap.size = C := ⟨_, rfl⟩
  rw [hC] at H3
  clear hB1 hB2 hB3 hb1 hb2 hb3 hb12 hL h3 hC
  generalize hbb : w.heap.size = bb at *
  have HBB := Lib.hid hbb
  clear hbb
  go_wp2_with fail
  go_loopw [8, 7] (fun vi v wr => FGRel w bb C vi v wr) (fun vi _ _ => len - (intOf vi).toNat)
  case atStart => exact ⟨0, _, _, rfl, by omega, Nat.le_refl _, H3.out, by rw [HBB.out]; exact hb13⟩
  case round =>
    clear H3 hb13
    obtain ⟨i, F, T, rfl, hi40, hTi, hS, hb⟩ := hrel
    have HS := Lib.hid hS
    by_cases e : i < len ∧ i < 40
    · obtain ⟨e1, e2⟩ := e
      have c1 : (i : Int) < (len : Int) := by omega
      have c2 : (i : Int) < 40 := by omega
      obtain ⟨b, off, rfl, hbl, hcell⟩ := HZ.out (by omega)
      have hc := (hb.cell (p := ⟨b, off + i, none⟩) (by rw [HBB.out]; rw [HBB.out] at hbl; exact hbl)).trans (hcell i e1).1
      obtain ⟨o, ho, ho1⟩ := u64mod' (z i) 3 (by decide)
      clear hcell
      obtain ⟨x, g, F', T', hcall, hI', hcase⟩ := take_either hS.bud hS.inv o (by omega)
      have CALL := Lib.hid hcall
      have HI' := Lib.hid hI'
      have HC := Lib.hid hcase
      clear hcall hI' hcase hS
      go_wp2_with fail
      refine CALL.out.mono ?_
      rintro e w4 ⟨rfl, hB4, hk4⟩
      have HB4 := Lib.hid hB4
      have hrow4 := HS.out.row hk4
      have hsz4 := hk4.size
      have hlt4 := HS.out.lt
      have hb4 := hb.trans (hk4.below (B := w.heap.size) (by rw [HBB.out]; exact Nat.le_refl _) (hb.size))
      clear hB4 hk4 hb hc
      go_upto_if 56 with (fail)
      go_cut [7] from 32 to 111 (fun s wx => FGCut w bb C F' T' s wx)
      case first =>
        rcases HC.out with ⟨hg0, hT'⟩ | ⟨hg5, hT'⟩
        · have hgb : (g == 0) = true := by rw [hg0]; rfl
          have HT' := Lib.hid hT'
          clear hT' hg0
          go_wp2_with (first
            | (at_builtin; refine wpList_append_own _ rfl _ _ 52 rfl C 53 i0 _ 2 16 Tryd.underlying52 hi hz0 hz1 hzb rfl (by decide) _ _ _ rfl (hrow4.alloc _) ⟨w4.heap.size, 0, none⟩ 1 1 [.int .i64 (x : Int), .int .i64 (o : Int)] rfl rfl (World.news_of_block (cs := #[.int .i64 (x : Int), .int .i64 (o : Int)]) (t := 53) (fr := (0, 0)) (heap_alloc_new w4 _)) (by simp [Value.oneCell']) (by unfold maxLen; omega) (by omega) (by simp; omega) ?_; intro v' w7 hown7 hg7 hnil7))
          go_meet
          refine ⟨FGSt.app HB4.out HI'.out ⟨hlt4.1, by omega⟩ (fun k hk => (hrow4.lt k hk).1) hg7 ?_, (hb4.alloc (by have := hb4.size; omega) _).grown hg7 (by have := hb4.size; simp; omega) (fun k hk => by have := (hrow4.lt k hk).1; rw [HBB.out]; omega)⟩
          rw [HT'.out, takCells_snoc, List.length_append]
          exact hown7
        · have hgb : (g == 0) = false := by rw [hg5]; rfl
          have HT' := Lib.hid hT'
          clear hT' hg5
          go_wp2_with fail
          go_meet
          refine ⟨⟨HB4.out, HI'.out, ?_, hlt4.1, by omega⟩, hb4⟩
          rw [HT'.out]
          exact hrow4
      case rest =>
        obtain ⟨hS, hb⟩ := hcut
        have hTl : T'.length ≤ i + 1 := by
          rcases HC.out with ⟨_, h⟩ | ⟨_, h⟩
          · rw [h]; simp; omega
          · rw [h]; omega
        clear hrow4 hb4 CALL HB4 HS HC
        have HS := Lib.hid hS
        obtain ⟨oa, tcap, rfl, htc, hsh⟩ := own_shape2 hS.tak
        clear hsh
        by_cases hgv : i < len2 ∧ (z2 i).tmod 2 = 0 ∧ 0 < T'.length
        · obtain ⟨e3, e4, e5⟩ := hgv
          have c4 : (i : Int) < (len2 : Int) := by omega
          have c0 : (0 : Int) ≤ (i : Int) := by omega
          obtain ⟨b2, off2, rfl, hbl2, hcell2⟩ := HZ2.out (by omega)
          have hc2 := (hb.cell (p := ⟨b2, off2 + i, none⟩) (by rw [HBB.out]; rw [HBB.out] at hbl2; exact hbl2)).trans (hcell2 i e3).1
          clear hcell2
          obtain ⟨y, hy⟩ : ∃ y, z2 i = y := ⟨_, rfl⟩
          rw [hy] at hc2 e4
          have hd0 : (y.tmod 2 == 0) = true := by rw [e4]; rfl
          obtain ⟨j, hj0, hj1⟩ := u64mod' y (T'.length : Int) (by omega)
          have hwl : IntKind.u64.wrap (T'.length : Int) = (T'.length : Int) := IntWalk.u64_in _ (by omega)
          have hwj : IntKind.i64.wrap (j : Int) = (j : Int) := IntWalk.i64_in _ (by omega)
          have ht0 : ((T'.length : Int) == 0) = false := by rw [beq_eq_false_iff_ne]; omega
          have ht1 : ¬ (T'.length : Int) = 0 := by omega
          have ct : (0 : Int) < (T'.length : Int) := by omega
          have hjT : j < T'.length := by omega
          obtain ⟨g2, cap2', cur, hv, hgb, hcap, htk⟩ := own_block2 hS.tak (by omega)
          obtain ⟨rfl, rfl⟩ : oa = some ⟨g2, 0, none⟩ ∧ tcap = cap2' := by cases hv; exact ⟨rfl, rfl⟩
          clear hv
          have hgC : C ≤ g2 := (hS.tak.lt g2 rfl).1
          have hgl : g2 < wc.heap.size := (Array.getElem?_eq_some_iff.1 hgb).1
          have hgB : ¬ (bb ≤ g2 ∧ g2 < bb + 13) := by have := hS.lt.1; omega
          have hx0 : wc.cell? ⟨g2, j * 2, none⟩ = some (.int .i64 ((T'[j]).1 : Int)) := by
            rw [hS.tak.cellAt (j * 2) (by omega)]
            have h1 := (takCells_at T' hjT).1
            have h2 : j * 2 < (takCells T').length := by rw [takCells_len]; omega
            simpa [h2] using h1
          have hy0 : wc.cell? ⟨g2, j * 2 + 1, none⟩ = some (.int .i64 ((T'[j]).2 : Int)) := by
            rw [hS.tak.cellAt (j * 2 + 1) (by omega)]
            have h1 := (takCells_at T' hjT).2
            have h2 : j * 2 + 1 < (takCells T').length := by rw [takCells_len]; omega
            simpa [h2] using h1
          have hm : T'[j] ∈ T' := List.getElem_mem hjT
          have her := hS.inv.erase_nth hjT
          obtain ⟨t1, ht1'⟩ : ∃ t1, (T'[j]).1 = t1 := ⟨_, rfl⟩
          obtain ⟨t2, ht2'⟩ : ∃ t2, (T'[j]).2 = t2 := ⟨_, rfl⟩
          have htt : T'[j] = (t1, t2) := Prod.ext ht1' ht2'
          rw [htt] at hm her hx0 hy0
          have hG := Lib.hid (fun m => give_inv (hS.bud.drewN m) hS.inv t1 t2 hm)
          have hIg := Lib.hid (hS.inv.give hm)
          have HER := Lib.hid her
          have HTK := Lib.hid htk
          have HGB := Lib.hid hgb
          have hgj0 : (0 : Int) ≤ (j : Int) := by omega
          have hgj1 : (j : Int) < (T'.length : Int) := by omega
          have hT40 : T'.length ≤ 41 := by omega
          have hlt := hS.lt
          have hTN : ¬ T' = [] := fun h => by rw [h] at ct; simp at ct
          clear hm her ht1' ht2' htt htk hgb hy hS
          go_wp2_with fail
          go_region_held3 (fun w' => w'.cell? ⟨g2, j * 2, none⟩ = some (.int .i64 (t1 : Int)) ∧ w'.cell? ⟨g2, j * 2 + 1, none⟩ = some (.int .i64 (t2 : Int)))
            (first | (go_split_ands; refine ⟨?_, ?_⟩ <;> assumption) | go_keep)
            ((go_at_call 27; refine (hG.out 1).mono ?_; rintro e w8 ⟨rfl, hB8, hk8⟩; have hx8 := (World.cell?_of_block (a := ⟨g2, j * 2, none⟩) (hk8.block g2 hgl hgB)).trans hx0; have hy8 := (World.cell?_of_block (a := ⟨g2, j * 2 + 1, none⟩) (hk8.block g2 hgl hgB)).trans hy0))
          have hb8 := (hb.trans (drewN_below wc 1 _)).trans (hk8.below (B := w.heap.size) (by rw [HBB.out]; exact Nat.le_refl _) hb.size)
          have hs8 : wc.heap.size ≤ w8.heap.size := hk8.size
          have lg : g2 < w8.heap.size := by omega
          have hgb8 := Lib.hid ((hk8.block g2 hgl hgB).trans HGB.out)
          have HB8 := Lib.hid hB8
          have f1 : IntKind.i64.wrap ((j : Int) + 1) = (j : Int) + 1 := IntWalk.i64_in _ (by omega)
          have f2 : (0 : Int) ≤ (j : Int) + 1 := by omega
          have f3 : ((j : Int) + 1).toNat = j + 1 := by omega
          have f4 : (j : Int) + 1 ≤ (T'.length : Int) := by omega
          have f5 : (j : Int) ≤ (T'.length : Int) := by omega
          have f6 : j ≤ tcap := by omega
          have f7 : j + 1 ≤ T'.length := by omega
          have f9 : j + 1 ≤ tcap := by omega
          have f10 : (j : Int) ≤ (j : Int) + 1 := by omega
          have hec : (tcap = j + 1 ∧ T'.length = j + 1) ∨ (¬ tcap = j + 1 ∧ 0 ≤ j) := by omega
          clear hx8 hy8 hB8 hk8 hb hx0 hy0 hcap hgl hj0 hj1 hwl hwj ht0 ht1 hd0 e4 hc2
          rcases hec with ⟨ecap, etl⟩ | ⟨ecap, etl⟩
          all_goals
            go_wp2_with fail
            go_region_law (first
              | (refine step_append_own _ (by rfl) _ _ _ (by rfl) w8.heap.size 53 i0 _ 2 16 Tryd.underlying52 hi hz0 hz1 hzb rfl (by omega) (.slice (some ⟨w8.heap.size, 0, none⟩) 0 0) 0 [] (by rfl) ((World.ownsRow_made w8 #[] 0 (Nat.le_refl _) (by decide) rfl).drew) ⟨g2, 0, none⟩ j _ (takCells (T'.take j)) (by rfl) (by rw [takCells_len]; simp; omega) (news_take ((Below.heap_alloc w8 _ _ lg).trans hgb8.out) HTK.out) (takCells_one _) (by unfold maxLen; omega) (by omega) (by simp) ?_; intro v3 w9 hown3 hgrow3 hnil3; have hB3 : Below w8.heap.size w8 w9 := ⟨hgrow3.os, hgrow3.tape, hgrow3.output, Nat.le_trans (by simp) hgrow3.size, (fun i hi => (hgrow3.block i (by simp; omega) (by simp [Value.ownBlock]; omega)).trans (Below.heap_alloc _ _ _ hi))⟩; have HB3 := Lib.hid hB3; have hs3 := hgrow3.size; clear hB3)
              | (refine step_append_own _ (by rfl) _ _ _ (by rfl) w8.heap.size 53 i0 _ 2 16 Tryd.underlying52 hi hz0 hz1 hzb rfl (by omega) v3 (0 + j) ([] ++ takCells (T'.take j)) (by rfl) hown3 _ _ _ (takCells (T'.drop (j + 1))) (by rfl) (by rw [takCells_len]; simp; try omega) (by first | exact news_drop ((HB3.out.block g2 lg).trans hgb8.out) HTK.out | (intro j u hj; rw [List.drop_of_length_le (by omega)] at hj; simp [takCells] at hj)) (takCells_one _) (by unfold maxLen; omega) (by omega) (by simp at hs3; omega) ?_; intro v4 w10 hown4 hgrow4 hnil4; have hB4 : Below w8.heap.size w8 w10 := ⟨hgrow4.os.trans HB3.out.os, hgrow4.tape.trans HB3.out.tape, hgrow4.output.trans HB3.out.output, Nat.le_trans HB3.out.size hgrow4.size, (fun i hi => (hgrow4.block i (by simp at hs3; omega) (fun e => by have := (hown3.lt i e.symm).1; omega)).trans (HB3.out.block i hi))⟩; have HB4 := Lib.hid hB4; have HO4 := Lib.hid (own_app hown4); clear hB4 hown4 hgrow4 hnil4))
            all_goals go_wp2_with fail
            all_goals go_roundw
            case rel => exact ⟨i + 1, _, T'.erase (t1, t2), by go_num, by omega, by rw [HER.out]; simp; omega, FGSt.newS HB8.out hIg.out ⟨hlt.1, by omega⟩ HB4.out (by rw [HER.out]; exact HO4.out), hb8.trans (HB4.out.mono hb8.size)⟩
            case measure => simp [intOf]; omega
        · have hno : (¬ i < len2) ∨ (i < len2 ∧ ((z2 i).tmod 2 == 0) = false) ∨ (i < len2 ∧ ((z2 i).tmod 2 == 0) = true ∧ T'.length ≤ 0) := by
            by_cases e3 : i < len2
            · by_cases e4 : (z2 i).tmod 2 = 0
              · exact .inr (.inr ⟨e3, by simpa using e4, by have := fun h => hgv ⟨e3, e4, h⟩; omega⟩)
              · exact .inr (.inl ⟨e3, by simpa using e4⟩)
            · exact .inl e3
          clear hgv hS
          rcases hno with e3 | ⟨e3, e4⟩ | ⟨e3, e4, e5⟩
          · have c4 : ¬ (i : Int) < (len2 : Int) := by omega
            go_wp2_with fail
            go_roundw
            case rel => exact ⟨i + 1, F', T', by go_num, by omega, by omega, HS.out, hb⟩
            case measure => simp [intOf]; omega
          · have c4 : (i : Int) < (len2 : Int) := by omega
            have c0 : (0 : Int) ≤ (i : Int) := by omega
            obtain ⟨b2, off2, rfl, hbl2, hcell2⟩ := HZ2.out (by omega)
            have hc2 := (hb.cell (p := ⟨b2, off2 + i, none⟩) (by rw [HBB.out]; rw [HBB.out] at hbl2; exact hbl2)).trans (hcell2 i e3).1
            clear hcell2
            generalize z2 i = y at *
            go_wp2_with fail
            go_roundw
            case rel => exact ⟨i + 1, F', T', by go_num, by omega, by omega, HS.out, hb⟩
            case measure => simp [intOf]; omega
          · have c4 : (i : Int) < (len2 : Int) := by omega
            have c0 : (0 : Int) ≤ (i : Int) := by omega
            have ct : ¬ (0 : Int) < (T'.length : Int) := by omega
            obtain ⟨b2, off2, rfl, hbl2, hcell2⟩ := HZ2.out (by omega)
            have hc2 := (hb.cell (p := ⟨b2, off2 + i, none⟩) (by rw [HBB.out]; rw [HBB.out] at hbl2; exact hbl2)).trans (hcell2 i e3).1
            clear hcell2
            generalize z2 i = y at *
            go_wp2_with fail
            go_roundw
            case rel => exact ⟨i + 1, F', T', by go_num, by omega, by omega, HS.out, hb⟩
            case measure => simp [intOf]; omega
    · have hcase : (¬ (i : Int) < (len : Int)) ∨ ((i : Int) < (len : Int) ∧ ¬ (i : Int) < 40) := by omega
      clear e
      rcases hcase with c1 | ⟨c1, c2⟩
      all_goals
        clear hS
        go_wp2_with fail
        go_loopw [13] (fun vi wr => FGRel2 w bb C F T u7 vi wr) (fun vi _ => 6 - (intOf vi).toNat)
        case atStart => exact ⟨0, rfl, by omega, HS.out, hb⟩
        case round =>
          clear HS hb
          obtain ⟨o, rfl, ho6, hS, hb⟩ := hrel
          have HS := Lib.hid hS
          have hI := hS.inv
          by_cases e : o < 6
          · have co : (o : Int) < 6 := by omega
            obtain ⟨x1, hx1⟩ : ∃ x1, fitF (cntF F) (o + 1) (11 - (o + 1)) = x1 := ⟨_, rfl⟩
            obtain ⟨x0, hx0⟩ : ∃ x0, fitF (cntF F) o (11 - o) = x0 := ⟨_, rfl⟩
            have hx10 : 2 * x1 ≤ x0 := by
              have h := fit_half (cntF F) o (11 - (o + 1))
              rw [show 11 - (o + 1) + 1 = 11 - o by omega, hx0, hx1] at h
              omega
            have hx1l : x1 ≤ 1024 := by rw [← hx1]; exact fitF_le hI (by omega)
            have hx0l : x0 ≤ 1024 := by rw [← hx0]; exact fitF_le hI (by omega)
            have h1 := fits_any (runsLike_bud hS.bud hI) (cntF_le hI) (o + 1) (by omega) (fitF_le hI (by omega))
            rw [hx1, Int.natCast_add, Int.natCast_one] at h1
            have H1 := Lib.hid h1
            have HX0 := Lib.hid hx0
            clear h1 hx1 hx0 hS
            go_wp2_with fail
            refine H1.out.mono ?_
            rintro e w5 ⟨rfl, hb5⟩
            have hS5 := HS.out.below hb5
            have hbb5 := hb.trans (hb5.mono hb.size)
            have h2 := fits_any (runsLike_bud hS5.bud hI) (cntF_le hI) o (by omega) (fitF_le hI (by omega))
            rw [HX0.out] at h2
            have H2 := Lib.hid h2
            have HS5 := Lib.hid hS5
            clear h2 hS5 hb hb5 HS H1
            go_wp2_with fail
            refine H2.out.mono ?_
            rintro e w6 ⟨rfl, hb6⟩
            have hS6 := HS5.out.below hb6
            have hbb6 := hbb5.trans (hb6.mono hbb5.size)
            have hsl := hI.sum_le
            obtain ⟨s, hs⟩ : ∃ s, Bu.sumF F 11 = s := ⟨_, rfl⟩
            rw [hs] at hsl
            have HSS := Lib.hid hs
            have hfl := freeLike_bud hS6.bud hI
            rw [hs] at hfl
            have HS6 := Lib.hid hS6
            clear hbb5 hb6 HS5 H2 hs
            by_cases es : s = 0
            · subst es
              have H3 := Lib.hid (index_zero hfl o (by omega))
              have h4 := index_zero hfl (o + 1) (by omega)
              rw [Int.natCast_add, Int.natCast_one] at h4
              have H4 := Lib.hid h4
              have H5 := Lib.hid (hfl _ (Below.refl _ _))
              clear h4 hfl hS6
              go_wp2_with fail
              refine H3.out.mono ?_
              rintro e w7 ⟨rfl, rfl⟩
              go_wp2_with fail
              refine H4.out.mono ?_
              rintro e w7 ⟨rfl, rfl⟩
              go_wp2_with fail
              refine H5.out.mono ?_
              rintro e w7 ⟨rfl, rfl⟩
              go_wp2_with fail
              go_roundw
              case rel => exact ⟨o + 1, by go_num, by omega, HS6.out, hbb6⟩
              case measure => simp [intOf]; omega
            · have hi0 := index_any (runsLike_bud hS6.bud hI) hfl (by omega) (by omega) (cntF_le hI) o (by omega) (fitF_le0 hI (by omega))
              obtain ⟨q0, hq0⟩ : ∃ q0, 1000 * fitF (cntF F) 0 o / s = q0 := ⟨_, rfl⟩
              obtain ⟨q1, hq1⟩ : ∃ q1, 1000 * fitF (cntF F) 0 (o + 1) / s = q1 := ⟨_, rfl⟩
              have hqq : q0 ≤ q1 := by
                rw [← hq0, ← hq1]
                exact Nat.div_le_div_right (Nat.mul_le_mul_left _ (fitF_mono _ _ (by omega)))
              have hq1l : q1 ≤ 1000 := by
                rw [← hq1]
                refine Nat.div_le_of_le_mul ?_
                rw [Nat.mul_comm s]
                refine Nat.mul_le_mul_left _ ?_
                rw [fitF_zero (by omega), ← HSS.out]
                exact Bu.sumF_mono F (by omega)
              rw [hq0] at hi0
              have H3 := Lib.hid hi0
              have HFL := Lib.hid hfl
              have HQ1 := Lib.hid hq1
              have sp : (0 : Int) < (s : Int) := by omega
              clear hi0 hfl hq0 hq1 hS6
              go_wp2_with fail
              refine H3.out.mono ?_
              rintro e w7 ⟨rfl, hb7⟩
              have hS7 := HS6.out.below hb7
              have hbb7 := hbb6.trans (hb7.mono hbb6.size)
              have hi1 := index_any (runsLike_bud hS7.bud hI) (HFL.out.below hb7) (by omega) (by omega) (cntF_le hI) (o + 1) (by omega) (fitF_le0 hI (by omega))
              rw [HQ1.out, Int.natCast_add, Int.natCast_one] at hi1
              have H4 := Lib.hid hi1
              have HF7 := Lib.hid (HFL.out.below hb7)
              have HS7 := Lib.hid hS7
              clear hi1 hS7 hbb6 hb7 HFL HS6
              go_wp2_with fail
              refine H4.out.mono ?_
              rintro e w8 ⟨rfl, hb8⟩
              have hS8 := HS7.out.below hb8
              have hbb8 := hbb7.trans (hb8.mono hbb7.size)
              have H5 := Lib.hid ((HF7.out.below hb8) _ (Below.refl _ _))
              have HS8 := Lib.hid hS8
              clear hS8 hbb7 hb8 HF7 HS7
              go_wp2_with fail
              refine H5.out.mono ?_
              rintro e w9 ⟨rfl, rfl⟩
              go_wp2_with fail
              go_roundw
              case rel => exact ⟨o + 1, by go_num, by omega, HS8.out, hbb8⟩
              case measure => simp [intOf]; omega
          · have co : ¬ (o : Int) < 6 := by omega
            have h1 := fits_any (runsLike_bud hS.bud hI) (cntF_le hI) 0 (by omega) (fitF_le hI (by omega))
            rw [show 11 - 0 = 11 from rfl, fitF_zero (by omega)] at h1
            obtain ⟨s, hs⟩ : ∃ s, Bu.sumF F 11 = s := ⟨_, rfl⟩
            have hfl := freeLike_bud hS.bud hI
            rw [hs] at h1 hfl
            have H1 := Lib.hid h1
            have HFL := Lib.hid hfl
            clear h1 hfl hs hS
            go_wp2_with fail
            refine H1.out.mono ?_
            rintro e w5 ⟨rfl, hb5⟩
            have H2 := Lib.hid (HFL.out _ hb5)
            go_wp2_with fail
            refine H2.out.mono ?_
            rintro e w6 ⟨rfl, rfl⟩
            go_wp2_with fail
            go_ret
            exact ⟨rfl, hb.trans (hb5.mono hb.size)⟩

end Go.Proofs.YtikahcbkeempdaaDoor
