/- The law MessuageRuns: the walk. -/
import Derived.Test.YtikahcbkeempdaaDoorTopR
import Derived.Deep.RegionHeld3
import Derived.Deep.CutRange
import Derived.Deep.CutBlock
import Derived.Deep.MidRow
namespace Go.Proofs.YtikahcbkeempdaaDoor
open Go.RowKit Go.Maps

def MRRel (w : World) (bb0 hp mb sb fb tb mt mf C1 C : Nat) (nv : Value) (bb : Nat → Nat) (vi v vp : Value) (wr : World) : Prop :=
  ∃ (i : Nat) (R : List (Nat × Nat)) (P : List Nat) (F : Nat → Nat → List Nat) (T : Nat → List (Nat × Nat)) (pg : Nat), vi = .int .i64 (i : Int) ∧ vp = .int .i64 (pg : Int) ∧ pg = P.length + 1 ∧ i ≤ 24 ∧ R.length ≤ i ∧ P.length ≤ 8 * i ∧
    RunW wr hp mb sb fb tb mt mf C1 C nv bb v R P F T ∧ RunN R P T ∧ Below bb0 w wr
def MRCut (n4 : Nat) (wr : World) (vn : Value) (wx : World) : Prop := ∃ n : Nat, n < n4 ∧ vn = .int .i64 (n : Int) ∧ wx = wr
def MRIn (w : World) (bb0 hp mb sb fb tb mt mf C1 C : Nat) (nv : Value) (bb : Nat → Nat) (v : Value) (R : List (Nat × Nat)) (F : Nat → Nat → List Nat) (T : Nat → List (Nat × Nat)) (f0 o L0 : Nat) (vk vp : Value) (wr : World) : Prop :=
  ∃ (k : Nat) (P : List Nat) (pg : Nat), vk = .int .i64 (k : Int) ∧ vp = .int .i64 (pg : Int) ∧ pg = P.length + 1 ∧ k ≤ 2 ^ o ∧ P.length = L0 + k ∧ RunW wr hp mb sb fb tb mt mf C1 C nv bb v R P F T ∧ RunI R P f0 k ∧ Below bb0 w wr

def MR3 (w : World) (bb0 hp mb sb fb tb mt mf C1 C : Nat) (nv : Value) (bb : Nat → Nat) (v : Value) (R : List (Nat × Nat)) (P : List Nat) (F : Nat → Nat → List Nat) (T : Nat → List (Nat × Nat)) (pg : Nat) (vp : Value) (wr : World) : Prop :=
  ∃ p : Nat, vp = .int .i64 (p : Int) ∧ 1 ≤ p ∧ p ≤ pg ∧ RunW wr hp mb sb fb tb mt mf C1 C nv bb v R P F T ∧ Below bb0 w wr
def MR4 (w : World) (bb0 hp mb sb fb tb mt mf C1 C : Nat) (nv : Value) (bb : Nat → Nat) (v : Value) (R : List (Nat × Nat)) (P : List Nat) (vi : Value) (wr : World) : Prop :=
  ∃ (i : Nat) (F : Nat → Nat → List Nat) (T : Nat → List (Nat × Nat)), vi = .int .i64 (i : Int) ∧ i ≤ R.length ∧ RunW wr hp mb sb fb tb mt mf C1 C nv bb v R P F T ∧ (∀ j, j < 4 → T j = spl 16 (R.drop i) j) ∧ Below bb0 w wr

set_option maxRecDepth 100000 in
set_option maxHeartbeats 40000000 in
theorem messuageRuns_walk (a : Option Addr) (len cap : Nat) (z : Nat → Int) (a2 : Option Addr) (len2 cap2 : Nat) (z2 : Nat → Int) (w : World) (hz : IntsAt w a len z) (hmax : len ≤ 9223372036854775807) (hz2 : IntsAt w a2 len2 z2) (hmax2 : len2 ≤ 9223372036854775807) :
    Calls Tryd.prog 5 #[.slice a len cap, .slice a2 len2 cap2] w fun e w' => e = .returned (.bool true) ∧ Below w.heap.size w w' := by
  obtain ⟨i0, hi, hz0, hz1, hzb⟩ := info_parts infoP
  have HZ := Lib.hid hz
  have HZ2 := Lib.hid hz2
  clear hz hz2
  go_enter Tryd.func5, Tryd.ntmps5
  go_wp2_with fail
  refine (hnew_any 4 16 4 1 1 1 _ (by omega) (by omega) (by omega) rfl).mono ?_
  rintro e w1 hpost
  obtain ⟨hp, nv, bb, rfl, hH1, hS1, hb1⟩ := hpost.ok ⟨by omega, by omega, by omega, by omega⟩
  obtain ⟨C1, hC1⟩ : ∃ C1, w1.heap.size = C1 := ⟨_, rfl⟩
  have hst := storeNew_ok w1
  rw [hC1] at hst hS1
  obtain ⟨sb, hsb⟩ : ∃ sb, C1 + 1 = sb := ⟨_, rfl⟩
  rw [hsb] at hst
  have HSB := Lib.hid hsb
  have H1 := Lib.hid hH1
  have HS := Lib.hid hS1
  have HC1 := Lib.hid hC1
  clear hpost hH1 hS1 hC1 hsb
  go_wp2_with fail
  refine hst.mono ?_
  rintro e w2 ⟨rfl, hS2, hb2, hs2⟩
  have hmm := memNew_ok hS2 (by have := HSB.out; omega)
  rw [hs2] at hmm
  obtain ⟨mb, hmb⟩ : ∃ mb, C1 + 2 + 3 = mb := ⟨_, rfl⟩
  obtain ⟨tb, htb⟩ : ∃ tb, C1 + 2 + 2 = tb := ⟨_, rfl⟩
  obtain ⟨mf, hmf⟩ : ∃ mf, C1 + 2 + 1 = mf := ⟨_, rfl⟩
  obtain ⟨mt, hmt⟩ : ∃ mt, C1 + 2 = mt := ⟨_, rfl⟩
  rw [hmb, htb, hmf, hmt] at hmm
  have HMB := Lib.hid hmb
  have HMT := Lib.hid hmt
  clear hst hs2 hmb htb hmf hmt
  go_wp2_with fail
  refine hmm.mono ?_
  rintro e w3 ⟨rfl, hM3, hb3, hs3⟩
  have HM3 := Lib.hid hM3
  have HS3 := Lib.hid hs3
  clear hmm hM3 hs3
  go_wp2_with fail
  refine (stands_any _).mono ?_
  rintro e w4 ⟨rfl, hb4⟩
  go_wp2_with fail
  refine (halvesT_any _).mono ?_
  rintro e w5 ⟨rfl, hb5⟩
  have hb35 := hb4.trans (hb5.mono hb4.size)
  have hC1 := HC1.out
  have hs2 := hb2.size
  have hs3 := hb3.size
  have hs5 := hb35.size
  have hH5 := ((H1.out.low HS.out fun i hi => hb2.block i hi).low HS.out (w' := w3) fun i hi => hb3.block i (by have := HMT.out; omega)).low HS.out (w' := w5) fun i hi => hb35.block i (by omega)
  have hM5 := HM3.out.below hb35
  have hB5 : Below w.heap.size w w5 := ((hb1.trans (hb2.mono (by have := hb1.size; omega))).trans (hb3.mono (by have := hb1.size; have := HMT.out; omega))).trans (hb35.mono (by have := hb1.size; omega))
  obtain ⟨C, hC⟩ : ∃ C, w5.heap.size = C := ⟨_, rfl⟩
  have h5 : RunW w5 hp mb sb C1 tb mt mf C1 C nv bb (.slice none 0 0) [] [] (fun _ => Bu.newF 16) (fun _ => []) :=
    ⟨hH5, hM5, World.ownsRow_nil _ _ _ _, Nat.le_refl _, by have := HM3.out.lt; omega, by omega⟩
  have H5 := Lib.hid h5
  have hspb : ∀ j, j < 4 → w.heap.size ≤ bb j ∧ bb j + 13 ≤ C1 := HS.out.bb
  have hfbb : w.heap.size ≤ C1 := by have := HS.out.hp; omega
  obtain ⟨bb0, hbb0⟩ : ∃ b, w.heap.size = b := ⟨_, rfl⟩
  rw [hbb0] at hB5 hspb hfbb HS
  have HBB := Lib.hid hbb0
  clear hb1 hb2 hb3 hb4 hb5 hb35 hC1 hs2 hs3 hs5 hH5 hM5 h5 HM3 HS3 H1 HC1 hC hS2 HMB HMT HSB hbb0
  go_wp2_with fail
  go_loopw [13, 11, 12] (fun vi v vp wr => MRRel w bb0 hp mb sb C1 tb mt mf C1 C nv bb vi v vp wr) (fun vi _ _ _ => len - (intOf vi).toNat)
  case atStart => exact ⟨0, [], [], _, _, 1, rfl, rfl, rfl, by omega, by simp, by simp, H5.out, ⟨fun _ _ => rfl, List.nodup_nil, (fun _ h => by cases h), List.nodup_nil, (fun _ h => by cases h), (fun _ h => by cases h)⟩, hB5⟩
  case round =>
    clear H5 hB5
    obtain ⟨i, R, P, F, T, pg, rfl, rfl, hpg, hi24, hRi, hPi, hW, hN, hb⟩ := hrel
    have HPG := Lib.hid hpg
    clear hpg
    have HW := Lib.hid hW
    have HN := Lib.hid hN
    by_cases e : i < len ∧ i < 24
    · obtain ⟨e1, e2⟩ := e
      have c1 : (i : Int) < (len : Int) := by omega
      have c2 : (i : Int) < 24 := by omega
      obtain ⟨b, off, rfl, hbl, hcell⟩ := HZ.out (by omega)
      have hc := (hb.cell (p := ⟨b, off + i, none⟩) (by rw [HBB.out] at hbl; exact hbl)).trans (hcell i e1).1
      obtain ⟨o, ho, ho1⟩ := u64mod' (z i) 4 (by decide)
      clear hcell hW hN
      go_upto_if 77 with (fail)
      go_cut [15] from 77 to 84 (fun vn wx => MRCut 4 wr vn wx)
      case first =>
        by_cases e3 : i < len2
        · have c4 : (i : Int) < (len2 : Int) := by omega
          obtain ⟨b2, off2, rfl, hbl2, hcell2⟩ := HZ2.out (by omega)
          have hc2 := (hb.cell (p := ⟨b2, off2 + i, none⟩) (by rw [HBB.out] at hbl2; exact hbl2)).trans (hcell2 i e3).1
          obtain ⟨n, hn, hn1⟩ := u64mod' (z2 i) 4 (by decide)
          clear hcell2
          go_wp2_with fail
          go_meet
          exact ⟨n, by omega, rfl, rfl⟩
        · have c4 : ¬ (i : Int) < (len2 : Int) := by omega
          go_wp2_with fail
          go_meet
          exact ⟨0, by omega, rfl, rfl⟩
      case rest =>
        obtain ⟨n, hn4, rfl, rfl⟩ := hcut
        clear hc ho
        have hW := HW.out
        cases hm : mayF (F n) 1 (o : Int) with
        | false =>
          have HT := Lib.hid (htake_nomem hW.heap n hn4 o (by omega) hm)
          clear hm hW
          go_wp2_with fail
          refine HT.out.mono ?_
          rintro e w3 ⟨rfl, k3, hw3⟩
          have h3 : RunW w3 hp mb sb C1 tb mt mf C1 C nv bb u11 R P F T := by rw [hw3]; exact HW.out.drewN k3
          have hb3 : Below bb0 w w3 := by rw [hw3]; exact hb.trans (drewN_below _ _ _)
          have H3 := Lib.hid h3
          clear h3 hw3 hb HW
          by_cases hn0 : n = 0
          · subst hn0
            go_wp2_with fail
            go_roundw
            case rel => exact ⟨i + 1, R, P, F, T, pg, by go_num, rfl, HPG.out, by omega, by omega, by omega, H3.out, HN.out, hb3⟩
            case measure => simp [intOf]; omega
          · have hn0' : ((0 : Int) == (n : Int)) = false := by rw [beq_eq_false_iff_ne]; omega
            have hn0'' : ¬ (0 : Int) = (n : Int) := by omega
            go_wp2_with fail
            go_roundw
            case rel => exact ⟨i + 1, R, P, F, T, pg, by go_num, rfl, HPG.out, by omega, by omega, by omega, H3.out, HN.out, hb3⟩
            case measure => simp [intOf]; omega
        | true =>
          have hsome : (Bu.pick (F n) o).isSome = true := by
            unfold mayF at hm
            rw [Bool.and_eq_true, Bool.and_eq_true, Int.toNat_natCast] at hm
            exact hm.1.2
          obtain ⟨⟨kk, x⟩, hpick⟩ := Option.isSome_iff_exists.1 hsome
          have hI' := (hW.heap.inv n hn4).take_pick hpick
          have hin := (hI'.taken (x, o) (by simp)).2.2
          simp only at hin
          obtain ⟨Pw, hPw⟩ : ∃ Pw, 2 ^ o = Pw := ⟨_, rfl⟩
          have hPw8 : 1 ≤ Pw ∧ Pw ≤ 8 := by
            have : o = 0 ∨ o = 1 ∨ o = 2 ∨ o = 3 := by omega
            rcases this with rfl | rfl | rfl | rfl <;> (subst hPw; decide)
          have hcP : (2 : Int) ^ o = (Pw : Int) := by rw [castPow, hPw]
          rw [hPw] at hin
          have ht := htake_ok hW.heap (by omega) n hn4 o (by omega) hm hpick
          have HFRESH := Lib.hid (fun f h1 h2 => HN.out.fresh hW.heap.inv hI' (f := f) h1 h2)
          obtain ⟨f0, hf0⟩ : ∃ f, n * 16 + x = f := ⟨_, rfl⟩
          unfold HTakePost at ht
          rw [hf0] at ht HFRESH
          rw [hPw] at HFRESH
          have hq1 : (f0 : Int).tdiv 16 = (n : Int) := by rw [Int.tdiv_eq_ediv_of_nonneg (by omega)]; omega
          have hq2 : (f0 : Int) / 16 = (n : Int) := by omega
          have HT := Lib.hid ht
          have HF0 := Lib.hid hf0
          have HPW := Lib.hid hPw
          have hx16 : x < 16 := by omega
          have hf64 : f0 + Pw ≤ 64 := by omega
          have hn16 : n * 16 ≤ f0 ∧ f0 + Pw ≤ n * 16 + 16 := by omega
          have hbbn := hspb n hn4
          clear ht hpick hI' hsome hm hW hf0 hPw
          go_wp2_with fail
          refine HT.out.mono ?_
          rintro e w3 ⟨rfl, hk3, hH3⟩
          have hW3 := HW.out.onHeap hbbn.2 hk3 hH3
          have hbs : bb0 ≤ wc.heap.size := by have := hb.size; rw [HBB.out] at this; exact this
          have hb3 := hb.trans (hk3.below hbbn.1 hbs)
          have H3 := Lib.hid hW3
          obtain ⟨F3, hF3⟩ : ∃ F3, (fun j => if j = n then Bu.takeF (F n) kk o x else F j) = F3 := ⟨_, rfl⟩
          obtain ⟨T3, hT3⟩ : ∃ T3, (fun j => if j = n then T n ++ [(x, o)] else T j) = T3 := ⟨_, rfl⟩
          rw [hF3, hT3] at H3
          have HT3 : ∀ j, j < 4 → T3 j = if j = n then T n ++ [(x, o)] else T j := fun j _ => by rw [← hT3]
          have HT3 := Lib.hid HT3
          clear hk3 hH3 hW3 hb hF3 hT3
          go_wp2_with fail
          go_loopw [18, 12] (fun vk vp wx => MRIn w bb0 hp mb sb C1 tb mt mf C1 C nv bb u11 R F3 T3 f0 o P.length vk vp wx) (fun vk _ _ => Pw - (intOf vk).toNat)
          case atStart => exact ⟨0, P, pg, rfl, rfl, HPG.out, Nat.zero_le _, rfl, H3.out, HN.out.enter f0, hb3⟩
          case round =>
            clear H3 hb3 HW
            obtain ⟨k, P', pg', rfl, rfl, hpg', hkP, hPl, hW, hI, hb⟩ := hrel
            rw [HPW.out] at hkP
            have HPG' := Lib.hid hpg'
            have HPL := Lib.hid hPl
            have hpb : P'.length ≤ 200 := by omega
            have HW := Lib.hid hW
            have HI := Lib.hid hI
            clear hpg' hPl
            by_cases ek : k < Pw
            · have ck : (k : Int) < (Pw : Int) := by omega
              obtain ⟨f, hf⟩ : ∃ f, f0 + k = f := ⟨_, rfl⟩
              have hst := hI.step (by omega) (HFRESH.out (f0 + k) (by omega) (by omega))
              rw [hf] at hst
              have hf4 : f < 64 := by omega
              have hfn : f / 16 = n := by omega
              have hpgb : pg' ≤ 201 := by have := HPG'.out; omega
              have wf : IntKind.i64.wrap ((f0 : Int) + (k : Int)) = (f : Int) := by rw [← hf, Int.natCast_add]; exact IntWalk.i64_in _ (by omega)
              have wf2 : (f0 : Int) + (k : Int) = (f : Int) := by omega
              have wb : IntKind.u8.wrap (pg' : Int) = (pg' : Int) := by rw [IntKind.wrap_u8]; omega
              have hnode := fnode_any hW.mach.store f n hf4 hfn
              have hmap := memMap_new hW.mach pg' f (by omega) hf4 (by
                rw [List.map_map, show ((fun t : Nat × Nat => t.1) ∘ Prod.swap) = (fun t : Nat × Nat => t.2) from rfl, zip_snd, List.mem_range'_1]
                have := HPG'.out
                omega) (by
                rw [List.map_map, show ((fun t : Nat × Nat => t.2) ∘ Prod.swap) = (fun t : Nat × Nat => t.1) from rfl, zip_fst]
                exact hst.1) (by unfold maxLen; simp; omega)
              have HND := Lib.hid hnode
              have HMP := Lib.hid hmap
              have HST := Lib.hid hst
              have HFF := Lib.hid hf
              clear hnode hmap hst hf hfn hW hI
              go_wp2_with fail
              refine HND.out.mono ?_
              rintro e w4 ⟨rfl, rfl⟩
              go_wp2_with fail
              refine HMP.out.mono ?_
              rintro e w5 ⟨rfl, hM5, hk5⟩
              have hM5' := hM5.below ((Below.refl w5.heap.size w5).alloc (Nat.le_refl _) (.cells #[.int .u8 (pg' : Int)] 5))
              have hwr := write_one hM5' pg' f pg' (by omega) (by simp) hf4 (by rw [zip_fst]; exact HST.out.1) w5.heap.size (cell_new _ _ _)
              have HWR := Lib.hid hwr
              have hkA : Kept C1 mb wr (w5.alloc (.cells #[.int .u8 (pg' : Int)] 5)) := (hk5.wider (by have := HW.out.mach.ord; omega) (by have := HW.out.mach.ord; omega)).alloc _
              clear hM5 hk5 hM5' hwr
              go_wp2_with fail
              refine HWR.out.mono ?_
              rintro e w6 ⟨rfl, hM6, hk6⟩
              have hkB := hkA.trans (hk6.wider (Nat.le_refl _) (by have := HW.out.mach.ord; omega))
              have hbsx : bb0 ≤ wr.heap.size := by have := hb.size; rw [HBB.out] at this; exact this
              have hW6 : RunW w6 hp mb sb C1 tb mt mf C1 C nv bb u11 R (P' ++ [f]) F3 T3 := HW.out.onMach HS.out hkB (Nat.le_refl _) (Nat.le_refl _) (by
                rw [zip_snoc, List.map_append, ← HPG'.out]
                exact hM6)
              have H6 := Lib.hid hW6
              have hb6 := hb.trans (hkB.below hfbb hbsx)
              clear hM6 hk6 hkA hkB hW6 hb
              go_wp2_with fail
              go_roundw
              case rel =>
                have hI6 := HST.out.2
                rw [← HFF.out] at H6 hI6
                exact ⟨k + 1, P' ++ [f0 + k], pg' + 1, by go_num, by go_num, by have := HPG'.out; simp; omega, by rw [HPW.out]; omega, by have := HPL.out; simp; omega, H6.out, hI6, hb6⟩
              case measure => simp [intOf]; omega
            · have ekk : k = Pw := by omega
              have ck : ¬ (k : Int) < (Pw : Int) := by omega
              have hrow := hW.row
              have hlt := hW.ord
              have EK := Lib.hid ekk
              clear hW hI ekk
              go_wp2_with (first
                | (at_builtin; refine wpList_append_own _ rfl _ _ 52 rfl C 53 i0 _ 2 16 Tryd.underlying52 hi hz0 hz1 hzb rfl (by decide) _ _ _ rfl (hrow.alloc _) ⟨wr.heap.size, 0, none⟩ 1 1 [.int .i64 (f0 : Int), .int .i64 (o : Int)] rfl rfl (World.news_of_block (cs := #[.int .i64 (f0 : Int), .int .i64 (o : Int)]) (t := 53) (fr := (0, 0)) (heap_alloc_new wr _)) (by simp [Value.oneCell']) (by unfold maxLen; omega) (by omega) (by simp; omega) ?_; intro v' w7 hown7 hg7 hnil7))
              have h7 : RunW w7 hp mb sb C1 tb mt mf C1 C nv bb v' (R ++ [(f0, o)]) P' F3 T3 := HW.out.onRow HS.out hg7 (by simpa [takCells] using hown7)
              have hI7 := HI.out
              rw [EK.out, ← HPW.out, ← HF0.out] at hI7
              have hN7 := HN.out.leave hn4 hx16 HT3.out hI7 (fun t ht e => HFRESH.out f0 (Nat.le_refl _) (by omega) ⟨t, ht, by rw [e, HF0.out]; exact Nat.le_refl _, by rw [e, HF0.out, HPW.out]; simp only; omega⟩)
              rw [HF0.out] at hN7
              have hb7 := (hb.alloc (by have := hb.size; rw [HBB.out] at this; exact this) _).grown hg7 (by have := hb.size; rw [HBB.out] at this; simp; omega) (fun g hg => by have := (hrow.lt g hg).1; have := HW.out.mach.ord; omega)
              have H7 := Lib.hid h7
              have HN7 := Lib.hid hN7
              clear h7 hN7 hown7 hg7 hnil7 hI7
              go_wp2_with fail
              go_roundw
              case rel => exact ⟨i + 1, R ++ [(f0, o)], P', F3, T3, pg', by go_num, rfl, HPG'.out, by omega, by simp; omega, by have := HPL.out; have := EK.out; omega, H7.out, HN7.out, hb7⟩
              case measure => simp [intOf]; omega
    · have hcase : (¬ (i : Int) < (len : Int)) ∨ ((i : Int) < (len : Int) ∧ ¬ (i : Int) < 24) := by omega
      clear e hW hN
      rcases hcase with c1 | ⟨c1, c2⟩
      all_goals
        go_wp2_with fail
        go_loopw [21] (fun vp wx => MR3 w bb0 hp mb sb C1 tb mt mf C1 C nv bb u11 R P F T pg vp wx) (fun vp _ => pg - (intOf vp).toNat)
        case atStart => exact ⟨1, rfl, by omega, by have := HPG.out; omega, HW.out, hb⟩
        case round =>
          clear HW hb
          obtain ⟨p, rfl, hp1, hppg, hW, hb⟩ := hrel
          have HW := Lib.hid hW
          have hpgb : pg ≤ 201 := by have := HPG.out; omega
          by_cases ep : p < pg
          · have cp : (p : Int) < (pg : Int) := by omega
            obtain ⟨q, hq⟩ : ∃ q, p = q + 1 := ⟨p - 1, by omega⟩
            have hqP : q < P.length := by have := HPG.out; omega
            have hz := zip_mem hqP
            rw [← hq] at hz
            have hr := read_one hW.mach p P[q] p (by omega) (List.mem_map.2 ⟨_, hz, rfl⟩) (HN.out.plt _ (List.getElem_mem hqP)) hz
            have wb : IntKind.u8.wrap (p : Int) = (p : Int) := by rw [IntKind.wrap_u8]; omega
            have HR := Lib.hid hr
            clear hr hz hq hqP hW
            go_wp2_with fail
            refine HR.out.mono ?_
            rintro e w5 ⟨g, c, rfl, hx, hb5⟩
            have hW5 := HW.out.below hb5
            have hb6 := hb.trans (hb5.mono (by have := hb.size; rw [HBB.out] at this; exact this))
            have H5 := Lib.hid hW5
            clear hW5 hb5 hb
            go_wp2_with fail
            go_roundw
            case rel => exact ⟨p + 1, by go_num, by omega, by omega, H5.out, hb6⟩
            case measure => simp [intOf]; omega
          · have cp : ¬ (p : Int) < (pg : Int) := by omega
            clear hW
            go_wp2_with fail
            go_loopw [24] (fun vi wx => MR4 w bb0 hp mb sb C1 tb mt mf C1 C nv bb u11 R P vi wx) (fun vi _ => R.length - (intOf vi).toNat)
            case atStart => exact ⟨0, F, T, rfl, Nat.zero_le _, HW.out, HN.out.spl, hb⟩
            case round =>
              clear HW hb
              obtain ⟨i, F, T, rfl, hiR, hW, hT, hb⟩ := hrel
              have HW := Lib.hid hW
              have HT := Lib.hid hT
              by_cases ei : i < R.length
              · have ci : (i : Int) < (R.length : Int) := by omega
                have ci0 : (0 : Int) ≤ (i : Int) := by omega
                have hwh := HN.out.rlt
                obtain ⟨g, cap', cur, hv, hgb, hcap, htk⟩ := own_block2 hW.row (by omega)
                have hgC : C ≤ g := (hW.row.lt g (by rw [hv]; rfl)).1
                have hgl : g < wr.heap.size := (Array.getElem?_eq_some_iff.1 hgb).1
                have hgC1 : C1 ≤ g := by have := hW.mach.ord; have := hW.ord; omega
                have hrow := hW.row
                rw [hv] at hrow
                have hx0 : wr.cell? ⟨g, i * 2, none⟩ = some (.int .i64 ((R[i]).1 : Int)) := by
                  rw [hrow.cellAt (i * 2) (by omega)]
                  have h1 := (takCells_at R ei).1
                  have h2 : i * 2 < (takCells R).length := by rw [takCells_len]; omega
                  simpa [h2] using h1
                have hy0 : wr.cell? ⟨g, i * 2 + 1, none⟩ = some (.int .i64 ((R[i]).2 : Int)) := by
                  rw [hrow.cellAt (i * 2 + 1) (by omega)]
                  have h1 := (takCells_at R ei).2
                  have h2 : i * 2 + 1 < (takCells R).length := by rw [takCells_len]; omega
                  simpa [h2] using h1
                have hrl := HN.out.rlt _ (List.getElem_mem ei)
                have hdrop : R.drop i = R[i] :: R.drop (i + 1) := List.drop_eq_getElem_cons ei
                obtain ⟨t1, ht1⟩ : ∃ t1, (R[i]).1 = t1 := ⟨_, rfl⟩
                obtain ⟨t2, ht2⟩ : ∃ t2, (R[i]).2 = t2 := ⟨_, rfl⟩
                have htt : R[i] = (t1, t2) := Prod.ext ht1 ht2
                rw [htt] at hx0 hy0 hrl hdrop
                simp only at hrl
                have hn4 : t1 / 16 < 4 := by omega
                have hTn : T (t1 / 16) = (t1 % 16, t2) :: spl 16 (R.drop (i + 1)) (t1 / 16) := by rw [hT _ hn4, hdrop, spl_head, if_pos rfl]
                have hmem : (t1 % 16, t2) ∈ T (t1 / 16) := by rw [hTn]; simp
                have hfx : t1 / 16 * 16 + t1 % 16 = t1 := by omega
                have hfalse : wholeH F 16 4 = false := wholeH_false hn4 (by
                  have h1 := (hW.heap.inv _ hn4).sum
                  have h2 := sumT_pos hmem
                  omega)
                have hWH : ∀ m, Calls Tryd.prog 39 #[.pointer (some ⟨hp, 0, none⟩)] (wr.drewN m) fun e w' => e = .returned (.bool false) ∧ ∃ k, w' = (wr.drewN m).drewN k := fun m => by
                  have h := hwhole_any (HW.out.drewN m).heap (by omega)
                  unfold HWholePost at h
                  rw [hfalse] at h
                  exact h
                have hG : ∀ W, RunW W hp mb sb C1 tb mt mf C1 C nv bb u11 R P F T → Calls Tryd.prog 40 #[.pointer (some ⟨hp, 0, none⟩), .int .i64 (t1 : Int), .int .i64 (t2 : Int)] W fun e w' => e = .returned (.int .i64 0) ∧ HGiveR W hp 16 1 1 1 4 nv bb F T (t1 / 16) (t1 % 16) t2 w' := fun W h => by
                  have h' := hgive_ok h.heap (by omega) (t1 / 16) hn4 (t1 % 16) t2 hmem
                  rw [hfx] at h'
                  exact h'
                have hT' : ∀ j, j < 4 → (if j = t1 / 16 then (T (t1 / 16)).erase (t1 % 16, t2) else T j) = spl 16 (R.drop (i + 1)) j := fun j hj => by
                  by_cases e : j = t1 / 16
                  · rw [if_pos e, hTn, List.erase_cons_head, e]
                  · rw [if_neg e, hT j hj, hdrop, spl_head, if_neg e]
                have HWH := Lib.hid hWH
                have HG := Lib.hid hG
                have HT' := Lib.hid hT'
                have HB4 := Lib.hid hn4
                obtain ⟨oa, capa, hu, _⟩ := own_shape2 hW.row
                subst hu
                obtain ⟨rfl, rfl⟩ : oa = some ⟨g, 0, none⟩ ∧ capa = cap' := by cases hv; exact ⟨rfl, rfl⟩
                have hmo := hW.mach.ord
                have hbw : bb0 ≤ wr.heap.size := by have := hb.size; rw [HBB.out] at this; exact this
                have hwo := hW.ord
                clear hwh hv hgb hcap htk hrow hdrop ht1 ht2 htt hTn hmem hfx hfalse hWH hG hT' hW hT hrl hn4
                go_wp2_with fail
                go_region_held3 (fun u => u.cell? ⟨g, i * 2, none⟩ = some (.int .i64 (t1 : Int)) ∧ u.cell? ⟨g, i * 2 + 1, none⟩ = some (.int .i64 (t2 : Int)))
                  (first | (go_split_ands; refine ⟨?_, ?_⟩ <;> assumption) | go_keep)
                  (first
                    | (go_at_call 39; refine (HWH.out 1).mono ?_; rintro e w8 ⟨rfl, m8, hw8⟩; have hx8 : w8.cell? ⟨g, i * 2, none⟩ = some (.int .i64 (t1 : Int)) := (by rw [hw8]; exact hx0); have hy8 : w8.cell? ⟨g, i * 2 + 1, none⟩ = some (.int .i64 (t2 : Int)) := (by rw [hw8]; exact hy0); have hW8 := (HW.out.drewN 1).drewN m8; have hb8 := (hb.trans (drewN_below wr 1 _)).trans (drewN_below (wr.drewN 1) m8 _); rw [← hw8] at hW8 hb8; have HW8 := Lib.hid hW8; have hgl8 : g < w8.heap.size := (by rw [hw8]; exact hgl); clear hw8 hW8)
                    | (go_at_call 40; refine (HG.out _ HW8.out).mono ?_; rintro e w9 ⟨rfl, hR9⟩; have hx9 := (World.cell?_of_block (a := ⟨g, i * 2, none⟩) (hR9.keeps HS.out HB4.out hgC1 hgl8)).trans hx8; have hy9 := (World.cell?_of_block (a := ⟨g, i * 2 + 1, none⟩) (hR9.keeps HS.out HB4.out hgC1 hgl8)).trans hy8))
                have hW9 := HW8.out.gave (hspb _ HB4.out).2 hR9
                have hb9 := hb8.trans (hR9.below HS.out HB4.out (by have := hb8.size; rw [HBB.out] at this; exact this))
                have H9 := Lib.hid hW9
                clear hW9 hR9 hb8 hb hx8 hy8 hx9 hy9 hx0 hy0
                go_wp2_with fail
                go_roundw
                case rel => exact ⟨i + 1, _, _, by go_num, by omega, H9.out, HT'.out, hb9⟩
                case measure => simp [intOf]; omega
              · have ci : ¬ (i : Int) < (R.length : Int) := by omega
                have hd : R.drop i = [] := List.drop_of_length_le (by omega)
                have htrue : wholeH F 16 4 = true := wholeH_true fun j hj => by
                  have h1 := (hW.heap.inv j hj).sum
                  have h2 : T j = [] := by rw [hT j hj, hd]; rfl
                  rw [h2] at h1
                  simpa [Bu.sumT] using h1
                have hWH := hwhole_any hW.heap (by omega)
                unfold HWholePost at hWH
                rw [htrue] at hWH
                have HWH := Lib.hid hWH
                have hpgl : pg - 1 = P.length := by have := HPG.out; omega
                have hpg0 : IntKind.i64.wrap ((pg : Int) - 1) = (P.length : Int) := by
                  rw [IntWalk.i64_in _ (by omega)]
                  have := HPG.out
                  omega
                have hpg1 : (pg : Int) - 1 = (P.length : Int) := by have := HPG.out; omega
                obtain ⟨oa, capa, hu, _⟩ := own_shape2 hW.row
                subst hu
                clear hd htrue hWH hW hT hpgl
                go_wp2_with fail
                refine HWH.out.mono ?_
                rintro e w5 ⟨rfl, m5, hw5⟩
                have hM5 := (HW.out.drewN m5).mach
                have hb5 := hb.trans (drewN_below wr m5 _)
                rw [← hw5] at hM5 hb5
                have hmp := mapped_any hM5
                rw [List.length_map, List.length_zipIdx] at hmp
                have HMP := Lib.hid hmp
                clear hw5 hM5 hmp
                go_wp2_with fail
                refine HMP.out.mono ?_
                rintro e w6 ⟨rfl, rfl⟩
                go_wp2_with fail
                go_ret
                exact ⟨by first | rfl | simp, by rw [HBB.out]; exact hb5⟩

end Go.Proofs.YtikahcbkeempdaaDoor
