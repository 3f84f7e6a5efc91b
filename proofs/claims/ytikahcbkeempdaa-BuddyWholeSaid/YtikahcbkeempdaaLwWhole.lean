/- The law BuddyWhole: the walk. -/
import Derived.Test.YtikahcbkeempdaaWh
import Derived.Deep.RegionHeld3
import Derived.Deep.CutRange
import Derived.Deep.MidRow
namespace Go.Proofs.Ytikahcbkeempdaa
open Go.RowKit Go.Maps

def WRel (w : World) (b n ub C : Nat) (vi v : Value) (wr : World) : Prop :=
  ∃ (i : Nat) (F : Nat → List Nat) (T : List (Nat × Nat)), vi = .int .i64 (i : Int) ∧ i ≤ 40 ∧ T.length ≤ i ∧ Bu.Inv n T F ∧ WhAt wr b n ub C v (Bu.used T) F T T ∧ Below w.heap.size w wr
def WRel2 (w : World) (b n ub C x P : Nat) (v : Value) (U : Nat → Bool) (F : Nat → List Nat) (T S : List (Nat × Nat)) (vj : Value) (wr : World) : Prop :=
  ∃ i : Nat, vj = .int .i64 ((x + i : Nat) : Int) ∧ i ≤ P ∧ WhAt wr b n ub C v (setU U x i true) F T S ∧ Below w.heap.size w wr

theorem Bu.Inv.not_mem_erase {n : Nat} {T F} (I : Bu.Inv n T F) (t : Nat × Nat) (ht : t ∈ T) : t ∉ T.erase t := fun h =>
  Bu.disj_sym I.disj ht h t.1 ((Bu.cov_iff _ _).2 ⟨Nat.le_refl _, by have := Bu.pos2 t.2; omega⟩) ((Bu.cov_iff _ _).2 ⟨Nat.le_refl _, by have := Bu.pos2 t.2; omega⟩)

def WRel3 (w : World) (b n ub C : Nat) (vi v : Value) (wr : World) : Prop :=
  ∃ (i : Nat) (U : Nat → Bool) (F : Nat → List Nat) (T : List (Nat × Nat)), vi = .int .i64 (i : Int) ∧ i + T.length ≤ 40 ∧ Bu.Inv n T F ∧ WhAt wr b n ub C v U F T T ∧ Below w.heap.size w wr

set_option maxRecDepth 100000 in
set_option maxHeartbeats 4000000 in
theorem buddyWhole_walk (a0 : Int) (a : Option Addr) (len cap : Nat) (z : Nat → Int) (a2 : Option Addr) (len2 cap2 : Nat) (z2 : Nat → Int) (w : World) (hz : IntsAt w a len z) (hmax : len ≤ 9223372036854775807) (hz2 : IntsAt w a2 len2 z2) (hmax2 : len2 ≤ 9223372036854775807) :
    Calls Try.prog 6 #[.int .i64 a0, .slice a len cap, .slice a2 len2 cap2] w fun e w' => e = .returned (.bool true) ∧ Below w.heap.size w w' := by
  obtain ⟨i0, hi, hz0, hz1, hzb⟩ := info_parts infoP
  obtain ⟨k, hk, hk1⟩ := u64mod' a0 9 (by decide)
  obtain ⟨n, hn⟩ : ∃ n, 2 ^ k = n := ⟨_, rfl⟩
  have hcp : (2 : Int) ^ k = (n : Int) := by rw [castPow, hn]
  have hnl : n ≤ 256 := by rw [← hn]; exact Nat.pow_le_pow_right (n := 2) (by omega) (show k ≤ 8 by omega)
  have hwn : IntKind.i64.wrap (n : Int) = (n : Int) := IntWalk.i64_in _ (by omega)
  have HN := Lib.hid hn
  have HZ := Lib.hid hz
  have HZ2 := Lib.hid hz2
  have hmk := mk_bools n (by omega)
  clear hn hz hz2
  go_enter Try.func6, Try.ntmps6
  go_wp2_with fail
  refine (new_ok n k (by omega) HN.out.symm _).mono ?_
  rintro e w1 ⟨rfl, hB1, hb1⟩
  go_wp2_with fail
  refine (halves8_any _).mono ?_
  rintro e w2 ⟨rfl, hb2⟩
  have hB2 := hB1.same (w' := w2) (fun i _ h => hb2.block i (by have := hB1.lt; omega))
  have hL2 := hB2.lt
  have hb12 := hb1.trans (hb2.mono hb1.size)
  clear hB1 hb1 hb2
  go_upto_region 8 with (fail)
  obtain ⟨w3, hw3⟩ : ∃ w3, w2.alloc (.cells (usedCells n (Bu.used [])).toArray 4) = w3 := ⟨_, rfl⟩
  obtain ⟨ub, hub⟩ : ∃ ub, w2.heap.size = ub := ⟨_, rfl⟩
  have hW3 : WhAt w3 w.heap.size n ub (ub + 1) (.slice none 0 0) (Bu.used []) (Bu.newF n) [] [] := by
    refine ⟨hB2.same fun i _ hi => ?_, ?_, World.ownsRow_nil _ _ _ _, by omega, by omega, by rw [← hw3, ← hub]; simp⟩
    · rw [← hw3]; exact Below.heap_alloc _ _ _ (by omega)
    · rw [← hw3, ← hub]; exact heap_alloc_new w2 _
  have hb3 : Below w.heap.size w w3 := by rw [← hw3]; exact hb12.alloc hb12.size _
  have hIN := Lib.hid (Bu.inv_new (N := k) (by omega) HN.out.symm)
  have huw : w.heap.size ≤ ub := by rw [← hub]; exact hb12.size
  rw [hw3, hub]
  clear hw3 hub hB2 hL2 hb12 hmk
  generalize hbb : w.heap.size = bb at *
  have HBB := Lib.hid hbb
  clear hbb
  go_loopw [12, 11] (fun vi v wr => WRel w bb n ub (ub + 1) vi v wr) (fun vi _ _ => len - (intOf vi).toNat)
  case atStart => exact ⟨0, _, _, rfl, by omega, Nat.le_refl _, hIN.out, hW3, by rw [HBB.out]; exact hb3⟩
  case round =>
    clear hW3 hb3
    obtain ⟨i, F, T, rfl, hi40, hTi, I, hW, hb⟩ := hrel
    have hII := Lib.hid I
    by_cases e : i < len ∧ i < 40
    · obtain ⟨e1, e2⟩ := e
      have c1 : (i : Int) < (len : Int) := by omega
      have c2 : (i : Int) < 40 := by omega
      obtain ⟨b, off, rfl, hbl, hcell⟩ := HZ.out (by omega)
      have hc := (hb.cell (p := ⟨b, off + i, none⟩) hbl).trans (hcell i e1).1
      obtain ⟨o, ho, ho1⟩ := u64mod' (z i) 5 (by decide)
      clear hcell
      cases hpick : Bu.pick F o with
      | none =>
        have H := Lib.hid (take_nomem hW.bud o (by omega) hpick)
        clear hpick I
        go_wp2_with fail
        refine H.out.mono ?_
        rintro e w4 ⟨rfl, rfl⟩
        go_wp2_with fail
        go_roundw
        case rel => exact ⟨i + 1, F, T, by go_num, by omega, by omega, hII.out, hW, hb⟩
        case measure => simp [intOf]; omega
      | some x =>
        obtain ⟨kk, x⟩ := x
        obtain ⟨p1, p2, ⟨l, pl⟩, p4⟩ := Bu.pick_some hpick
        have hxm : x ∈ F kk := by rw [pl]; simp
        have hfree := I.free kk p2 x hxm
        have hI' := I.take_pick hpick
        have hin := (hI'.taken (x, o) (by simp)).2
        obtain ⟨P, hP⟩ : ∃ P, 2 ^ o = P := ⟨_, rfl⟩
        have hPp : 1 ≤ P := by rw [← hP]; exact Bu.pos2 o
        have hPk : P ≤ 2 ^ kk := by rw [← hP]; exact Bu.pow_mono p1
        have hcP : (2 : Int) ^ o = (P : Int) := by rw [castPow, hP]
        simp only [hP] at hin
        have hun : ∀ y, x ≤ y → y < x + P → Bu.used T y = false := fun y h1 h2 => hfree y h1 (by omega)
        have hwP : IntKind.i64.wrap (P : Int) = (P : Int) := IntWalk.i64_in _ (by omega)
        have hwxP : IntKind.i64.wrap ((x : Int) + P) = (x : Int) + P := IntWalk.i64_in _ (by omega)
        have hd1 : decide ((x : Int) < 0) = false := by simp
        have hd2 : decide ((n : Int) < (x : Int) + P) = false := by simp; omega
        have hd3 : (x : Int).tmod (P : Int) = 0 := by
          rw [Int.tmod_eq_emod_of_nonneg (by omega)]
          have := hin.1
          omega
        have hP0 : ((P : Int) == 0) = false := by rw [beq_eq_false_iff_ne]; omega
        have hP1 : ¬ (P : Int) = 0 := by omega
        have hP2 : ¬ P = 0 := by omega
        have H := Lib.hid (take_pick hW.bud I o hpick)
        have HI' := Lib.hid hI'
        have HUN := Lib.hid hun
        have HP := Lib.hid hP
        clear hpick I hxm pl p4 hfree hI' hun hP
        go_wp2_with fail
        refine H.out.mono ?_
        rintro e w4 ⟨rfl, hB4, hk4⟩
        have hW4 := hW.kept hB4 hk4
        have hb4 := hb.trans (hk4.below (B := w.heap.size) (by rw [HBB.out]; exact Nat.le_refl _) (hb.size))
        clear hB4 hk4 hW hb
        go_wp2_with fail
        go_quiet (fail)
        clear hd1 hd2 hd3 hP0 hP1 hP2
        go_wp2_with fail
        go_loopw [16] (fun vj wr' => WRel2 w bb n ub (ub + 1) x P u11 (Bu.used T) (Bu.takeF F kk o x) (T ++ [(x, o)]) T vj wr') (fun vj _ => x + P - (intOf vj).toNat)
        case atStart => exact ⟨0, by simp, Nat.zero_le _, (hW4.below (drewN_below w4 _ _)).congr (fun y _ => by unfold setU; rw [if_neg (by omega)]), hb4.trans (drewN_below w4 _ _)⟩
        case round =>
          clear hW4 hb4
          obtain ⟨j, rfl, hj, hW5, hb5⟩ := hrel
          have HW5 := Lib.hid hW5
          by_cases e : j < P
          · have ci : (x : Int) + j < (x : Int) + P := by omega
            have hxj : x + j < n := by omega
            have hcu := hW5.cu hxj
            have hsu : setU (Bu.used T) x j true (x + j) = false := by
              unfold setU
              rw [if_neg (by omega)]
              exact HUN.out _ (by omega) (by omega)
            rw [hsu] at hcu
            have hfu := hW5.fu (x + j)
            clear hW5 hsu
            go_wp2_with fail
            go_roundw
            case rel =>
              refine ⟨j + 1, by go_num, by omega, (HW5.out.setUsed (x + j) true).congr (fun y _ => ?_), hb5.setCell (p := ⟨ub, x + j, none⟩) (by show w.heap.size ≤ ub; rw [HBB.out]; exact huw) _⟩
              unfold setU
              by_cases e1 : y = x + j
              · rw [if_pos e1, if_pos (by omega)]
              · rw [if_neg e1]
                by_cases e2 : x ≤ y ∧ y < x + j
                · rw [if_pos e2, if_pos (by omega)]
                · rw [if_neg e2, if_neg (by omega)]
            case measure => simp [intOf]; omega
          · have ci : ¬ (x : Int) + j < (x : Int) + P := by omega
            obtain rfl : j = P := by omega
            have hW6 := HW5.out.congr (U' := Bu.used (T ++ [(x, o)])) (fun y _ => by rw [← HP.out]; exact used_set T x o y)
            have hown := hW5.tak
            have hsz6 := hW5.lt.2.2
            have HW6 := Lib.hid hW6
            clear hW5 hW6
            go_wp2_with (first
              | (at_builtin; refine wpList_append_own _ rfl _ _ 50 rfl (ub + 1) 51 i0 _ 2 16 Try.underlying50 hi hz0 hz1 hzb rfl (by decide) _ _ _ rfl (hown.alloc _) ⟨wr.heap.size, 0, none⟩ 1 1 [.int .i64 (x : Int), .int .i64 (o : Int)] rfl rfl (World.news_of_block (cs := #[.int .i64 (x : Int), .int .i64 (o : Int)]) (t := 51) (fr := (0, 0)) (heap_alloc_new wr _)) (by simp [Value.oneCell']) (by unfold maxLen; omega) (by omega) (by simp; omega) ?_; intro v' w7 hown7 hg7 hnil7))
            have hW7 := HW6.out.app hg7 (v' := v') (S' := T ++ [(x, o)]) (by rw [takCells_snoc, List.length_append]; exact hown7)
            have hb7 := hb5.trans (HW6.out.appBelow hg7 (B := w.heap.size) (by rw [HBB.out]; omega))
            clear hown7 hg7 hnil7 hown
            go_wp2_with fail
            go_roundw
            case rel => exact ⟨i + 1, _, _, by go_num, by omega, by simp; omega, HI'.out, hW7, hb7⟩
            case measure => simp [intOf]; omega
    · have hcase : (¬ (i : Int) < (len : Int)) ∨ ((i : Int) < (len : Int) ∧ ¬ (i : Int) < 40) := by omega
      clear e I
      rcases hcase with c1 | ⟨c1, c2⟩
      all_goals
        go_wp2_with fail
        go_loopw [17, 11] (fun vi v wr => WRel3 w bb n ub (ub + 1) vi v wr) (fun vi _ _ => 41 - (intOf vi).toNat)
        case atStart => exact ⟨0, _, F, T, rfl, by omega, hII.out, hW, hb⟩
        case round =>
          clear hW hb hII
          obtain ⟨i, U, F, T, rfl, hi40, I, hW, hb⟩ := hrel
          have hnb := I.not_mem_erase
          obtain ⟨oa, tcap, rfl, htc, hsh⟩ := own_shape2 hW.tak
          have hII := Lib.hid I
          by_cases hT0 : T.length = 0
          · have ct : ¬ (0 : Int) < (T.length : Int) := by omega
            obtain rfl : T = [] := List.length_eq_zero_iff.1 hT0
            have hF := I.same (Bu.inv_new (N := k) (by omega) HN.out.symm)
            have hFk := hF k (by omega)
            have hsum := I.sum
            clear hF hsh hnb
            have hFk1 : F k = [0] := by rw [hFk]; unfold Bu.newF; rw [if_pos HN.out]
            have hsn : Bu.sumF F 11 = n := by simpa [Bu.sumT] using hsum
            have hru := runs_any hW.bud k (by omega) (I.len_le (by omega))
            rw [hFk1] at hru
            have HRU := Lib.hid hru
            have HSN := Lib.hid hsn
            clear hFk hsum hFk1 hsn hru I
            go_wp2_with fail
            refine HRU.out.mono ?_
            rintro e w5 ⟨v5, rfl, hrow5, hb5⟩
            obtain ⟨g5, c5, rfl, hg5, hg5', hc5⟩ := own_head hrow5 (by decide)
            have hx5 : w5.cell? ⟨g5, 0, none⟩ = some (.int .i64 0) := hc5 0 (by decide)
            have hW5 := hW.below hb5
            have hfr := fun m => free_inv (hW5.bud.drewN m) hII.out
            rw [HSN.out] at hfr
            have HFR := Lib.hid hfr
            have hbb5 := hb.trans (hb5.mono hb.size)
            clear hfr hc5 hrow5
            go_wp2_with fail
            go_quiet ((go_at_call 31; exact quiet_left (HFR.out _)))
            go_wp2_with fail
            go_ret
            exact ⟨rfl, hbb5.trans (drewN_below _ _ _)⟩
          · have ct : (0 : Int) < (T.length : Int) := by omega
            clear hsh
            have hTl : T.length ≤ 40 := by omega
            obtain ⟨j0, hj0, hj1⟩ := u64mod' (z2 i) (T.length : Int) (by omega)
            have hwl : IntKind.u64.wrap (T.length : Int) = (T.length : Int) := IntWalk.u64_in _ (by omega)
            have hwj : IntKind.i64.wrap (j0 : Int) = (j0 : Int) := IntWalk.i64_in _ (by omega)
            have ht0 : ((T.length : Int) == 0) = false := by rw [beq_eq_false_iff_ne]; omega
            have ht1 : ¬ (T.length : Int) = 0 := by omega
            have hTN : ¬ T = [] := fun h => hT0 (by rw [h]; rfl)
            go_upto_if 112 with (fail)
            go_cut [18] from 104 to 160 (fun s wx => ∃ j : Nat, s = .int .i64 (j : Int) ∧ j < T.length ∧ wx = wr)
            case first =>
              by_cases e2 : i < len2
              · have c4 : (i : Int) < (len2 : Int) := by omega
                obtain ⟨b2, off2, rfl, hbl2, hcell2⟩ := HZ2.out (by omega)
                have hc2 := (hb.cell (p := ⟨b2, off2 + i, none⟩) hbl2).trans (hcell2 i e2).1
                clear hcell2
                go_wp2_with fail
                go_meet
                exact ⟨j0, rfl, by omega, rfl⟩
              · have c4 : ¬ (i : Int) < (len2 : Int) := by omega
                go_wp2_with fail
                go_meet
                exact ⟨0, rfl, by omega, rfl⟩
            case rest =>
              obtain ⟨j, rfl, hjT, rfl⟩ := hcut
              clear hj0 hj1 hwl hwj ht0 ht1
              obtain ⟨g, cap, cur, hv, hgb, hcap, htk⟩ := own_block2 hW.tak (by omega)
              obtain ⟨rfl, rfl⟩ : oa = some ⟨g, 0, none⟩ ∧ tcap = cap := by cases hv; exact ⟨rfl, rfl⟩
              clear hv
              have hgC : ub + 1 ≤ g := (hW.tak.lt g rfl).1
              have hgl : g < wc.heap.size := (Array.getElem?_eq_some_iff.1 hgb).1
              have hgB : ¬ (bb ≤ g ∧ g < bb + 13) := by have := hW.lt.1; omega
              have hx0 : wc.cell? ⟨g, j * 2, none⟩ = some (.int .i64 ((T[j]).1 : Int)) := by
                rw [hW.tak.cellAt (j * 2) (by omega)]
                have h1 := (takCells_at T hjT).1
                have h2 : j * 2 < (takCells T).length := by rw [takCells_len]; omega
                simpa [h2] using h1
              have hy0 : wc.cell? ⟨g, j * 2 + 1, none⟩ = some (.int .i64 ((T[j]).2 : Int)) := by
                rw [hW.tak.cellAt (j * 2 + 1) (by omega)]
                have h1 := (takCells_at T hjT).2
                have h2 : j * 2 + 1 < (takCells T).length := by rw [takCells_len]; omega
                simpa [h2] using h1
              have hm : T[j] ∈ T := List.getElem_mem hjT
              have htn := I.taken _ hm
              have her : T.erase T[j] = T.take j ++ T.drop (j + 1) := by
                have hid : T.idxOf T[j] = j := by
                  by_cases e : T.idxOf T[j] < j
                  · exfalso
                    refine hnb T[j] hm ?_
                    rw [erase_idx, List.mem_append]
                    right
                    rw [List.mem_drop_iff_getElem]
                    exact ⟨j - (T.idxOf T[j] + 1), by omega, by congr 1; omega⟩
                  · have h1 : T.idxOf T[j] < T.length := List.idxOf_lt_length_of_mem hm
                    by_cases e3 : j < T.idxOf T[j]
                    · have := List.not_of_lt_findIdx (p := (· == T[j])) (xs := T) e3
                      simp at this
                    · omega
                rw [erase_idx, hid]
              have hnm := hnb T[j] hm
              obtain ⟨t1, ht1⟩ : ∃ t1, (T[j]).1 = t1 := ⟨_, rfl⟩
              obtain ⟨t2, ht2⟩ : ∃ t2, (T[j]).2 = t2 := ⟨_, rfl⟩
              have htt : T[j] = (t1, t2) := Prod.ext ht1 ht2
              rw [htt] at hm htn her hnm hx0 hy0
              have hbad : ∀ s ∈ T.erase (t1, t2), ¬ ((s.1 : Int) = (t1 : Int) ∧ s.2 = t2) := fun s hs hc => hnm (by
                have : s = (t1, t2) := Prod.ext (by have := hc.1; omega) hc.2
                rwa [this] at hs)
              have hG := Lib.hid (fun m => give_inv (hW.bud.drewN m) I t1 t2 hm)
              have hIg := Lib.hid (I.give hm)
              have HER := Lib.hid her
              have HBAD := Lib.hid hbad
              have HTK := Lib.hid htk
              have HGB := Lib.hid hgb
              have hgj0 : (0 : Int) ≤ (j : Int) := by omega
              have hgj1 : (j : Int) < (T.length : Int) := by omega
              have htn2 := htn.1
              have hti := htn.2.2
              have hnl' : n ≤ 1024 := by omega
              have ht1b : t1 ≤ 1024 := Nat.le_trans (Nat.le_add_right t1 (2 ^ t2)) (Nat.le_trans hti hnl')
              clear hnb hm htn her hnm ht1 ht2 htt hbad I htk hgb
              go_wp2_with fail
              go_region_held3 (fun w' => w'.cell? ⟨g, j * 2, none⟩ = some (.int .i64 (t1 : Int)) ∧ w'.cell? ⟨g, j * 2 + 1, none⟩ = some (.int .i64 (t2 : Int)))
                (first | (go_split_ands; refine ⟨?_, ?_⟩ <;> assumption) | go_keep)
                (first
                  | (go_at_call 33; refine (hG.out 1).mono ?_; rintro e w8 ⟨rfl, hB8, hk8⟩; have hx8 := (World.cell?_of_block (a := ⟨g, j * 2, none⟩) (hk8.block g hgl hgB)).trans hx0; have hy8 := (World.cell?_of_block (a := ⟨g, j * 2 + 1, none⟩) (hk8.block g hgl hgB)).trans hy0)
                  | (go_at_call 33; refine (give_bad hB8 (t1 : Int) t2 htn2 (wfI (by omega) (by omega)) HBAD.out).mono ?_; rintro e w9 ⟨rfl, rfl⟩))
              have hW8 := hW.below (drewN_below wc 1 _) |>.kept hB8 hk8
              have hb8 := (hb.trans (drewN_below wc 1 _)).trans (hk8.below (B := w.heap.size) (by rw [HBB.out]; exact Nat.le_refl _) hb.size)
              have lg : g < w8.heap.size := by have := hk8.size; simp at this; omega
              have hgb8 := Lib.hid ((hk8.block g hgl hgB).trans HGB.out)
              have HW8 := Lib.hid hW8
              have hT40 : T.length ≤ 40 := by omega
              have hs8 := hW8.lt.2.2
              have f1 : IntKind.i64.wrap ((j : Int) + 1) = (j : Int) + 1 := IntWalk.i64_in _ (by omega)
              have f2 : (0 : Int) ≤ (j : Int) + 1 := by omega
              have f3 : ((j : Int) + 1).toNat = j + 1 := by omega
              have f4 : (j : Int) + 1 ≤ (T.length : Int) := by omega
              have f5 : (j : Int) ≤ (T.length : Int) := by omega
              have f6 : j ≤ tcap := by omega
              have f7 : j + 1 ≤ T.length := by omega
              have f9 : j + 1 ≤ tcap := by omega
              have f10 : (j : Int) ≤ (j : Int) + 1 := by omega
              have hec : (tcap = j + 1 ∧ T.length = j + 1) ∨ (¬ tcap = j + 1 ∧ 0 ≤ j) := by omega
              clear hx8 hy8 hW8 hB8 hk8 hW hb hx0 hy0 hcap hgl
              rcases hec with ⟨ecap, etl⟩ | ⟨ecap, etl⟩
              all_goals
                go_wp2_with fail
                go_region_law (first
                  | (refine step_append_own _ (by rfl) _ _ _ (by rfl) w8.heap.size 51 i0 _ 2 16 Try.underlying50 hi hz0 hz1 hzb rfl (by omega) (.slice (some ⟨w8.heap.size, 0, none⟩) 0 0) 0 [] (by rfl) ((World.ownsRow_made w8 #[] 0 (Nat.le_refl _) (by decide) rfl).drew) ⟨g, 0, none⟩ j _ (takCells (T.take j)) (by rfl) (by rw [takCells_len]; simp; omega) (news_take ((Below.heap_alloc w8 _ _ lg).trans hgb8.out) HTK.out) (takCells_one _) (by unfold maxLen; omega) (by omega) (by simp) ?_; intro v3 w9 hown3 hgrow3 hnil3; have hB3 : Below w8.heap.size w8 w9 := ⟨hgrow3.os, hgrow3.tape, hgrow3.output, Nat.le_trans (by simp) hgrow3.size, (fun i hi => (hgrow3.block i (by simp; omega) (by simp [Value.ownBlock]; omega)).trans (Below.heap_alloc _ _ _ hi))⟩; have HB3 := Lib.hid hB3; have hs3 := hgrow3.size; clear hB3)
                  | (refine step_append_own _ (by rfl) _ _ _ (by rfl) w8.heap.size 51 i0 _ 2 16 Try.underlying50 hi hz0 hz1 hzb rfl (by omega) v3 (0 + j) ([] ++ takCells (T.take j)) (by rfl) hown3 _ _ _ (takCells (T.drop (j + 1))) (by rfl) (by rw [takCells_len]; simp; try omega) (by first | exact news_drop ((HB3.out.block g lg).trans hgb8.out) HTK.out | (intro j u hj; rw [List.drop_of_length_le (by omega)] at hj; simp [takCells] at hj)) (takCells_one _) (by unfold maxLen; omega) (by omega) (by simp at hs3; omega) ?_; intro v4 w10 hown4 hgrow4 hnil4; have hB4 : Below w8.heap.size w8 w10 := ⟨hgrow4.os.trans HB3.out.os, hgrow4.tape.trans HB3.out.tape, hgrow4.output.trans HB3.out.output, Nat.le_trans HB3.out.size hgrow4.size, (fun i hi => (hgrow4.block i (by simp at hs3; omega) (fun e => by have := (hown3.lt i e.symm).1; omega)).trans (HB3.out.block i hi))⟩; have HB4 := Lib.hid hB4; have HO4 := Lib.hid (own_app hown4); clear hB4 hown4 hgrow4 hnil4))
                all_goals go_wp2_with fail
                all_goals go_roundw
                case rel => exact ⟨i + 1, U, _, T.erase (t1, t2), by go_num, by rw [HER.out]; simp; omega, hIg.out, HW8.out.newS HB4.out (by rw [HER.out]; exact HO4.out), hb8.trans (HB4.out.mono hb8.size)⟩
                case measure => simp [intOf]; omega

end Go.Proofs.Ytikahcbkeempdaa
