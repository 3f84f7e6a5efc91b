/- The law BuddyActs: the walk. -/
import Derived.Test.YtikahcbkeempdaaTwin
import Derived.Test.YtikahcbkeempdaaLwLow
import Derived.Test.YtikahcbkeempdaaRows0
import Derived.Deep.RegionHeld3
namespace Go.Proofs.Ytikahcbkeempdaa
open Go.RowKit Go.Maps

theorem pick_step {F : Nat → List Nat} {k : Nat} (hk : k ≤ 10) : (Bu.pick F k).isSome = ((Bu.pick F (k + 1)).isSome || decide (0 < (F k).length)) := by
  have : 11 - k = (11 - (k + 1)) + 1 := by omega
  unfold Bu.pick
  rw [this]
  conv => lhs; unfold Bu.pickFrom
  cases F k <;> simp

def BARel (w : World) (B bb n p u : Nat) (v : Value) (wr : World) : Prop :=
  ∃ (i : Nat) (tv : Value) (F : Nat → List Nat) (T : List (Nat × Nat)), v = .int .i64 (i : Int) ∧ i ≤ 30 ∧ Twin wr B bb n p u tv F T ∧ Below w.heap.size w wr
def BARel2 (w : World) (B bb n p u : Nat) (tv : Value) (F : Nat → List Nat) (T : List (Nat × Nat)) (vk va : Value) (wr : World) : Prop :=
  ∃ k : Nat, vk = .int .i64 ((k : Int) - 1) ∧ k ≤ 11 ∧ va = .bool (Bu.pick F k).isSome ∧ Twin wr B bb n p u tv F T ∧ Below w.heap.size w wr

set_option maxRecDepth 100000 in
set_option maxHeartbeats 4000000 in
theorem buddyActs_walk (a0 : Int) (a : Option Addr) (len cap : Nat) (z : Nat → Nat → Int) (w : World) (hz : RowsAt w a len 3 z) (hmax : len ≤ 9223372036854775807) :
    Calls Try.prog 8 #[.int .i64 a0, .slice a len cap] w fun e w' => e = .returned (.bool true) ∧ Below w.heap.size w w' := by
  have HZ := Lib.hid hz
  clear hz
  have hbad : (a0 < 1 ∨ 1024 < a0 ∨ (1 ≤ a0 ∧ a0 ≤ 1024 ∧ bits .and .i64 a0 (a0 - 1) ≠ 0)) ∨ (1 ≤ a0 ∧ a0 ≤ 1024 ∧ bits .and .i64 a0 (a0 - 1) = 0) := by omega
  have HBAD := Lib.hid hbad
  clear hbad
  go_enter Try.func8, Try.ntmps8
  go_wp2_with fail
  refine (none8_any _).mono ?_
  rintro e w1 ⟨rfl, rfl⟩
  go_wp2_with fail
  refine (take_nil _ _).mono ?_
  rintro e w1 ⟨rfl, rfl⟩
  go_wp2_with fail
  refine (halves8_any _).mono ?_
  rintro e w1 ⟨rfl, hb1⟩
  go_wp2_with fail
  refine (none8_any _).mono ?_
  rintro e w2 ⟨rfl, rfl⟩
  go_wp2_with fail
  refine (give_nil _ _ _).mono ?_
  rintro e w2 ⟨rfl, rfl⟩
  go_wp2_with fail
  refine (none8_any _).mono ?_
  rintro e w2 ⟨rfl, rfl⟩
  go_wp2_with fail
  refine (has_nil _ _).mono ?_
  rintro e w2 ⟨rfl, rfl⟩
  go_wp2_with fail
  refine (none8_any _).mono ?_
  rintro e w2 ⟨rfl, rfl⟩
  go_wp2_with fail
  refine (free_nil _).mono ?_
  rintro e w2 ⟨rfl, rfl⟩
  go_wp2_with fail
  refine (none8_any _).mono ?_
  rintro e w2 ⟨rfl, rfl⟩
  go_wp2_with fail
  refine (runs_nil _ _).mono ?_
  rintro e w2 ⟨rfl, rfl⟩
  go_wp2_with fail
  refine (none8_any _).mono ?_
  rintro e w2 ⟨rfl, rfl⟩
  go_wp2_with fail
  refine (len_nil _).mono ?_
  rintro e w2 ⟨rfl, rfl⟩
  go_wp2_with fail
  rcases HBAD.out with hno | ⟨hn1, hn2, hn3⟩
  · refine (new_no _ _ hno).mono ?_
    rintro e w2 ⟨rfl, rfl⟩
    rcases hno with h | h | ⟨h1, h2, h3⟩
    · go_wp2_with fail
      go_ret
      exact ⟨rfl, hb1⟩
    · go_wp2_with fail
      go_ret
      exact ⟨rfl, hb1⟩
    · have hne : (bits .and .i64 a0 (a0 - 1) != 0) = true := by rw [bne_iff_ne]; exact h3
      clear h3
      go_wp2_with fail
      go_ret
      exact ⟨rfl, hb1⟩
  · obtain ⟨n, rfl⟩ : ∃ n : Nat, a0 = (n : Int) := ⟨a0.toNat, by omega⟩
    obtain ⟨N, hN, hnN⟩ : ∃ N, N < 11 ∧ n = 2 ^ N := by
      refine small_pow n (by omega) (by omega) ?_
      rw [bits_and_pred hn1 hn2, Int.toNat_natCast] at hn3
      exact_mod_cast hn3
    have hne : (bits .and .i64 (n : Int) ((n : Int) - 1) != 0) = false := by rw [hn3]; rfl
    have HNN := Lib.hid hnN
    clear hn3
    refine (new_ok n N (by omega) hnN _).mono ?_
    rintro e w2 ⟨rfl, hB2, hb2⟩
    clear hnN
    go_wp2_with fail
    refine (rnew_ok n (by omega) (by omega) _).mono ?_
    rintro e w3 ⟨rfl, hR3, hb3, hs3⟩
    have hL2 := hB2.lt
    have hTw : Twin w3 w.heap.size w1.heap.size n (w2.heap.size + 1) w2.heap.size (.slice none 0 0) (Bu.newF n) [] := by
      refine ⟨hB2.same fun i _ hi => hb3.block i (by omega), hR3, Bu.inv_new (N := N) (by omega) HNN.out, ⟨hb1.size, ?_⟩, ?_⟩
      · rintro i (rfl | rfl | hi)
        · have := hb1.size; omega
        · have := hb1.size; omega
        · simp [Value.ownBlock] at hi
      · rintro i (rfl | rfl | hi)
        · omega
        · omega
        · simp [Value.ownBlock] at hi
    have hb13 := (hb1.trans (hb2.mono hb1.size)).trans (hb3.mono (hb1.trans (hb2.mono hb1.size)).size)
    clear hR3 hB2 hs3
    generalize w2.heap.size + 1 = p at *
    generalize w2.heap.size = u at *
    generalize w1.heap.size = bb at *
    go_wp2_with fail
    go_loopw [10] (fun v wr => BARel w w.heap.size bb n p u v wr) (fun v _ => len - (intOf v).toNat)
    case atStart => exact ⟨0, _, _, _, rfl, by omega, hTw, hb13⟩
    case round =>
      obtain ⟨i, tv, F, T, rfl, hi, hT, hb⟩ := hrel
      clear hTw hb13 hb1 hb2 hb3
      by_cases e : i < len ∧ i < 30
      · obtain ⟨e1, e2⟩ := e
        have c1 : (i : Int) < (len : Int) := by omega
        have c2 : (i : Int) < 30 := by omega
        obtain ⟨b, off, rfl, hbl, hcell⟩ := HZ.out (by omega)
        have hc0 := (hb.cell (p := ⟨b, off + i * 3 + 0, none⟩) hbl).trans (hcell i e1 0 (by omega)).1
        have hc1 := (hb.cell (p := ⟨b, off + i * 3 + 1, none⟩) hbl).trans (hcell i e1 1 (by omega)).1
        have hc2 := (hb.cell (p := ⟨b, off + i * 3 + 2, none⟩) hbl).trans (hcell i e1 2 (by omega)).1
        have hwf2 := (hcell i e1 2 (by omega)).2
        rw [Nat.add_zero] at hc0
        clear hcell
        generalize z i 0 = z0 at *
        generalize z i 1 = z1 at *
        generalize z i 2 = z2 at *
        have hqs : (IntKind.u64.wrap z0).tmod 4 = 0 ∨ (IntKind.u64.wrap z0).tmod 4 = 1 ∨ (IntKind.u64.wrap z0).tmod 4 = 2 ∨ (IntKind.u64.wrap z0).tmod 4 = 3 := by
          obtain ⟨q, hq, hq1⟩ := u64mod' z0 4 (by decide)
          omega
        have HQS := Lib.hid hqs
        clear hqs
        go_upto_region 12 with (fail)
        obtain ⟨wa, hwa⟩ : ∃ wa, wr.alloc (Obj.cells #[Value.int IntKind.i64 z0, Value.int IntKind.i64 z1, Value.int IntKind.i64 z2] 57) = wa := ⟨_, rfl⟩
        obtain ⟨g, hg⟩ : ∃ g, wr.heap.size = g := ⟨_, rfl⟩
        have hba : Below w.heap.size w wa := by rw [← hwa]; exact hb.alloc hb.size _
        have hTa : Twin wa w.heap.size bb n p u tv F T := by rw [← hwa]; exact hT.below ((Below.refl _ _).alloc (Nat.le_refl _) _)
        have hblk : wa.heap[g]? = some (Obj.cells #[Value.int IntKind.i64 z0, Value.int IntKind.i64 z1, Value.int IntKind.i64 z2] 57 (0, 0)) := by rw [← hwa, ← hg]; exact heap_alloc_new wr _
        have hgl : g < wa.heap.size := (Array.getElem?_eq_some_iff.1 hblk).1
        have hgf : ¬ TFp bb p u tv g := fun h => by have := (hT.fp h).2; omega
        have hgb : ¬ (bb ≤ g ∧ g < bb + 13) := fun h => hgf (.inl h)
        have hg0 : wa.cell? ⟨g, 0, none⟩ = some (.int .i64 z0) := by simp [World.cell?, hblk]
        have hg1 : wa.cell? ⟨g, 1, none⟩ = some (.int .i64 z1) := by simp [World.cell?, hblk]
        have hg2 : wa.cell? ⟨g, 2, none⟩ = some (.int .i64 z2) := by simp [World.cell?, hblk]
        rw [hwa, hg]
        clear hwa hg hT hb hc0 hc1 hc2 hblk
        rcases HQS.out with hq | hq | hq | hq
        case inl | inr.inl =>
          obtain ⟨x, gg, hcall⟩ := twin_take hTa z1
          have CALL := Lib.hid hcall
          clear hcall
          go_wp2_with fail
          refine CALL.out.mono ?_
          rintro e w4 ⟨rfl, hk4, hd4⟩
          have HD4 := Lib.hid hd4
          clear hd4
          have hh1 := (World.cell?_of_block (a := ⟨g, 1, none⟩) (hk4.block g hgl hgb)).trans hg1
          go_wp2_with fail
          refine HD4.out.mono ?_
          rintro e w5 ⟨rfl, hA5⟩
          have hb5 := hba.trans (hA5.below hTa hTa.lt)
          obtain ⟨-, tv5, F5, T5, hT5⟩ := hA5
          obtain ⟨fr, hf1, hf2⟩ := twin_frees hT5
          have HF1 := Lib.hid hf1
          have HF2 := Lib.hid hf2
          clear hf1 hf2
          go_wp2_with fail
          refine HF1.out.mono ?_
          rintro e w6 ⟨rfl, rfl⟩
          go_wp2_with fail
          refine HF2.out.mono ?_
          rintro e w6 ⟨rfl, rfl⟩
          go_wp2_with fail
          go_roundw
          case rel => exact ⟨i + 1, _, _, _, by go_num, by omega, hT5, hb5⟩
          case measure => simp [intOf]; omega
        case inr.inr.inl =>
          obtain ⟨oa, tcap, rfl, htcap, hsh⟩ := own_shape2 hTa.ref.tak
          have hc1 := hTa.ref.c1
          by_cases hT0 : T.length = 0
          · have ht0 : ((T.length : Int) == 0) = true := by simp [hT0]
            clear hsh
            go_wp2_with fail
            go_roundw
            case rel => exact ⟨i + 1, _, _, _, by go_num, by omega, hTa, hba⟩
            case measure => simp [intOf]; omega
          · obtain ⟨gt, rfl, hgtl, hgt, hcells⟩ := hsh (by omega)
            have hTl := hTa.inv.T_le
            obtain ⟨j, hj, hj1⟩ := u64mod' z2 (T.length : Int) (by omega)
            have hjT : j < T.length := by omega
            have hx0 := hcells (j * 2) (by omega)
            have hy0 := hcells (j * 2 + 1) (by omega)
            rw [(takCells_at T hjT).1] at hx0
            rw [(takCells_at T hjT).2] at hy0
            clear hcells
            have htk := hTa.inv.taken _ (List.getElem_mem hjT)
            have hnl := hTa.inv.n_le
            generalize (T[j]).1 = t1 at *
            generalize (T[j]).2 = t2 at *
            have hwl : IntKind.u64.wrap (T.length : Int) = (T.length : Int) := IntWalk.u64_in _ (by omega)
            have hwj : IntKind.i64.wrap (j : Int) = (j : Int) := IntWalk.i64_in _ (by omega)
            have ht0 : ((T.length : Int) == 0) = false := by rw [beq_eq_false_iff_ne]; omega
            have ht1 : (T.length : Int) ≠ 0 := by omega
            have hj0 : (0 : Int) ≤ (j : Int) := by omega
            have n1 := World.new_ne wa _ hc1
            have n2 := World.new_ne wa _ hg2
            have n3 := World.new_ne wa _ hx0
            generalize htl : T.length = tl at *
            have HTL := Lib.hid htl
            clear htl
            go_wp2_with fail
            go_region_held3 (fun w' => w'.cell? ⟨p, 1, none⟩ = some (.slice (some ⟨gt, 0, none⟩) tl tcap) ∧ w'.cell? ⟨g, 2, none⟩ = some (.int .i64 z2) ∧ w'.cell? ⟨gt, j * 2, none⟩ = some (.int .i64 (t1 : Int)) ∧ w'.cell? ⟨gt, j * 2 + 1, none⟩ = some (.int .i64 (t2 : Int))) (go_keep) (fail)
            obtain ⟨wb, hwb⟩ : ∃ wb, (wa.alloc (Obj.cells #[Value.int IntKind.i64 (t1 : Int), Value.int IntKind.i64 (t2 : Int)] 51)).drew = wb := ⟨_, rfl⟩
            obtain ⟨g2, hg2'⟩ : ∃ g2, wa.heap.size = g2 := ⟨_, rfl⟩
            have hbb : Below w.heap.size w wb := by rw [← hwb]; exact (hba.alloc hba.size _).trans (drewN_below _ 1 _)
            have hTb : Twin wb w.heap.size bb n p u (.slice (some ⟨gt, 0, none⟩) tl tcap) F T := by rw [← hwb]; exact (hTa.below ((Below.refl _ _).alloc (Nat.le_refl _) _)).drewN 1
            have hblk : wb.heap[g2]? = some (Obj.cells #[Value.int IntKind.i64 (t1 : Int), Value.int IntKind.i64 (t2 : Int)] 51 (0, 0)) := by rw [← hwb, ← hg2']; exact heap_alloc_new wa _
            have hgl : g2 < wb.heap.size := (Array.getElem?_eq_some_iff.1 hblk).1
            have hgf : ¬ TFp bb p u (.slice (some ⟨gt, 0, none⟩) tl tcap) g2 := fun h => by have := (hTa.fp h).2; omega
            have hgb : ¬ (bb ≤ g2 ∧ g2 < bb + 13) := fun h => hgf (.inl h)
            have hx0 : wb.cell? ⟨g2, 0, none⟩ = some (.int .i64 (t1 : Int)) := by simp [World.cell?, hblk]
            have hy0 : wb.cell? ⟨g2, 1, none⟩ = some (.int .i64 (t2 : Int)) := by simp [World.cell?, hblk]
            rw [hwb, hg2']
            clear hwb hg2' hTa hba hblk hg0 hg1 hg2 hc1 n1 n2 n3 hj hj0 hj1 hwl hwj
            obtain ⟨gg, hcall⟩ := twin_give hTb (t1 : Int) (t2 : Int) (wfI (by omega) (by omega))
            have CG := Lib.hid hcall
            clear hcall
            go_wp2_with fail
            go_region_held3 (fun w' => w'.cell? ⟨g2, 0, none⟩ = some (.int .i64 (t1 : Int)) ∧ w'.cell? ⟨g2, 1, none⟩ = some (.int .i64 (t2 : Int)))
              (first | (go_split_ands; refine ⟨?_, ?_⟩ <;> assumption) | go_keep)
              (first
                | (go_at_call 33; refine (CG.out 1).mono ?_; rintro e w4 ⟨rfl, hk4, hd4⟩; have hx4 := (World.cell?_of_block (a := ⟨g2, 0, none⟩) (hk4.block g2 hgl hgb)).trans hx0; have hy4 := (World.cell?_of_block (a := ⟨g2, 1, none⟩) (hk4.block g2 hgl hgb)).trans hy0; have HD4 := Lib.hid hd4; clear hd4)
                | (go_at_call 39; refine (HD4.out 0).mono ?_; rintro e w5 ⟨rfl, hA5⟩; have hx5 := (World.cell?_of_block (a := ⟨g2, 0, none⟩) (hA5.1.block g2 hgl hgf)).trans hx0; have hy5 := (World.cell?_of_block (a := ⟨g2, 1, none⟩) (hA5.1.block g2 hgl hgf)).trans hy0))
            have hb5 := hbb.trans (hA5.below hTb hTb.lt)
            obtain ⟨-, tv5, F5, T5, hT5⟩ := hA5
            obtain ⟨fr, hf1, hf2⟩ := twin_frees hT5
            have HF1 := Lib.hid hf1
            have HF2 := Lib.hid hf2
            clear hf1 hf2
            go_wp2_with fail
            refine HF1.out.mono ?_
            rintro e w6 ⟨rfl, rfl⟩
            go_wp2_with fail
            refine HF2.out.mono ?_
            rintro e w6 ⟨rfl, rfl⟩
            go_wp2_with fail
            go_roundw
            case rel => exact ⟨i + 1, _, _, _, by go_num, by omega, hT5, hb5⟩
            case measure => simp [intOf]; omega
        case inr.inr.inr =>
          obtain ⟨gg, hcall⟩ := twin_give hTa z2 z1 hwf2
          have CG := Lib.hid hcall
          clear hcall
          have hx0 := hg2
          have hy0 := hg1
          go_wp2_with fail
          go_region_held3 (fun w' => w'.cell? ⟨g, 2, none⟩ = some (.int .i64 z2) ∧ w'.cell? ⟨g, 1, none⟩ = some (.int .i64 z1))
            (first | (go_split_ands; refine ⟨?_, ?_⟩ <;> assumption) | go_keep)
            (first
              | (go_at_call 33; refine (CG.out 1).mono ?_; rintro e w4 ⟨rfl, hk4, hd4⟩; have hx4 := (World.cell?_of_block (a := ⟨g, 2, none⟩) (hk4.block g hgl hgb)).trans hx0; have hy4 := (World.cell?_of_block (a := ⟨g, 1, none⟩) (hk4.block g hgl hgb)).trans hy0; have HD4 := Lib.hid hd4; clear hd4)
              | (go_at_call 39; refine (HD4.out 0).mono ?_; rintro e w5 ⟨rfl, hA5⟩; have hx5 := (World.cell?_of_block (a := ⟨g, 2, none⟩) (hA5.1.block g hgl hgf)).trans hx0; have hy5 := (World.cell?_of_block (a := ⟨g, 1, none⟩) (hA5.1.block g hgl hgf)).trans hy0))
          have hb5 := hba.trans (hA5.below hTa hTa.lt)
          obtain ⟨-, tv5, F5, T5, hT5⟩ := hA5
          obtain ⟨fr, hf1, hf2⟩ := twin_frees hT5
          have HF1 := Lib.hid hf1
          have HF2 := Lib.hid hf2
          clear hf1 hf2
          go_wp2_with fail
          refine HF1.out.mono ?_
          rintro e w6 ⟨rfl, rfl⟩
          go_wp2_with fail
          refine HF2.out.mono ?_
          rintro e w6 ⟨rfl, rfl⟩
          go_wp2_with fail
          go_roundw
          case rel => exact ⟨i + 1, _, _, _, by go_num, by omega, hT5, hb5⟩
          case measure => simp [intOf]; omega
      · have hcase : (¬ (i : Int) < (len : Int)) ∨ ((i : Int) < (len : Int) ∧ ¬ (i : Int) < 30) := by omega
        clear e
        rcases hcase with c1 | ⟨c1, c2⟩
        all_goals
          go_wp2_with fail
          go_loopw [18, 17] (fun vk va wr => BARel2 w w.heap.size bb n p u tv F T vk va wr) (fun vk _ _ => (intOf vk + 1).toNat)
          case atStart => exact ⟨11, by simp, by omega, rfl, hT, hb⟩
          case round =>
            clear hT hb
            obtain ⟨k, hvk, hk, hva, hT, hb⟩ := hrel
            rcases k with _ | k
            · subst hvk hva
              go_wp2_with fail
              refine (len_any hT.bud).mono ?_
              rintro e w6 ⟨rfl, rfl⟩
              go_wp2_with fail
              refine (has_no _ _ _ (by omega)).mono ?_
              rintro e w6 ⟨rfl, rfl⟩
              go_wp2_with fail
              refine (has_no _ _ _ (by omega)).mono ?_
              rintro e w6 ⟨rfl, rfl⟩
              go_wp2_with fail
              refine (runs_no _ _ _ (by omega)).mono ?_
              rintro e w6 ⟨rfl, rfl⟩
              go_wp2_with fail
              go_ret
              exact ⟨rfl, hb⟩
            · have hv : ((k + 1 : Nat) : Int) - 1 = (k : Int) := by omega
              rw [hv] at hvk
              subst hvk
              have hwk : IntKind.i64.wrap ((k : Int) - 1) = (k : Int) - 1 := IntWalk.i64_in _ (by omega)
              have hk0 : (0 : Int) ≤ (k : Int) := by omega
              have hk' : k ≤ 10 := by omega
              have hRR := Lib.hid (hT.rruns k hk')
              have hst := pick_step (F := F) hk'
              have hLL := hT.inv.len_le hk'
              obtain ⟨L, hL⟩ : ∃ L, (F k).length = L := ⟨_, rfl⟩
              rw [hL] at hLL
              obtain ⟨A, hA⟩ : ∃ A, (Bu.pick F (k + 1)).isSome = A := ⟨_, rfl⟩
              obtain ⟨A', hA'⟩ : ∃ A', (Bu.pick F k).isSome = A' := ⟨_, rfl⟩
              rw [hA] at hva
              subst hva
              have hcs : (A = true ∧ A' = true) ∨ (A = false ∧ A' = true ∧ 0 < L) ∨ (A = false ∧ A' = false ∧ L = 0) := by
                rw [hA, hA', hL] at hst
                cases A
                · rcases Nat.eq_zero_or_pos L with e | e
                  · exact .inr (.inr ⟨rfl, by rw [hst, e]; rfl, e⟩)
                  · exact .inr (.inl ⟨rfl, by rw [hst]; simpa using e, e⟩)
                · exact .inl ⟨rfl, by rw [hst]; rfl⟩
              have HL := Lib.hid hL
              have HA' := Lib.hid hA'
              clear hst hL hA hA' hv
              go_wp2_with fail
              refine hRR.out.mono ?_
              rintro e w6 ⟨v6, rfl, hrow6, hb6⟩
              obtain ⟨o6, cap6, rfl, hs6⟩ := own_shape hrow6
              rw [HL.out] at hs6 ⊢
              have hT6 := hT.below hb6
              have HS6 := Lib.hid hs6
              have HRR := Lib.hid (hT6.bruns k hk')
              clear hrow6 hs6
              have hbb6 := hb.trans (hb6.mono hb.size)
              have hcs' : (A = true ∧ A' = true) ∨ (A = false ∧ A' = true ∧ decide (0 < L) = true) ∨ (A = false ∧ A' = false ∧ decide (0 < L) = false) := by
                rcases hcs with h | ⟨h1, h2, h3⟩ | ⟨h1, h2, h3⟩
                · exact .inl h
                · exact .inr (.inl ⟨h1, h2, by simpa using h3⟩)
                · exact .inr (.inr ⟨h1, h2, by simpa using h3⟩)
              clear hcs
              rcases hcs' with ⟨rfl, rfl⟩ | ⟨rfl, rfl, hLp⟩ | ⟨rfl, rfl, hLp⟩
              all_goals
                go_wp2_with fail
                refine HRR.out.mono ?_
                rintro e w7 ⟨v7, rfl, hrow7, hb7⟩
                obtain ⟨o7, cap7, rfl, hs7⟩ := own_shape hrow7
                rw [HL.out] at hs7 ⊢
                have hT7 := hT6.below hb7
                have hHAS := Lib.hid (fun m => has_pick (hT7.bud.drewN m) k hk')
                have hbb7 := hbb6.trans (hb7.mono hbb6.size)
                have HSM := Lib.hid (same8_any (oa := o7) (ob := o6) (ca := cap7) (cb := cap6) (w := w7) (xs := F k) HL.out hLL (fun h => by obtain ⟨g, e, _, _, hc⟩ := hs7 h; exact ⟨g, e, hc⟩) (fun h => by obtain ⟨g, e, _, hl, hc⟩ := HS6.out h; exact ⟨g, e, fun i hi => (hb7.cell (p := ⟨g, i, none⟩) hl).trans (hc i hi)⟩))
                clear hs7 hrow7 hb7
                go_wp2_with fail
                refine HSM.out.mono ?_
                rintro e w8 ⟨rfl, m8, rfl⟩
                go_wp2_with fail
                refine (hHAS.out m8).mono ?_
                rintro e w9 ⟨rfl, rfl⟩
                rw [HA'.out]
                go_wp2_with fail
                go_roundw
                case rel => exact ⟨k, by go_num, by omega, by rw [HA'.out], hT7.drewN m8, hbb7.trans (drewN_below _ _ _)⟩
                case measure => simp [intOf]

end Go.Proofs.Ytikahcbkeempdaa
