/- The law BuddyBack: the walk. -/
import Derived.Test.YtikahcbkeempdaaLwLow
import Derived.Test.YtikahcbkeempdaaRows0
namespace Go.Proofs.Ytikahcbkeempdaa
open Go.RowKit Go.Maps

def BBRel (w : World) (b n : Nat) (v : Value) (wr : World) : Prop :=
  ∃ (i : Nat) (T : List (Nat × Nat)) (F : Nat → List Nat), v = .int .i64 (i : Int) ∧ i ≤ 20 ∧ Bu.Inv n T F ∧ Bud wr b n F T ∧ Below w.heap.size w wr

set_option maxRecDepth 100000 in
set_option maxHeartbeats 2000000 in
theorem buddyBack_walk (a0 : Int) (a : Option Addr) (len cap : Nat) (z : Nat → Nat → Int) (a2 : Int) (w : World) (hz : RowsAt w a len 3 z) (hmax : len ≤ 9223372036854775807) :
    Calls Try.prog 7 #[.int .i64 a0, .slice a len cap, .int .i64 a2] w fun e w' => e = .returned (.bool true) ∧ Below w.heap.size w w' := by
  obtain ⟨k, hk, hk1⟩ := u64mod' a0 9 (by decide)
  obtain ⟨o, ho, ho1⟩ := u64mod' a2 4 (by decide)
  obtain ⟨n, hn⟩ : ∃ n, 2 ^ k = n := ⟨_, rfl⟩
  have hcp : (2 : Int) ^ k = (n : Int) := by rw [castPow, hn]
  have hnl : n ≤ 1024 := by rw [← hn]; exact pow1024 (by omega)
  have HN := Lib.hid hn
  have HZ := Lib.hid hz
  clear hn hz
  go_enter Try.func7, Try.ntmps7
  go_wp2_with fail
  refine (new_ok n k (by omega) HN.out.symm _).mono ?_
  rintro e w1 ⟨rfl, hB1, hb1⟩
  go_wp2_with fail
  refine (halves8_any _).mono ?_
  rintro e w2 ⟨rfl, hb2⟩
  have hB2 := hB1.same (w' := w2) (fun i _ h => hb2.block i (by have := hB1.lt; omega))
  have hb12 := hb1.trans (hb2.mono hb1.size)
  clear hB1 hb1 hb2 hk
  go_wp2_with fail
  go_loopw [9] (fun v wr => BBRel w w.heap.size n v wr) (fun v _ => len - (intOf v).toNat)
  case atStart => exact ⟨0, [], Bu.newF n, rfl, by omega, Bu.inv_new (N := k) (by omega) HN.out.symm, hB2, hb12⟩
  case round =>
    obtain ⟨i, T, F, rfl, hi, I, hB, hb⟩ := hrel
    clear hB2 hb12
    have II := Lib.hid I
    by_cases e : i < len ∧ i < 20
    · obtain ⟨e1, e2⟩ := e
      have c1 : (i : Int) < (len : Int) := by omega
      have c2 : (i : Int) < 20 := by omega
      obtain ⟨b, off, rfl, hbl, hcell⟩ := HZ.out (by omega)
      have hc : wr.cell? ⟨b, off + i * 3 + 1, none⟩ = some (.int .i64 (z i 1)) := (hb.cell (p := ⟨b, off + i * 3 + 1, none⟩) hbl).trans (hcell i e1 1 (by omega)).1
      obtain ⟨q, hq, hq1⟩ := u64mod' (z i 1) 4 (by decide)
      clear hcell
      cases hpick : Bu.pick F q with
      | none =>
        have H := Lib.hid (take_nomem hB q (by omega) hpick)
        clear hpick I
        go_wp2_with fail
        refine H.out.mono ?_
        rintro e w3 ⟨rfl, rfl⟩
        go_wp2_with fail
        go_roundw
        case rel => exact ⟨i + 1, T, F, by go_num, by omega, II.out, hB, hb⟩
        case measure => simp [intOf]; omega
      | some x =>
        obtain ⟨kk, x⟩ := x
        have H := Lib.hid (take_pick hB I q hpick)
        have I' := Lib.hid (I.take_pick hpick)
        clear hpick I
        go_wp2_with fail
        refine H.out.mono ?_
        rintro e w3 ⟨rfl, hB3, hk3⟩
        have hb3 := hb.trans (hk3.below (Nat.le_refl _) hb.size)
        go_wp2_with fail
        go_roundw
        case rel => exact ⟨i + 1, _, _, by go_num, by omega, I'.out, hB3, hb3⟩
        case measure => simp [intOf]; omega
    · have hcase : (¬ (i : Int) < (len : Int)) ∨ ((i : Int) < (len : Int) ∧ ¬ (i : Int) < 20) := by omega
      clear e
      obtain ⟨fr, hfr⟩ : ∃ fr, Bu.sumF F 11 = fr := ⟨_, rfl⟩
      have hfree := free_inv hB I
      rw [hfr] at hfree
      have HFR := Lib.hid hfree
      have HHAS := Lib.hid (has_pick hB o (by omega))
      clear hfree
      cases hpick : Bu.pick F o with
      | none =>
        have HP := Lib.hid hpick
        have H := Lib.hid (take_nomem hB o (by omega) hpick)
        clear hpick I hfr
        rcases hcase with c1 | ⟨c1, c2⟩
        all_goals
          go_wp2_with fail
          refine HFR.out.mono ?_
          rintro e w3 ⟨rfl, rfl⟩
          go_wp2_with fail
          refine H.out.mono ?_
          rintro e w3 ⟨rfl, rfl⟩
          go_wp2_with fail
          refine HHAS.out.mono ?_
          rintro e w3 ⟨rfl, rfl⟩
          rw [HP.out]
          go_wp2_with fail
          go_ret
          exact ⟨rfl, hb⟩
      | some x =>
        obtain ⟨kk, x⟩ := x
        obtain ⟨p1, p2, ⟨l, pl⟩, p4⟩ := Bu.pick_some hpick
        have hxm : x ∈ F kk := by rw [pl]; simp
        have H := Lib.hid (take_pick hB I o hpick)
        have J1 := I.take_pick hpick
        have hmem : (x, o) ∈ T ++ [(x, o)] := by simp
        have J2 := J1.give hmem
        have hT2 : (T ++ [(x, o)]).erase (x, o) = T := Bu.erase_last (I.notin p2 hxm)
        rw [hT2] at J2
        have hpick2 : Bu.pick (Bu.giveF (10 - o) (Bu.takeF F kk o x) x o) o = some (kk, x) := by rw [Bu.pick_congr (J2.same I), hpick]
        have J3 := J2.take_pick hpick2
        have hs3 := J3.sum
        rw [Bu.sumT_snoc] at hs3
        have hs1 := I.sum
        rw [hfr] at hs1
        obtain ⟨y, hy⟩ : ∃ y, Bu.sumF (Bu.takeF (Bu.giveF (10 - o) (Bu.takeF F kk o x) x o) kk o x) 11 = y := ⟨_, rfl⟩
        rw [hy] at hs3
        have hpo := pow1024 (k := o) (by omega)
        have hpp := Bu.pos2 o
        have hJ := J3.n_le
        have f1 : IntKind.i64.wrap ((2 : Int) ^ o) = (2 : Int) ^ o := IntWalk.i64_in _ (by have := powI (k := o) (by omega); omega)
        have f2 : IntKind.i64.wrap ((fr : Int) - 2 ^ o) = (y : Int) := by rw [castPow]; rw [IntWalk.i64_in _ (by omega)]; omega
        have G1 := Lib.hid J1
        have G2 := Lib.hid J2
        have G3 := Lib.hid J3
        have HM := Lib.hid hmem
        have HT2 := Lib.hid hT2
        have HP2 := Lib.hid hpick2
        have HY := Lib.hid hy
        clear hpick p4 pl hxm J1 J2 J3 hT2 hpick2 hs3 hs1 hy hmem hfr I
        rcases hcase with c1 | ⟨c1, c2⟩
        all_goals
          go_wp2_with fail
          refine HFR.out.mono ?_
          rintro e w3 ⟨rfl, rfl⟩
          go_wp2_with fail
          refine H.out.mono ?_
          rintro e w3 ⟨rfl, hB3, hk3⟩
          go_wp2_with fail
          refine (give_inv hB3 G1.out x o HM.out).mono ?_
          rintro e w4 ⟨rfl, hB4, hk4⟩
          rw [HT2.out] at hB4
          go_wp2_with fail
          refine (take_pick hB4 G2.out o HP2.out).mono ?_
          rintro e w5 ⟨rfl, hB5, hk5⟩
          have hb5 := hb.trans (((hk3.trans hk4).trans hk5).below (Nat.le_refl _) hb.size)
          have hfr := fun m => free_inv (hB5.drewN m) G3.out
          rw [HY.out] at hfr
          have HFR5 := Lib.hid hfr
          clear hfr hk3 hk4 hk5
          go_wp2_with fail
          go_quiet ((go_at_call 31; exact quiet_left (HFR5.out _)))
          clear f1 f2
          go_wp2_with fail
          go_ret
          exact ⟨rfl, hb5.trans (drewN_below _ _ _)⟩

end Go.Proofs.Ytikahcbkeempdaa
