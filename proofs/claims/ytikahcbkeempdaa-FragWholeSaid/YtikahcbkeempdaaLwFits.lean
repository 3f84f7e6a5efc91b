/- The law FragFits: the walk. -/
import Derived.Test.YtikahcbkeempdaaFrag4
namespace Go.Proofs.Ytikahcbkeempdaa
open Go.RowKit Go.Maps

theorem sumF_take_low {F : Nat → List Nat} {kk o a : Nat} (hok : o ≤ kk) (hnone : ∀ j, o ≤ j → j < kk → F j = []) : ∀ m, m ≤ o → Bu.sumF (Bu.takeF F kk o a) m = Bu.sumF F m := fun m hm => by
  apply Bu.sumF_congr
  intro j hj
  rw [Bu.takeF_at hok hnone j]
  rw [if_neg (by omega), if_neg (by omega)]
theorem fit_take {n : Nat} {T F} (I : Bu.Inv n T F) {o kk a : Nat} (hp : Bu.pick F o = some (kk, a)) : fitF (cntF (Bu.takeF F kk o a)) o (11 - o) + 1 = fitF (cntF F) o (11 - o) := by
  obtain ⟨h1, h2, _, h4⟩ := Bu.pick_some hp
  have I' := I.take_pick hp
  have s1 := I.sum
  have s2 := I'.sum
  rw [Bu.sumT_snoc] at s2
  have f1 := fitF_sum F o (11 - o) (by omega)
  have f2 := fitF_sum (Bu.takeF F kk o a) o (11 - o) (by omega)
  rw [show o + (11 - o) = 11 by omega] at f1 f2
  rw [sumF_take_low h1 h4 o (Nat.le_refl _)] at f2
  have hp2 := Bu.pos2 o
  generalize fitF (cntF (Bu.takeF F kk o a)) o (11 - o) = x at *
  generalize fitF (cntF F) o (11 - o) = y at *
  have : (x + 1) * 2 ^ o = y * 2 ^ o := by
    rw [Nat.add_mul, Nat.one_mul]
    omega
  exact Nat.eq_of_mul_eq_mul_right hp2 this
theorem fit_none {F : Nat → List Nat} {o : Nat} (hp : Bu.pick F o = none) : ∀ d, o + d ≤ 11 → fitF (cntF F) o d = 0
  | 0, _ => rfl
  | d + 1, h => by
    have ih := fit_none hp d (by omega)
    have h1 := Bu.pick_none hp (o + d) (by omega) (by omega)
    have h2 : cntF F (o + d) = 0 := by unfold cntF; rw [if_pos (by omega), h1]; rfl
    simp [fitF, ih, h2]
theorem best_lt {L : Nat → Nat} {o : Nat} : ∀ d, (∀ j, o ≤ j → j < d → L j = 0) → bestTo L d < (o : Int)
  | 0, _ => by simp [bestTo]; omega
  | d + 1, h => by
    have ih := best_lt d fun j h1 h2 => h j h1 (by omega)
    unfold bestTo
    split
    · by_cases e : o ≤ d
      · have := h d e (by omega)
        omega
      · omega
    · exact ih

def FFRel (w : World) (bb n k m : Nat) (v : Value) (wr : World) : Prop :=
  ∃ (i : Nat) (F : Nat → List Nat) (T : List (Nat × Nat)), v = .int .i64 (i : Int) ∧ i + fitF (cntF F) k (11 - k) = m ∧ Bud wr bb n F T ∧ Bu.Inv n T F ∧ Below w.heap.size w wr

set_option maxRecDepth 100000 in
set_option maxHeartbeats 4000000 in
theorem fragFits_walk (a0 : Int) (a : Option Addr) (len cap : Nat) (z : Nat → Nat → Int) (a2 : Int) (w : World) (hz : RowsAtK w a len [false, true, true] z) (hmax : len ≤ 9223372036854775807) :
    Calls Try.prog 10 #[.int .i64 a0, .slice a len cap, .int .i64 a2] w fun e w' => e = .returned (.bool true) ∧ Below w.heap.size w w' := by
  obtain ⟨N, hN, hN1⟩ := u64mod' a0 9 (by decide)
  obtain ⟨k, hk, hk1⟩ := u64mod' a2 6 (by decide)
  obtain ⟨n, hn⟩ : ∃ n, 2 ^ N = n := ⟨_, rfl⟩
  have hcp : (2 : Int) ^ N = (n : Int) := by rw [castPow, hn]
  have hnl : n ≤ 1024 := by rw [← hn]; exact pow1024 (by omega)
  have hwn : IntKind.i64.wrap (n : Int) = (n : Int) := IntWalk.i64_in _ (by omega)
  have HB := Lib.hid (both_any n N (by omega) hn.symm a len cap z w hz hmax)
  clear hn hz
  go_enter Try.func10, Try.ntmps10
  go_wp2_with fail
  refine HB.out.mono ?_
  rintro e w1 ⟨bb, p, u, tv, F, T, rfl, hT, hb1⟩
  have hge := hT.ge.1
  have hB1 := hT.bud
  have I1 := hT.inv
  clear hT hN hcp hwn
  go_wp2_with fail
  refine (frags_any _).mono ?_
  rintro e w2 ⟨rfl, hb2⟩
  have hB2 := hB1.same (w' := w2) (fun i _ h => hb2.block i (by have := hB1.lt; omega))
  have hb12 := hb1.trans (hb2.mono hb1.size)
  have HFT := Lib.hid (fits_any (runsLike_bud hB2 I1) (cntF_le I1) k (by omega) (fitF_le I1 (by omega)))
  obtain ⟨m, hm⟩ : ∃ m, fitF (cntF F) k (11 - k) = m := ⟨_, rfl⟩
  have hml : m ≤ 1024 := by rw [← hm]; exact fitF_le I1 (by omega)
  rw [hm] at HFT
  have HM := Lib.hid hm
  clear hB1 hb1 hb2 hm
  go_wp2_with fail
  refine HFT.out.mono ?_
  rintro e w3 ⟨rfl, hb3⟩
  have hB3 := hB2.same (w' := w3) (fun i _ h => hb3.block i (by have := hB2.lt; omega))
  have hb13 := hb12.trans (hb3.mono hb12.size)
  clear hB2 hb12 hb3
  go_wp2_with fail
  go_loopw [11] (fun v wr => FFRel w bb n k m v wr) (fun v _ => m - (intOf v).toNat)
  case atStart => exact ⟨0, F, T, rfl, by rw [HM.out]; omega, hB3, I1, hb13⟩
  case round =>
    clear hB3 I1 hb13
    obtain ⟨i, F, T, rfl, hi, hB, I, hb⟩ := hrel
    by_cases e : i < m
    · have ci : (i : Int) < (m : Int) := by omega
      have hft := fits_any (runsLike_bud hB I) (cntF_le I) k (by omega) (fitF_le I (by omega))
      cases hp : Bu.pick F k with
      | none =>
        have := fit_none hp (11 - k) (by omega)
        omega
      | some y =>
        obtain ⟨kk, x⟩ := y
        have hf := fit_take I hp
        have I' := I.take_pick hp
        have ew : IntKind.i64.wrap ((m : Int) - (i : Int)) = (fitF (cntF F) k (11 - k) : Int) := by rw [IntWalk.i64_in _ (by omega)]; omega
        obtain ⟨y, hy⟩ : ∃ y, fitF (cntF F) k (11 - k) = y := ⟨_, rfl⟩
        rw [hy] at hft ew hf hi
        have HF := Lib.hid hft
        have HI := Lib.hid I
        have HI' := Lib.hid I'
        have HP := Lib.hid hp
        have HFF := Lib.hid hf
        clear hft hp I I' hy hf
        go_wp2_with fail
        refine HF.out.mono ?_
        rintro e w4 ⟨rfl, hb4⟩
        have hB4 := hB.same (w' := w4) (fun i _ h => hb4.block i (by have := hB.lt; omega))
        have hb14 := hb.trans (hb4.mono hb.size)
        clear hb4
        go_wp2_with fail
        refine (take_pick hB4 HI.out k HP.out).mono ?_
        rintro e w5 ⟨rfl, hB5, hk5⟩
        have hb5 := hb14.trans (hk5.below hge hb14.size)
        clear ew
        go_wp2_with fail
        go_roundw
        case rel => exact ⟨i + 1, _, _, by go_num, by have := HFF.out; omega, hB5, HI'.out, hb5⟩
        case measure => simp [intOf]; omega
    · have ci : ¬ (i : Int) < (m : Int) := by omega
      have hz : fitF (cntF F) k (11 - k) = 0 := by omega
      have hp : Bu.pick F k = none := by
        cases hp : Bu.pick F k with
        | none => rfl
        | some y =>
          have := fit_take I (kk := y.1) (a := y.2) hp
          omega
      have hbl : bestTo (cntF F) 11 < (k : Int) := best_lt 11 fun j h1 h2 => by
        unfold cntF
        rw [if_pos (by omega), Bu.pick_none hp j h1 (by omega)]
        rfl
      have HT := Lib.hid (take_nomem hB k (by omega) hp)
      have HLG := Lib.hid (largest_any (runsLike_bud hB I) (cntF_le I))
      generalize bestTo (cntF F) 11 = best at *
      clear hz hp
      go_wp2_with fail
      refine HT.out.mono ?_
      rintro e w4 ⟨rfl, rfl⟩
      go_wp2_with fail
      refine HLG.out.mono ?_
      rintro e w5 ⟨rfl, hb5⟩
      go_wp2_with fail
      refine (fits_no _ _ (by omega) _).mono ?_
      rintro e w6 ⟨rfl, rfl⟩
      go_wp2_with fail
      refine (fits_no _ _ (by omega) _).mono ?_
      rintro e w6 ⟨rfl, rfl⟩
      go_wp2_with fail
      go_ret
      exact ⟨rfl, hb.trans (hb5.mono hb.size)⟩

end Go.Proofs.Ytikahcbkeempdaa
