/- The law FragWhole: the walk. -/
import Derived.Test.YtikahcbkeempdaaFwPure
import Derived.Deep.RegionHeld3
namespace Go.Proofs.Ytikahcbkeempdaa
open Go.RowKit Go.Maps

def FWRel (w : World) (b n : Nat) (v : Value) (wr : World) : Prop :=
  ∃ (i : Nat) (F : Nat → List Nat), v = .int .i64 (i : Int) ∧ i ≤ n ∧ Bu.Inv n (Bu.lowT i 0) F ∧ Bud wr b n F (Bu.lowT i 0) ∧ Below w.heap.size w wr
def FWRel2 (w : World) (b n m : Nat) (v : Value) (wr : World) : Prop :=
  ∃ (j : Nat) (T : List (Nat × Nat)) (F : Nat → List Nat), v = .int .i64 ((2 * j : Nat) : Int) ∧ j ≤ m ∧ Alt n j T ∧ Bu.Inv n T F ∧ Bud wr b n F T ∧ Below w.heap.size w wr

set_option maxRecDepth 100000 in
set_option maxHeartbeats 4000000 in
theorem fragWhole_walk (a0 a1 : Int) (w : World) :
    Calls Try.prog 11 #[.int .i64 a0, .int .i64 a1] w fun e w' => e = .returned (.bool true) ∧ Below w.heap.size w w' := by
  obtain ⟨k0, hk0, hk1⟩ := u64mod' a0 8 (by decide)
  obtain ⟨o0, ho0, ho1⟩ := u64mod' a1 10 (by decide)
  obtain ⟨k, hk⟩ : ∃ k, 1 + k0 = k := ⟨_, rfl⟩
  obtain ⟨o, ho⟩ : ∃ o, 1 + o0 = o := ⟨_, rfl⟩
  have hka : IntKind.i64.wrap (1 + (k0 : Int)) = (k : Int) := by rw [IntWalk.i64_in _ (by omega)]; omega
  have hoa : IntKind.i64.wrap (1 + (o0 : Int)) = (o : Int) := by rw [IntWalk.i64_in _ (by omega)]; omega
  have hk9 : k ≤ 8 ∧ 1 ≤ k := by omega
  have ho9 : o ≤ 10 ∧ 1 ≤ o := by omega
  obtain ⟨m, hm⟩ : ∃ m, 2 ^ (k - 1) = m := ⟨_, rfl⟩
  obtain ⟨n, hn⟩ : ∃ n, 2 ^ k = n := ⟨_, rfl⟩
  have hmn : n = 2 * m := by rw [← hn, ← hm, show k = (k - 1) + 1 by omega, Nat.pow_succ]; simp; omega
  have hm1 : 1 ≤ m := by rw [← hm]; exact Bu.pos2 _
  have hnp : 0 < n := by omega
  have hcp : (2 : Int) ^ k = (n : Int) := by rw [castPow, hn]
  have hcm : (2 : Int) ^ (k - 1) = (m : Int) := by rw [castPow, hm]
  have hnl : n ≤ 1024 := by rw [← hn]; exact pow1024 (by omega)
  have hwn : IntKind.i64.wrap (n : Int) = (n : Int) := IntWalk.i64_in _ (by omega)
  have hwm : IntKind.i64.wrap (m : Int) = (m : Int) := IntWalk.i64_in _ (by omega)
  have hkm : IntKind.i64.wrap ((k : Int) - 1) = (k : Int) - 1 := IntWalk.i64_in _ (by omega)
  have hkm0 : (0 : Int) ≤ (k : Int) - 1 := by omega
  have hkm1 : ((k : Int) - 1).toNat = k - 1 := by omega
  have hkk0 : (0 : Int) ≤ (k : Int) := by omega
  have hkk : (0 : Int) ≤ 1 + (k0 : Int) := by omega
  have NF := Lib.hid (newF_facts (k := k) (by omega))
  have I0 := Lib.hid (Bu.inv_new (N := k) (by omega) hn.symm)
  have HN := Lib.hid hn
  have HMN := Lib.hid hmn
  clear hn hmn hk ho hm
  go_enter Try.func11, Try.ntmps11
  go_wp2_with fail
  refine (new_ok n k (by omega) HN.out.symm _).mono ?_
  rintro e w1 ⟨rfl, hB1, hb1⟩
  go_wp2_with fail
  refine (frags_any _).mono ?_
  rintro e w2 ⟨rfl, hb2⟩
  have hB2 := hB1.same (w' := w2) (fun i _ h => hb2.block i (by have := hB1.lt; omega))
  have hb12 := hb1.trans (hb2.mono hb1.size)
  obtain ⟨bb, hbb⟩ : ∃ bb, w.heap.size = bb := ⟨_, rfl⟩
  have HBB := Lib.hid hbb
  rw [hbb] at hB2 ⊢
  clear hB1 hb1 hb2 hbb
  obtain ⟨nf1, nf2, nf3⟩ := NF.out
  rw [HN.out] at nf1 nf2 nf3
  have hix := index_any (runsLike_bud hB2 I0.out) (freeLike_bud hB2 I0.out) (by rw [nf3]; exact hnp) (by rw [nf3]; exact hnl) (cntF_le I0.out) k (by omega) (fitF_le0 I0.out (by omega))
  rw [fitF_zero (by omega), nf1] at hix
  simp only [Nat.mul_zero, Nat.zero_div] at hix
  have HIX := Lib.hid hix
  have hLG := fun w' (h : Below w2.heap.size w2 w') => largest_any (runsLike_bud (hB2.same (w' := w') (fun i _ hi => h.block i (by have := hB2.lt; omega))) I0.out) (cntF_le I0.out)
  have hFT := fun w' (h : Below w2.heap.size w2 w') => fits_any (runsLike_bud (hB2.same (w' := w') (fun i _ hi => h.block i (by have := hB2.lt; omega))) I0.out) (cntF_le I0.out) 0 (by decide) (fitF_le I0.out (by omega))
  rw [nf2] at hLG
  simp only [Nat.sub_zero, fitF_zero (Nat.le_refl 11), nf3] at hFT
  have HLG := Lib.hid hLG
  have HFT := Lib.hid hFT
  clear hix hLG hFT nf1 nf2 nf3
  go_wp2_with fail
  refine HIX.out.mono ?_
  rintro e w3 ⟨rfl, hb3⟩
  go_wp2_with fail
  go_region_held3 (fun _ => True) (trivial)
    (first
      | (go_at_call 45; refine (HLG.out (w3.drewN 1) (hb3.trans (drewN_below _ 1 _))).mono ?_; rintro e w4 ⟨rfl, hb4⟩; have hB24 := (hb3.trans (drewN_below w3 1 _)).trans (hb4.mono (by simpa using hb3.size)))
      | (go_at_call 46; refine (HFT.out w4 hB24).mono ?_; rintro e w5 ⟨rfl, hb5⟩; have hB25 := hB24.trans (hb5.mono hB24.size)))
  have hB5 := hB2.same (w' := w5) (fun i _ hi => hB25.block i (by have := hB2.lt; omega))
  have hb15 := hb12.trans (hB25.mono hb12.size)
  clear hB2 hb12 hb3 hB24 hB25
  go_wp2_with fail
  go_loopw [11] (fun v wr => FWRel w bb n v wr) (fun v _ => n - (intOf v).toNat)
  case atStart => exact ⟨0, Bu.newF n, rfl, Nat.zero_le _, I0.out, hB5, hb15⟩
  case round =>
    clear hB5 hb15
    obtain ⟨i, F, rfl, hi, I, hB, hb⟩ := hrel
    by_cases e : i < n
    · have ci : (i : Int) < (n : Int) := by omega
      obtain ⟨kk, hp⟩ := Bu.low_pick I (o := 0) (by simp; omega) (by decide)
      have I' := I.take_pick hp
      rw [← Bu.lowT_succ] at I'
      have HT := Lib.hid (take_pick hB I 0 hp)
      have HI' := Lib.hid I'
      have x1 : ((i * 2 ^ 0 : Nat) : Int) = (i : Int) := by simp
      clear hp I I' x1
      go_wp2_with fail
      refine HT.out.mono ?_
      rintro e w6 ⟨rfl, hB6, hk6⟩
      rw [← Bu.lowT_succ] at hB6
      have hb6 := hb.trans (hk6.below (B := w.heap.size) (by rw [HBB.out]; exact Nat.le_refl _) hb.size)
      go_wp2_with fail
      go_roundw
      case rel => exact ⟨i + 1, _, by go_num, by omega, HI'.out, hB6, hb6⟩
      case measure => simp [intOf]; omega
    · have ci : ¬ (i : Int) < (n : Int) := by omega
      obtain rfl : i = n := by omega
      have II := Lib.hid I
      clear I
      go_wp2_with fail
      go_loopw [14] (fun v wr => FWRel2 w bb i m v wr) (fun v _ => i - (intOf v).toNat)
      case atStart => exact ⟨0, _, F, rfl, Nat.zero_le _, alt_zero i, II.out, hB, hb⟩
      case round =>
        clear hB hb II
        obtain ⟨j, T, F, hv, hj, A, I, hB, hb⟩ := hrel
        have hin : i = 2 * m := HMN.out
        have hin2 : i ≤ 1024 := hnl
        obtain ⟨J, hJ⟩ : ∃ J, 2 * j = J := ⟨_, rfl⟩
        rw [hJ] at hv
        subst hv
        by_cases e : J < i
        · have ci : (J : Int) < (i : Int) := by omega
          have hmem := alt_mem A (by omega)
          have A' := alt_succ A I (by omega)
          have I' := I.give hmem
          rw [hJ] at hmem A' I'
          have HG := Lib.hid (give_inv hB I J 0 hmem)
          have HA' := Lib.hid A'
          have HI' := Lib.hid I'
          have HJ := Lib.hid hJ
          clear A I A' I' hmem hJ hin
          go_wp2_with fail
          refine HG.out.mono ?_
          rintro e w6 ⟨rfl, hB6, hk6⟩
          have hb6 := hb.trans (hk6.below (B := w.heap.size) (by rw [HBB.out]; exact Nat.le_refl _) hb.size)
          go_wp2_with fail
          go_roundw
          case rel => exact ⟨j + 1, _, _, by rw [Nat.mul_add, HJ.out]; go_num, by have := HMN.out; have := HJ.out; omega, HA'.out, HI'.out, hB6, hb6⟩
          case measure => simp [intOf]; omega
        · have ci : ¬ (J : Int) < (i : Int) := by omega
          obtain rfl : j = m := by omega
          rw [hin] at A I
          obtain ⟨hF1, hF0⟩ := alt_end I A
          rw [← hin] at I
          have hs1 := alt_sum hF1 o (by omega) (by omega)
          have hs11 := alt_sum hF1 11 (by omega) (by omega)
          have hft := alt_fit hF1 (o := o) (by omega) (by omega)
          have hbs := alt_best hF1 (by omega)
          rw [hF0] at hs1 hs11
          have hdv : 1000 * j / j = 1000 := Nat.mul_div_cancel _ (by omega)
          have hjl : j ≤ 1024 := by omega
          have hsame : ∀ w', Below wr.heap.size wr w' → Bud w' bb i F T := fun w' h => hB.same (fun i _ hi => h.block i (by have := hB.lt; omega))
          have hX1 := index_any (runsLike_bud hB I) (freeLike_bud hB I) (by rw [hs11]; omega) (by rw [hs11]; omega) (cntF_le I) o (by omega) (fitF_le0 I (by omega))
          rw [fitF_zero (by omega), hs1, hs11, hdv] at hX1
          have hX2 := fun w' (h : Below wr.heap.size wr w') => index_any (runsLike_bud (hsame w' h) I) (freeLike_bud (hsame w' h) I) (by rw [hs11]; omega) (by rw [hs11]; omega) (cntF_le I) 0 (by omega) (fitF_le0 I (by omega))
          have hz0 : 1000 * fitF (cntF F) 0 0 / Bu.sumF F 11 = 0 := by simp [fitF]
          simp only [hz0] at hX2
          have hLG2 := fun w' (h : Below wr.heap.size wr w') => largest_any (runsLike_bud (hsame w' h) I) (cntF_le I)
          rw [hbs] at hLG2
          have hF2 := fun w' (h : Below wr.heap.size wr w') => fits_any (runsLike_bud (hsame w' h) I) (cntF_le I) 0 (by decide) (fitF_le I (by omega))
          simp only [Nat.sub_zero, fitF_zero (Nat.le_refl 11), hs11] at hF2
          have hF3 := fun w' (h : Below wr.heap.size wr w') => fits_any (runsLike_bud (hsame w' h) I) (cntF_le I) o (by omega) (fitF_le I (by omega))
          rw [hft] at hF3
          have X1 := Lib.hid hX1
          have X2 := Lib.hid hX2
          have X3 := Lib.hid hLG2
          have X4 := Lib.hid hF2
          have X5 := Lib.hid hF3
          have ho0 : ¬ (o : Int) = 0 := by omega
          clear hX1 hX2 hLG2 hF2 hF3 hs1 hs11 hft hbs hF1 hF0 hsame A I hdv hz0 hin hJ
          go_wp2_with fail
          refine X1.out.mono ?_
          rintro e w6 ⟨rfl, hb6⟩
          have Y2 := Lib.hid (X2.out w6 hb6)
          go_wp2_with fail
          refine Y2.out.mono ?_
          rintro e w7 ⟨rfl, hb7⟩
          have hb67 := hb6.trans (hb7.mono hb6.size)
          go_wp2_with fail
          go_region_held3 (fun _ => True) (trivial)
            (first
              | (go_at_call 45; refine (X3.out (w7.drewN 1) (hb67.trans (drewN_below _ 1 _))).mono ?_; rintro e w8 ⟨rfl, hb8⟩; have hB8 := (hb67.trans (drewN_below w7 1 _)).trans (hb8.mono (by simpa using hb67.size)))
              | (go_at_call 46; refine (X5.out w9 hB9).mono ?_; rintro e w10 ⟨rfl, hb10⟩; have hB10 := hB9.trans (hb10.mono hB9.size))
              | (go_at_call 46; refine (X4.out w8 hB8).mono ?_; rintro e w9 ⟨rfl, hb9⟩; have hB9 := hB8.trans (hb9.mono hB8.size)))
          go_wp2_with fail
          go_ret
          exact ⟨rfl, hb.trans (hB10.mono hb.size)⟩

end Go.Proofs.Ytikahcbkeempdaa
