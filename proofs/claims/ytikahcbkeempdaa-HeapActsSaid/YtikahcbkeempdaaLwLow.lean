/- halves; the law BuddyLow: the walk. -/
import Derived.Test.YtikahcbkeempdaaBuddy
namespace Go.Proofs.Ytikahcbkeempdaa
open Go.RowKit Go.Maps

theorem u64mod' (a m : Int) (hm : 0 < m) : ∃ q : Nat, (IntKind.u64.wrap a).tmod m = (q : Int) ∧ (q : Int) < m := by
  have h : 0 ≤ IntKind.u64.wrap a := by
    have : IntKind.u64.wrap a = a % 18446744073709551616 := by simp [IntKind.wrap, IntKind.bits, IntKind.signed]
    rw [this]; omega
  have h1 := Int.emod_lt_of_pos (IntKind.u64.wrap a) hm
  have h2 := Int.emod_nonneg (IntKind.u64.wrap a) (show m ≠ 0 by omega)
  refine ⟨((IntKind.u64.wrap a).tmod m).toNat, ?_, ?_⟩ <;> rw [Int.tmod_eq_emod_of_nonneg h] <;> omega

set_option maxRecDepth 100000 in
set_option maxHeartbeats 1000000 in
theorem halves8_any (w : World) : Calls Try.prog 29 #[] w fun e w' => e = .returned (.bool true) ∧ Below w.heap.size w w' := by
  have I0 := Bu.inv_new (n := 8) (N := 3) (by decide) rfl
  have I1 := I0.take_pick (o := 0) (k := 3) (a := 0) rfl
  go_enter Try.func29, Try.ntmps29
  go_wp2_with fail
  refine (new_ok 8 3 (by omega) rfl _).mono ?_
  rintro e w1 ⟨rfl, hB1, hb1⟩
  go_wp2_with fail
  refine (take_pick hB1 I0 0 (k := 3) (a := 0) rfl).mono ?_
  rintro e w2 ⟨rfl, hB2, hk2⟩
  have hb2 := hb1.trans (hk2.below (Nat.le_refl _) (hb1.size))
  go_wp2_with fail
  refine (runs_any hB2 0 (by omega) (by decide)).mono ?_
  rintro e w3 ⟨v3, rfl, hrow3, hb3⟩
  have hB3 := hB2.same (w' := w3) (fun i _ h => hb3.block i (by have := hB2.lt; omega))
  obtain ⟨g3, c3, rfl, hg3, hg3', hc3⟩ := own_head hrow3 (by decide)
  have hx3 := hc3 0 (by decide)
  go_wp2_with fail
  refine (runs_any hB3 2 (by omega) (by decide)).mono ?_
  rintro e w4 ⟨v4, rfl, hrow4, hb4⟩
  have hB4 := hB3.same (w' := w4) (fun i _ h => hb4.block i (by have := hB3.lt; omega))
  obtain ⟨g4, c4, rfl, hg4, hg4', hc4⟩ := own_head hrow4 (by decide)
  have hx4 := hc4 0 (by decide)
  have hx3' : w4.cell? ⟨g3, 0, none⟩ = some (.int .i64 1) := (hb4.cell (p := ⟨g3, 0, none⟩) hg3').trans hx3
  have hx4' : w4.cell? ⟨g4, 0, none⟩ = some (.int .i64 4) := hx4
  have hb5 := (hb2.trans (hb3.mono hb2.size)).trans (hb4.mono (hb2.trans (hb3.mono hb2.size)).size)
  clear hc3 hc4 hx3 hx4 hrow3 hrow4
  go_wp2_with fail
  refine (free_inv hB4 I1).mono ?_
  rintro e w5 ⟨rfl, rfl⟩
  go_wp2_with fail
  go_ret
  exact ⟨rfl, hb5⟩

def BLRel (w : World) (b n k o : Nat) (v : Value) (wr : World) : Prop :=
  ∃ (i : Nat) (F : Nat → List Nat), v = .int .i64 (i : Int) ∧ i ≤ 2 ^ (k - o) ∧ Bu.Inv n (Bu.lowT i o) F ∧ Bud wr b n F (Bu.lowT i o) ∧ Below w.heap.size w wr

theorem shl1 {k : Nat} (hk : k ≤ 10) : IntKind.i64.wrap ((2 : Int) ^ k) = ((2 ^ k : Nat) : Int) := by
  have := powI hk
  rw [castPow] at this ⊢
  exact IntWalk.i64_in _ (by omega)

set_option maxRecDepth 100000 in
set_option maxHeartbeats 2000000 in
theorem buddyLow_walk (a0 a1 : Int) (w : World) :
    Calls Try.prog 5 #[.int .i64 a0, .int .i64 a1] w fun e w' => e = .returned (.bool true) ∧ Below w.heap.size w w' := by
  obtain ⟨k, hk, hk1⟩ := u64mod' a0 9 (by decide)
  have hm : IntKind.u64.wrap ((k : Int) + 1) = (k : Int) + 1 := by simp [IntKind.wrap, IntKind.bits, IntKind.signed]; omega
  obtain ⟨o, ho, ho1⟩ := u64mod' a1 ((k : Int) + 1) (by omega)
  have hne : ((k : Int) + 1 == 0) = false := by rw [beq_eq_false_iff_ne]; omega
  have hp1 := shl1 (k := k) (by omega)
  obtain ⟨n, hn⟩ : ∃ n, 2 ^ k = n := ⟨_, rfl⟩
  have hcp : (2 : Int) ^ k = (n : Int) := by rw [castPow, hn]
  have hnl : n ≤ 1024 := by rw [← hn]; exact pow1024 (by omega)
  obtain ⟨m, hmm⟩ : ∃ m, 2 ^ (k - o) = m := ⟨_, rfl⟩
  have hcq : (2 : Int) ^ (k - o) = (m : Int) := by rw [castPow, hmm]
  have hml : m ≤ 1024 := by rw [← hmm]; exact pow1024 (by omega)
  have hnm : m * 2 ^ o = n := by rw [← hn, ← hmm, ← Nat.pow_add]; congr 1; omega
  have HN := Lib.hid hn
  have HM := Lib.hid hmm
  have HNM := Lib.hid hnm
  clear hn hp1 hmm hnm
  go_enter Try.func5, Try.ntmps5
  go_wp2_with fail
  refine (new_ok n k (by omega) HN.out.symm _).mono ?_
  rintro e w1 ⟨rfl, hB1, hb1⟩
  go_wp2_with fail
  refine (halves8_any _).mono ?_
  rintro e w2 ⟨rfl, hb2⟩
  have hB2 := hB1.same (w' := w2) (fun i _ h => hb2.block i (by have := hB1.lt; omega))
  have hb12 := hb1.trans (hb2.mono hb1.size)
  clear hB1 hb1 hb2 hk ho hm hne
  go_wp2_with fail
  go_loopw [9] (fun v wr => BLRel w w.heap.size n k o v wr) (fun v _ => m - (intOf v).toNat)
  case atStart => exact ⟨0, Bu.newF n, rfl, Nat.zero_le _, Bu.inv_new (N := k) (by omega) HN.out.symm, hB2, hb12⟩
  case round =>
    obtain ⟨i, F, rfl, hi, I, hB, hb⟩ := hrel
    rw [HM.out] at hi
    clear hB2 hb12
    have II := Lib.hid I
    by_cases e : i < m
    · have hci : (i : Int) < (m : Int) := by omega
      have hle : (i + 1) * 2 ^ o ≤ n := by rw [← HNM.out]; exact Nat.mul_le_mul_right _ e
      obtain ⟨kk, hpick⟩ := Bu.low_pick I hle (by omega)
      have hI' := I.take_pick hpick
      have htk := take_pick hB I o hpick
      obtain ⟨x, hx⟩ : ∃ x, i * 2 ^ o = x := ⟨_, rfl⟩
      obtain ⟨z, hz⟩ : ∃ z, (i + 1) * 2 ^ o = z := ⟨_, rfl⟩
      have hzx : z = x + 2 ^ o := by rw [← hz, ← hx, Nat.add_mul]; omega
      rw [hz] at hle
      have hp := Bu.pos2 o
      have hT : Bu.lowT (i + 1) o = Bu.lowT i o ++ [(x, o)] := by rw [Bu.lowT_succ, hx]
      rw [hx, ← hT] at hI'
      rw [hx] at htk
      have hsum := hI'.sum
      rw [Bu.lowT_sum, hz] at hsum
      generalize hF' : Bu.takeF F kk o x = F' at *
      obtain ⟨y, hy⟩ : ∃ y, Bu.sumF F' 11 = y := ⟨_, rfl⟩
      rw [hy] at hsum
      have f1 : IntKind.i64.wrap ((i : Int) * 2 ^ o) = (x : Int) := by rw [castPow, ← Int.natCast_mul, hx]; exact IntWalk.i64_in _ (by omega)
      have f2 : IntKind.i64.wrap (n : Int) = (n : Int) := IntWalk.i64_in _ (by omega)
      have f3 : IntKind.i64.wrap ((i : Int) + 1) = (i : Int) + 1 := IntWalk.i64_in _ (by omega)
      have f4 : IntKind.i64.wrap (((i : Int) + 1) * 2 ^ o) = (z : Int) := by
        rw [castPow, show (i : Int) + 1 = ((i + 1 : Nat) : Int) by omega, ← Int.natCast_mul, hz]; exact IntWalk.i64_in _ (by omega)
      have f5 : IntKind.i64.wrap ((n : Int) - z) = (y : Int) := by rw [IntWalk.i64_in _ (by omega)]; omega
      have HT := Lib.hid hT
      have HTK := Lib.hid htk
      have HI := Lib.hid hI'
      have HY := Lib.hid hy
      clear hx hz hT hI' htk hsum hF' hy hpick I hzx hB
      go_wp2_with fail
      refine HTK.out.mono ?_
      rintro e w3 ⟨rfl, hB3, hk3⟩
      have hb3 := hb.trans (hk3.below (Nat.le_refl _) hb.size)
      rw [← HT.out] at hB3
      have hfr := fun m => free_inv (hB3.drewN m) HI.out
      rw [HY.out] at hfr
      have HFR := Lib.hid hfr
      clear hfr hk3 hb HTK
      go_wp2_with fail
      go_quiet ((go_at_call 31; exact quiet_left (HFR.out _)))
      clear f1 f2 f3 f4 f5
      go_wp2_with fail
      go_roundw
      case rel => exact ⟨i + 1, F', by go_num, by rw [HM.out]; omega, HI.out, hB3.drewN _, hb3.trans (drewN_below _ _ _)⟩
      case measure => simp [intOf]; omega
    · have hci : ¬ (i : Int) < (m : Int) := by omega
      obtain rfl : i = m := by omega
      have hnone := Bu.full_none I (fun x hx => by rw [Bu.lowT_used, HNM.out]; simpa using hx)
      have hp := Bu.pick_nil (o := 0) (fun j _ h => hnone j h)
      have H1 := Lib.hid (take_nomem hB 0 (by omega) hp)
      have H2 := Lib.hid (has_pick hB 0 (by omega))
      have HP := Lib.hid hp
      clear hnone hp I
      go_wp2_with fail
      refine H1.out.mono ?_
      rintro e w3 ⟨rfl, rfl⟩
      go_wp2_with fail
      refine H2.out.mono ?_
      rintro e w3 ⟨rfl, rfl⟩
      rw [HP.out]
      go_wp2_with fail
      go_ret
      exact ⟨rfl, hb⟩

end Go.Proofs.Ytikahcbkeempdaa
