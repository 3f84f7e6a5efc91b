/- The law RingFull: the walk. -/
import Derived.Test.YtikahcbkeempdaaRing1
namespace Go.Proofs.Ytikahcbkeempdaa
open Go.RowKit Go.Conc

theorem drewN_below (w : World) (n B : Nat) : Below B w (w.drewN n) := ⟨rfl, rfl, rfl, Nat.le_refl _, fun _ _ => rfl⟩
theorem RingAt.drewN {T : TypeId} {w : World} {p c cap : Nat} {l : List Value} (h : RingAt T w p c cap l) (n : Nat) : RingAt T (w.drewN n) p c cap l := h

set_option maxRecDepth 100000 in
set_option maxHeartbeats 1000000 in
theorem rings_any (w : World) : Calls Try.prog 17 #[] w fun e w' => e = .returned (.bool true) ∧ Below w.heap.size w w' := by
  go_enter Try.func17, Try.ntmps17
  go_wp2_with fail
  refine (newRS_ok 1 _ (by omega) (by omega)).mono ?_
  rintro e w1 ⟨rfl, hr1, hb1, hs1⟩
  clear hs1
  go_wp2_with fail
  refine (putS_ok hr1 (by simp) _).mono ?_
  rintro e w2 ⟨rfl, hr2, hk2⟩
  go_wp2_with fail
  refine (putS_full hr2 (by simp) _).mono ?_
  rintro e w3 ⟨rfl, rfl⟩
  go_wp2_with fail
  refine (takeS_ok hr2).mono ?_
  rintro e w3 ⟨rfl, hr3, hk3⟩
  go_wp2_with fail
  refine (takeS_none hr3).mono ?_
  rintro e w4 ⟨rfl, rfl⟩
  go_wp2_with fail
  refine (roomS_any hr3 (by omega) (by simp)).mono ?_
  rintro e w4 ⟨rfl, n, rfl⟩
  go_wp2_with fail
  go_ret
  exact ⟨rfl, hb1.trans (((hk2.trans hk3).below (Nat.le_refl _) hb1.size).trans (drewN_below _ _ _))⟩

theorem u64mod (a m : Int) (hm : 0 < m) : ∃ q : Nat, (IntKind.u64.wrap a).tmod m = (q : Int) ∧ (q : Int) < m := by
  have h : 0 ≤ IntKind.u64.wrap a := by
    have : IntKind.u64.wrap a = a % 18446744073709551616 := by simp [IntKind.wrap, IntKind.bits, IntKind.signed]
    rw [this]; omega
  refine ⟨((IntKind.u64.wrap a).tmod m).toNat, ?_, ?_⟩
  · rw [Int.tmod_eq_emod_of_nonneg h]
    have := Int.emod_nonneg (IntKind.u64.wrap a) (show m ≠ 0 by omega)
    omega
  · rw [Int.tmod_eq_emod_of_nonneg h]
    have h1 := Int.emod_lt_of_pos (IntKind.u64.wrap a) hm
    have h2 := Int.emod_nonneg (IntKind.u64.wrap a) (show m ≠ 0 by omega)
    omega

def filled (k i : Nat) : List Int := (List.range i).map fun j => (100 * (k : Int) + (j : Nat))

theorem filled_succ (k i : Nat) : (filled k i).map (Value.int .i64) ++ [.int .i64 (100 * (k : Int) + i)] = (filled k (i + 1)).map (Value.int .i64) := by
  simp [filled, List.range_succ]
theorem filled_len (k i : Nat) : (filled k i).length = i := by simp [filled]
theorem filled_get (k : Nat) {n i : Nat} (h : i < n) : ((filled k n).map (Value.int .i64)).getD i undef = .int .i64 (100 * (k : Int) + i) := by
  simp [filled, h]

def RFOut (w : World) (n K : Nat) (v : Value) (wr : World) : Prop := ∃ k : Nat, v = .int .i64 (k : Int) ∧ k ≤ K ∧ RingAt 103 wr (w.heap.size + 1) w.heap.size n [] ∧ Below w.heap.size w wr
def RFIn (w : World) (n k : Nat) (v : Value) (wr : World) : Prop := ∃ i : Nat, v = .int .i64 (i : Int) ∧ i ≤ n ∧ RingAt 103 wr (w.heap.size + 1) w.heap.size n ((filled k i).map (Value.int .i64)) ∧ Below w.heap.size w wr

set_option maxRecDepth 100000 in
set_option maxHeartbeats 2000000 in
theorem ringFull_walk (a0 a1 : Int) (w : World) :
    Calls Try.prog 4 #[.int .i64 a0, .int .i64 a1] w fun e w' => e = .returned (.bool true) ∧ Below w.heap.size w w' := by
  obtain ⟨q, hq, hq1⟩ := u64mod a0 64 (by decide)
  obtain ⟨K, hK, hK1⟩ := u64mod a1 5 (by decide)
  obtain ⟨n, hn⟩ : ∃ n : Nat, 1 + (q : Int) = n := ⟨1 + q, by omega⟩
  have hn1 : 1 ≤ n := by omega
  have hn2 : n ≤ 64 := by omega
  go_enter Try.func4, Try.ntmps4
  go_wp2_with fail
  refine (newRI_ok n _ hn1 hn2).mono ?_
  rintro e w1 ⟨rfl, hr1, hb1, hs1⟩
  go_wp2_with fail
  refine (rings_any _).mono ?_
  rintro e w2 ⟨rfl, hb2⟩
  have hr2 := hr1.kept (Kept.of_below hb2 0 0) (by omega) (by omega)
  have hb12 := hb1.trans (hb2.mono hb1.size)
  clear hs1 hr1 hb1 hb2 hq hn
  go_wp2_with fail
  go_loopw [8] (fun v wr => RFOut w n K v wr) (fun v _ => K - (intOf v).toNat)
  case atStart => exact ⟨0, rfl, by omega, hr2, hb12⟩
  case round =>
    obtain ⟨k, rfl, hk, hr, hb⟩ := hrel
    clear hr2 hb12
    by_cases e : k < K
    · have hcond : (k : Int) < (K : Int) := by omega
      go_wp2_with fail
      refine (putI_ok hr (by show 0 < n; omega) _).mono ?_
      rintro e w3 ⟨rfl, hr3, hk3⟩
      go_wp2_with fail
      refine (takeI_ok hr3).mono ?_
      rintro e w4 ⟨rfl, hr4, hk4⟩
      have hb4 := hb.trans ((hk3.trans hk4).below (Nat.le_refl _) (hb.size))
      clear hr hr3 hk3 hk4 hb
      go_wp2_with fail
      go_loopw [9] (fun v wr => RFIn w n k v wr) (fun v _ => n - (intOf v).toNat)
      case atStart => exact ⟨0, rfl, by omega, hr4, hb4⟩
      case round =>
        obtain ⟨i, rfl, hi, hr, hb⟩ := hrel
        clear hr4 hb4
        have hfl := filled_len k i
        by_cases ei : i < n
        · have hci : (i : Int) < (n : Int) := by omega
          have HF := Lib.hid hfl
          clear hfl
          have hroom := roomI_any hr hn2 (by rw [List.length_map, HF.out]; omega)
          rw [List.length_map, HF.out] at hroom
          have HR := Lib.hid hroom
          clear hroom
          go_wp2_with fail
          refine HR.out.mono ?_
          rintro e w5 ⟨rfl, m, rfl⟩
          go_wp2_with fail
          refine (putI_ok (hr.drewN m) (by rw [List.length_map, HF.out]; omega) _).mono ?_
          rintro e w6 ⟨rfl, hr6, hk6⟩
          have hb6 := (hb.trans (drewN_below _ m _)).trans (hk6.below (Nat.le_refl _) hb.size)
          clear hr hb hk6 HR
          go_wp2_with fail
          go_roundw
          case rel => exact ⟨i + 1, by go_num, by omega, by rw [← filled_succ]; exact hr6, hb6⟩
          case measure => simp [intOf]; omega
        · obtain rfl : i = n := by omega
          have HF := Lib.hid hfl
          clear hfl
          go_wp2_with fail
          refine (putI_full hr (by rw [List.length_map, HF.out]; omega) _).mono ?_
          rintro e w5 ⟨rfl, rfl⟩
          have hroom := roomI_any hr hn2 (by rw [List.length_map, HF.out]; omega)
          rw [List.length_map, HF.out, show (i : Int) - i = 0 by omega] at hroom
          have HR := Lib.hid hroom
          clear hroom
          go_wp2_with fail
          refine HR.out.mono ?_
          rintro e w5 ⟨rfl, m, rfl⟩
          go_wp2_with fail
          refine (allI_any (hr.drewN m) (by rw [HF.out]; omega)).mono ?_
          rintro e w6 ⟨v, rfl, hrow, hr6, hk6⟩
          rw [HF.out] at hrow
          obtain ⟨g, cap, rfl, hg1, hg2, hcell⟩ := own_head hrow hn1
          have hb6 := (hb.trans (drewN_below _ m _)).trans (hk6.below (Nat.le_refl _) hb.size)
          have HC := Lib.hid hcell
          clear hr hb hk6 HR hrow hcell
          go_wp2_with fail
          go_loop [11] (fun v => ∃ j : Nat, v = .int .i64 (j : Int) ∧ j ≤ i) (fun v => i - (intOf v).toNat)
          case atStart => exact ⟨0, rfl, by omega⟩
          case round =>
            obtain ⟨j, rfl, hj⟩ := hrel
            by_cases ej : j < i
            · have hcj : (j : Int) < (i : Int) := by omega
              have hc := HC.out j ej
              rw [filled_get k ej] at hc
              go_wp2_with fail
              go_round
              case rel => exact ⟨j + 1, by go_num, by omega⟩
              case measure => simp [intOf]; omega
            · have hcj : ¬ (j : Int) < (i : Int) := by omega
              go_wp2_with fail
              go_roundw
              case rel => exact ⟨k + 1, by go_num, by omega, hr6, hb6⟩
              case measure => simp [intOf]; omega
    · have hcond : ¬ (k : Int) < (K : Int) := by omega
      go_wp2_with fail
      refine (lenI_any hr).mono ?_
      rintro e w3 ⟨rfl, rfl⟩
      go_wp2_with fail
      go_ret
      exact ⟨rfl, hb⟩

end Go.Proofs.Ytikahcbkeempdaa
