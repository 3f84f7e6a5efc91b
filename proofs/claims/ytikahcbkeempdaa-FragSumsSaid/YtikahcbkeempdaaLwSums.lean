/- The law FragSums: the walk. -/
import Derived.Test.YtikahcbkeempdaaFrag4
import Derived.Test.YtikahcbkeempdaaRows2
namespace Go.Proofs.Ytikahcbkeempdaa
open Go.RowKit Go.Maps

def FSRel (w : World) (M : Nat) (v : Value) (wr : World) : Prop := ∃ m : Nat, v = .int .i64 (m : Int) ∧ m ≤ M + 1 ∧ Below w.heap.size w wr

set_option maxRecDepth 100000 in
set_option maxHeartbeats 4000000 in
theorem fragSums_walk (a0 : Int) (a : Option Addr) (len cap : Nat) (z : Nat → Nat → Int) (w : World) (hz : RowsAtK w a len [false, true, true] z) (hmax : len ≤ 9223372036854775807) (hcap : len ≤ cap ∧ cap ≤ 9223372036854775807 ∧ (a = none → cap = 0)) :
    Calls Try.prog 12 #[.int .i64 a0, .slice a len cap] w fun e w' => e = .returned (.bool true) ∧ Below w.heap.size w w' := by
  obtain ⟨N, hN, hN1⟩ := u64mod' a0 9 (by decide)
  obtain ⟨n, hn⟩ : ∃ n, 2 ^ N = n := ⟨_, rfl⟩
  have hcp : (2 : Int) ^ N = (n : Int) := by rw [castPow, hn]
  have hnl : n ≤ 1024 := by rw [← hn]; exact pow1024 (by omega)
  have hwn : IntKind.i64.wrap (n : Int) = (n : Int) := IntWalk.i64_in _ (by omega)
  obtain ⟨hlc, hcm, hcn⟩ := hcap
  obtain ⟨M, hM⟩ : ∃ M, min len 12 = M := ⟨_, rfl⟩
  have hMl : M ≤ len ∧ M ≤ 12 := by omega
  have hM1 : min (len : Int) 12 = (M : Int) := by omega
  have HZ := Lib.hid hz
  have HN := Lib.hid hn
  have HCN := Lib.hid hcn
  clear hn hz hcn
  go_enter Try.func12, Try.ntmps12
  go_wp2_with fail
  refine (frags_any _).mono ?_
  rintro e w1 ⟨rfl, hb1⟩
  go_wp2_with fail
  go_loopw [6] (fun v wr => FSRel w M v wr) (fun v _ => M + 1 - (intOf v).toNat)
  case atStart => exact ⟨0, rfl, by omega, hb1⟩
  case round =>
    clear hb1 hcp hwn hN
    obtain ⟨m, rfl, hm, hb⟩ := hrel
    by_cases e : m ≤ M
    · have m0 : (0 : Int) ≤ (m : Int) := by omega
      have m1 : (m : Int) ≤ (cap : Int) := by omega
      have m2 : m ≤ cap := by omega
      have m3 : m ≤ len := by omega
      have HBO := Lib.hid (fun c => both_any n N (by omega) HN.out.symm a m c z wr ((HZ.out.short m3).below hb) (by omega))
      have hca : (a = none ∧ cap = 0 ∧ m = 0) ∨ ∃ ad, a = some ad := by
        cases a with
        | none => exact .inl ⟨rfl, HCN.out rfl, by have := HCN.out rfl; omega⟩
        | some ad => exact .inr ⟨ad, rfl⟩
      rcases hca with ⟨rfl, rfl, rfl⟩ | ⟨ad, rfl⟩
      all_goals
        go_wp2_with fail
        refine (HBO.out _).mono ?_
        rintro e w2 ⟨bb, p, u, tv, F, T, rfl, hT, hb2⟩
        have hb12 := hb.trans (hb2.mono hb.size)
        have hRL := runsLike_bud hT.bud hT.inv
        have HO := Lib.hid (orders_any hRL (cntF_le hT.inv))
        have HC := Lib.hid (cntF_le hT.inv)
        have HT := Lib.hid hT
        clear hT hb2 hRL
        go_wp2_with fail
        refine HO.out.mono ?_
        rintro e w3 ⟨rfl, hb3⟩
        have hb13 := hb12.trans (hb3.mono hb12.size)
        have hT3 := Lib.hid (HT.out.below hb3)
        go_wp2_with (first
          | (refine wpList_store_mid rfl 70 _ _ rfl w3.heap.size 0 (ordL (cntF F)).toArray rfl rfl (ord_there w3 (cntF F)) (info_ordL (cntF F)) (all_oneCell_toArray (ordL_one (cntF F))) ?_; refine Hid.out ?_))
        refine Lib.hid ?_
        have hrg := ord_laid w3 (cntF F)
        have hbl := ord_below w3 (cntF F)
        unfold ordZ at hrg hbl
        generalize hg : w3.heap.size = g at *
        generalize hw4 : (w3.alloc _).setCells g 0 (ordL (cntF F)) = w4 at *
        clear hw4
        have hb14 : Below w.heap.size w w4 := hb13.trans (hbl.mono (by rw [← hg]; exact hb13.size))
        have hT4 := Lib.hid (hT3.out.below (by rw [hg]; exact hbl))
        have HR := Lib.hid hrg
        clear hrg hbl hb3 hg hb12 hb13
        go_wp2_with fail
        go_loop [11, 9] (fun vi vs => ∃ k : Nat, vi = .int .i64 (k : Int) ∧ k ≤ 11 ∧ vs = .int .i64 (fitF (cntF F) 0 k : Int)) (fun vi _ => 12 - (intOf vi).toNat)
        case atStart => exact ⟨0, rfl, Nat.zero_le _, rfl⟩
        case round =>
          obtain ⟨k, rfl, hk, rfl⟩ := hrel
          by_cases e : k < 11
          · have ci : (k : Int) ≤ 10 := by omega
            have k0 : (0 : Int) ≤ (k : Int) := by omega
            have hc : w4.cell? ⟨g, k, none⟩ = some (.int .i64 (cntF F k : Int)) := ord_cells HR.out e
            have h1 := fitF_mono (cntF F) 0 (show k + 1 ≤ 11 by omega)
            have hs := fitF_le0 HT.out.inv (o := 11) (by omega)
            have h2 : fitF (cntF F) 0 (k + 1) = fitF (cntF F) 0 k + cntF F k * 2 ^ k := by simp [fitF]
            have hm : ((cntF F k * 2 ^ k : Nat) : Int) = (cntF F k : Int) * 2 ^ k := by rw [Int.natCast_mul, Int.natCast_pow]; rfl
            have ew : IntKind.i64.wrap ((cntF F k : Int) * 2 ^ k) = (cntF F k : Int) * 2 ^ k := IntWalk.i64_in _ (by omega)
            have ew2 : IntKind.i64.wrap ((fitF (cntF F) 0 k : Int) + (cntF F k : Int) * 2 ^ k) = (fitF (cntF F) 0 (k + 1) : Int) := by
              rw [h2, Int.natCast_add, hm]; exact IntWalk.i64_in _ (by omega)
            clear h1 h2 hm hs
            go_wp2_with fail
            go_round
            case rel => exact ⟨k + 1, by go_num, by omega, rfl⟩
            case measure => simp [intOf]; omega
          · have ci : ¬ (k : Int) ≤ 10 := by omega
            obtain rfl : k = 11 := by omega
            have hfr := hT4.out.free
            have hft := fits_any (runsLike_bud hT4.out.bud hT4.out.inv) (cntF_le hT4.out.inv) 0 (by decide) (fitF_le0 hT4.out.inv (o := 11) (by omega))
            rw [← fitF_zero (show 11 ≤ 11 by omega)] at hfr
            have HFR := Lib.hid hfr
            have HFT := Lib.hid hft
            clear hfr hft
            go_wp2_with fail
            refine HFR.out.mono ?_
            rintro e w5 ⟨rfl, rfl⟩
            go_wp2_with fail
            refine HFT.out.mono ?_
            rintro e w6 ⟨rfl, hb6⟩
            go_wp2_with fail
            go_roundw
            case rel => first | exact ⟨1, rfl, by omega, hb14.trans (hb6.mono hb14.size)⟩ | exact ⟨m + 1, by go_num, by omega, hb14.trans (hb6.mono hb14.size)⟩
            case measure => first | (simp [intOf]; done) | (simp [intOf]; omega)
    · have ci : ¬ m ≤ M := e
      go_wp2_with fail
      go_ret
      exact ⟨rfl, hb⟩

end Go.Proofs.Ytikahcbkeempdaa
