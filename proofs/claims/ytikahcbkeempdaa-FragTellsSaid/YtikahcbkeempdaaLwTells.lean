/- The law FragTells: the walk. -/
import Derived.Test.YtikahcbkeempdaaFrag4
import Derived.Test.YtikahcbkeempdaaRows2
import Derived.Deep.RegionHeld3
namespace Go.Proofs.Ytikahcbkeempdaa
open Go.RowKit Go.Maps

/-- Index is told alike by frag and by the reference. -/
theorem index_both {w : World} {B bb n p u : Nat} {tv F T} (h : Twin w B bb n p u tv F T) (o : Int) : ∃ (x : Int) (ok : Bool),
    (∀ w', Below w.heap.size w w' → Calls Try.prog 43 #[.pointer (some ⟨bb + 1, 0, none⟩), .int .i64 o] w' fun e w2 => e = .returned (.tuple #[.int .i64 x, .bool ok]) ∧ Below w'.heap.size w' w2) ∧
    (∀ w', Below w.heap.size w w' → Calls Try.prog 50 #[.pointer (some ⟨p, 0, none⟩), .int .i64 o] w' fun e w2 => e = .returned (.tuple #[.int .i64 x, .bool ok]) ∧ Below w'.heap.size w' w2) := by
  by_cases ho : o < 0 ∨ 10 < o
  · refine ⟨0, false, fun w' _ => (index_no _ o ho w').mono ?_, fun w' _ => (rindex_no _ o ho w').mono ?_⟩
    · rintro e w2 ⟨rfl, rfl⟩; exact ⟨rfl, Below.refl _ _⟩
    · rintro e w2 ⟨rfl, rfl⟩; exact ⟨rfl, Below.refl _ _⟩
  · obtain ⟨k, rfl⟩ : ∃ k : Nat, o = (k : Int) := ⟨o.toNat, by omega⟩
    have hk : k ≤ 10 := by omega
    by_cases hs : Bu.sumF F 11 = 0
    · refine ⟨0, false, fun w' hb => ?_, fun w' hb => ?_⟩
      · have hf := freeLike_bud (h.below hb).bud h.inv
        rw [hs] at hf
        refine (index_zero hf k hk).mono ?_
        rintro e w2 ⟨rfl, rfl⟩; exact ⟨rfl, Below.refl _ _⟩
      · have hf := rfreeLike (h.below hb)
        rw [hs] at hf
        refine (rindex_zero hf k hk).mono ?_
        rintro e w2 ⟨rfl, rfl⟩; exact ⟨rfl, Below.refl _ _⟩
    · exact ⟨_, true, fun w' hb => index_any (runsLike_bud (h.below hb).bud h.inv) (freeLike_bud (h.below hb).bud h.inv) (by omega) h.inv.sum_le (cntF_le h.inv) k hk (fitF_le0 h.inv (by omega)),
        fun w' hb => rindex_any (rrunsLike (h.below hb)) (rfreeLike (h.below hb)) (by omega) h.inv.sum_le (cntF_le h.inv) k hk (fitF_le0 h.inv (by omega))⟩

theorem ordL_lit (L : Nat → Nat) : (ordL L).toArray = #[.int .i64 (L 0 : Int), .int .i64 (L 1 : Int), .int .i64 (L 2 : Int), .int .i64 (L 3 : Int), .int .i64 (L 4 : Int), .int .i64 (L 5 : Int), .int .i64 (L 6 : Int), .int .i64 (L 7 : Int), .int .i64 (L 8 : Int), .int .i64 (L 9 : Int), .int .i64 (L 10 : Int)] := by
  simp [ordL, List.range, List.range.loop]

theorem infoI' : (Try.prog.info? 3).map (fun i => (i.zero, i.size, i.bytes)) = some (some (.int .i64 0), 1, 8) := by kernel_rfl

theorem ord_eq (d : Nat) (L : Nat → Nat) (w : World) : (Op.equalIn (d + 2) 70 (.agg (ordL L).toArray) (.agg (ordL L).toArray)).run Try.prog w = .ok true w := by
  obtain ⟨i0, hi, hz0, hz1, hz2⟩ := info_parts infoI'
  have h1 := fun x : Int => run_equalIn_int (P := Try.prog) w d 3 .i64 .i64 x x Try.underlying3
  simp only [beq_self_eq_true] at h1
  rw [ordL_lit, Op.equalIn]
  simp only [Sem.run_bind, run_underlying Try.underlying70, Result.andThen_ok, sizeOf, typeInfo, run_program, hi]
  simp [Std.Legacy.Range.forIn_eq_forIn_range', Std.Legacy.Range.size, List.range', part, hi, hz1, sizeOf, typeInfo, isAgg, run_underlying Try.underlying3, h1]
theorem ord_eq' (L : Nat → Nat) (w : World) : (Op.equalIn 10000 70 (.agg (ordL L).toArray) (.agg (ordL L).toArray)).run Try.prog w = .ok true w := ord_eq 9998 L w

set_option maxRecDepth 100000 in
set_option maxHeartbeats 4000000 in
theorem fragTells_walk (a0 : Int) (a : Option Addr) (len cap : Nat) (z : Nat → Nat → Int) (a2 : Int) (w : World) (hz : RowsAtK w a len [false, true, true] z) (hmax : len ≤ 9223372036854775807) :
    Calls Try.prog 9 #[.int .i64 a0, .slice a len cap, .int .i64 a2] w fun e w' => e = .returned (.bool true) ∧ Below w.heap.size w w' := by
  obtain ⟨N, hN, hN1⟩ := u64mod' a0 9 (by decide)
  obtain ⟨n, hn⟩ : ∃ n, 2 ^ N = n := ⟨_, rfl⟩
  have hcp : (2 : Int) ^ N = (n : Int) := by rw [castPow, hn]
  have hnl : n ≤ 1024 := by rw [← hn]; exact pow1024 (by omega)
  have hwn : IntKind.i64.wrap (n : Int) = (n : Int) := IntWalk.i64_in _ (by omega)
  have HZ := Lib.hid hz
  have HN := Lib.hid hn
  have e1 : bestTo (fun _ => 0) 11 = -1 := rfl
  have e2 : fitF (fun _ => 0) 0 (11 - 0) = 0 := rfl
  have z0 : ∀ k : Nat, (fun _ : Nat => (0 : Nat)) k ≤ 1024 := fun _ => by simp
  have E := Lib.hid (And.intro e1 (And.intro e2 z0))
  clear hn hz e1 e2 z0
  go_enter Try.func9, Try.ntmps9
  go_wp2_with fail
  refine (index_zero (freeLike_nil _) 0 (by decide)).mono ?_
  rintro e w1 ⟨rfl, rfl⟩
  go_wp2_with fail
  refine (frags_any _).mono ?_
  rintro e w1 ⟨rfl, hb1⟩
  have hL := largest_any (runsLike_nil w1) E.out.2.2
  rw [E.out.1] at hL
  have HL := Lib.hid hL
  clear hL
  go_wp2_with fail
  refine HL.out.mono ?_
  rintro e w2 ⟨rfl, hb2⟩
  have hb12 := hb1.trans (hb2.mono hb1.size)
  have hF := fits_any (runsLike_nil w2) E.out.2.2 0 (by decide) (by rw [E.out.2.1]; decide)
  rw [E.out.2.1] at hF
  have HF := Lib.hid hF
  clear hF hb1 hb2
  go_wp2_with fail
  refine HF.out.mono ?_
  rintro e w3 ⟨rfl, hb3⟩
  have hb13 := hb12.trans (hb3.mono hb12.size)
  go_wp2_with fail
  refine (orders_any (runsLike_nil w3) E.out.2.2).mono ?_
  rintro e w4 ⟨rfl, hb4⟩
  have hb14 := hb13.trans (hb4.mono hb13.size)
  clear hb12 hb3 hb13 hb4
  have hoe := fun w' => ord_eq' (fun _ => 0) w'
  rw [ordL_lit] at hoe ⊢
  simp only [Int.natCast_zero] at hoe ⊢
  go_wp2_with fail
  refine (both_any n N (by omega) HN.out.symm a len cap z w4 (HZ.out.below hb14) hmax).mono ?_
  rintro e w5 ⟨bb, p, u, tv, F, T, rfl, hT, hb5⟩
  have hb15 := hb14.trans (hb5.mono hb14.size)
  have HO := Lib.hid (rorders_any (rrunsLike hT) (cntF_le hT.inv))
  clear hoe hN hcp hwn hb14 hb5
  go_wp2_with fail
  refine HO.out.mono ?_
  rintro e w6 ⟨rfl, hb6⟩
  have hb16 := hb15.trans (hb6.mono hb15.size)
  have hT6 := hT.below hb6
  obtain ⟨L, hLd⟩ : ∃ L, cntF F = L := ⟨_, rfl⟩
  rw [hLd]
  go_wp2_with (first
    | (refine wpList_store_mid rfl 70 _ _ rfl w6.heap.size 0 (ordL L).toArray rfl rfl (ord_there w6 L) (info_ordL L) (all_oneCell_toArray (ordL_one L)) ?_; refine Hid.out ?_))
  refine Lib.hid ?_
  have hrg := ord_laid w6 L
  have hbl := ord_below w6 L
  unfold ordZ at hrg hbl
  generalize hg : w6.heap.size = g at *
  generalize hw7 : (w6.alloc _).setCells g 0 (ordL L) = w7 at *
  clear hw7
  have hb17 : Below w.heap.size w w7 := hb16.trans (hbl.mono (by rw [← hg]; exact hb16.size))
  have hT7 := hT6.below (by rw [hg]; exact hbl)
  have HR := Lib.hid hrg
  have HLD := Lib.hid hLd
  clear hrg hbl hb6 hg hb15 hb16 hT hT6 HO hLd
  go_wp2_with fail
  go_loop [13, 12] (fun vi vs => ∃ k : Nat, vi = .int .i64 (k : Int) ∧ k ≤ 11 ∧ vs = .int .i64 (bestTo L k)) (fun vi _ => 12 - (intOf vi).toNat)
  case atStart => exact ⟨0, rfl, Nat.zero_le _, rfl⟩
  case round =>
    obtain ⟨k, rfl, hk, rfl⟩ := hrel
    by_cases e : k < 11
    · have ci : (k : Int) ≤ 10 := by omega
      have k0 : (0 : Int) ≤ (k : Int) := by omega
      have hc : w7.cell? ⟨g, k, none⟩ = some (.int .i64 (L k : Int)) := ord_cells HR.out e
      by_cases e2 : 0 < L k
      · have c2 : (0 : Int) < (L k : Int) := by omega
        have hb' : bestTo L (k + 1) = (k : Int) := by simp [bestTo, e2]
        have HB := Lib.hid hb'
        clear hb'
        go_wp2_with fail
        go_round
        case rel => exact ⟨k + 1, by go_num, by omega, by rw [HB.out]⟩
        case measure => simp [intOf]; omega
      · have c2 : ¬ (0 : Int) < (L k : Int) := by omega
        have hb' : bestTo L (k + 1) = bestTo L k := by simp [bestTo, e2]
        have HB := Lib.hid hb'
        clear hb'
        go_wp2_with fail
        go_round
        case rel => exact ⟨k + 1, by go_num, by omega, by rw [HB.out]⟩
        case measure => simp [intOf]; omega
    · have ci : ¬ (k : Int) ≤ 10 := by omega
      obtain rfl : k = 11 := by omega
      obtain ⟨x, ok, hx1, hx2⟩ := index_both hT7 a2
      have HX1 := Lib.hid (hx1 w7 (Below.refl _ _))
      have HX2 := Lib.hid hx2
      clear hx1 hx2
      go_wp2_with fail
      refine HX1.out.mono ?_
      rintro e w8 ⟨rfl, hb8⟩
      have HX2' := Lib.hid (HX2.out w8 hb8)
      go_wp2_with fail
      refine HX2'.out.mono ?_
      rintro e w9 ⟨rfl, hb9⟩
      have hb79 := hb8.trans (hb9.mono hb8.size)
      have hT9 := Lib.hid (hT7.below hb79)
      have hb19 := hb17.trans (hb79.mono hb17.size)
      have hg7 : g < w7.heap.size := World.block_lt_of_cell? w7 _ (ord_cells HR.out (k := 0) (by decide))
      have hr9 : w9.rangeAt g 0 (ordL L) := fun j v hv => (hb79.cell (p := ⟨g, 0 + j, none⟩) hg7).trans (HR.out j v hv)
      have hg9 : g < w9.heap.size := Nat.lt_of_lt_of_le hg7 hb79.size
      have hu := Try.underlying70
      have hie : (Try.prog.info? 70).map (·.size) = some (ordL L).length := by
        have := info_ordL L
        simpa using this
      have hone := Lib.hid (ordL_one L)
      have hORD := fun m => orders_any (runsLike_bud (hT9.out.drewN m).bud hT9.out.inv) (cntF_le hT9.out.inv)
      have hLG := fun w' (h : Below w9.heap.size w9 w') => largest_any (runsLike_bud (hT9.out.below h).bud hT9.out.inv) (cntF_le hT9.out.inv)
      have hFR := fun w' (h : Below w9.heap.size w9 w') => free_inv (hT9.out.below h).bud hT9.out.inv
      have hRF := fun w' (h : Below w9.heap.size w9 w') => (hT9.out.below h).free
      rw [HLD.out] at hORD hLG
      obtain ⟨sf, hsf⟩ : ∃ sf, Bu.sumF F 11 = sf := ⟨_, rfl⟩
      rw [hsf] at hFR hRF
      obtain ⟨bst, hbst⟩ : ∃ bst, bestTo L 11 = bst := ⟨_, rfl⟩
      rw [hbst] at hLG ⊢
      have HORD := Lib.hid hORD
      have HLG := Lib.hid hLG
      have HFR := Lib.hid hFR
      have HRF := Lib.hid hRF
      have hoe := fun w' => ord_eq' L w'
      clear hORD hLG hFR hRF hsf hbst
      go_wp2_with fail
      go_region_held3 (fun w' => w'.rangeAt g 0 (ordL L)) (first | assumption | (simp only [World.rangeAt_drew]; assumption) | go_keep_ranges)
        (first
          | (go_at_call 47; refine (HORD.out 1).mono ?_; rintro e w10 ⟨rfl, hb10⟩; have hB10 := (drewN_below w9 1 _).trans hb10; have hr10 : w10.rangeAt g 0 (ordL L) := fun j v hv => (hB10.cell (p := ⟨g, 0 + j, none⟩) hg9).trans (hr9 j v hv))
          | (go_at_call 45; refine (HLG.out w10 hB10).mono ?_; rintro e w11 ⟨rfl, hb11⟩; have hB11 := hB10.trans (hb11.mono hB10.size); have hr11 : w11.rangeAt g 0 (ordL L) := fun j v hv => (hB11.cell (p := ⟨g, 0 + j, none⟩) hg9).trans (hr9 j v hv))
          | (go_at_call 31; refine (HFR.out w11 hB11).mono ?_; rintro e w12 ⟨rfl, rfl⟩)
          | (go_at_call 40; refine (HRF.out w11 hB11).mono ?_; rintro e w12 ⟨rfl, rfl⟩))
      go_wp2_with fail
      go_ret
      exact ⟨rfl, hb19.trans (hB11.mono hb19.size)⟩

end Go.Proofs.Ytikahcbkeempdaa
