/- The law HeapActs: the walk. -/
import Derived.Test.YtikahcbkeempdaaHaR47
import Derived.Test.YtikahcbkeempdaaHaR50
import Derived.Test.YtikahcbkeempdaaHaSwA
import Derived.Test.YtikahcbkeempdaaHaSwA1
import Derived.Test.YtikahcbkeempdaaHaSwB
import Derived.Test.YtikahcbkeempdaaHaSwC
import Derived.Test.YtikahcbkeempdaaRows0
import Derived.Deep.RegionHeld3
import Derived.Deep.CutRange
import Derived.Deep.CutBlock
import Derived.Deep.MidRow
namespace Go.Proofs.Ytikahcbkeempdaa
open Go.RowKit Go.Maps

def HARel (w : World) (b00 hp each : Nat) (mn lo hi : Int) (c : Nat) (nv : Value) (bb : Nat → Nat) (rp : Nat) (rv : Value) (pp uu : Nat → Nat) (C1 C2 : Nat) (vi v : Value) (wr : World) : Prop :=
  ∃ (i : Nat) (tt : Nat → Value) (R : List (Nat × Nat)) (F : Nat → Nat → List Nat) (T : Nat → List (Nat × Nat)), vi = .int .i64 (i : Int) ∧ i ≤ 24 ∧ R.length ≤ i ∧ TH wr hp each mn lo hi c nv bb rp rv pp uu C1 C2 tt v R F T ∧ Below b00 w wr

set_option maxRecDepth 100000 in
set_option maxHeartbeats 40000000 in
theorem heapActs_walk (c0 c1 m0 m1 m2 : Int) (a : Option Addr) (len cap : Nat) (z : Nat → Nat → Int) (w : World) (hz : RowsAt w a len 4 z) (hmax : len ≤ 9223372036854775807) :
    Calls Try.prog 15 #[.agg #[.int .i64 c0, .int .i64 c1], .agg #[.int .i64 m0, .int .i64 m1, .int .i64 m2], .slice a len cap] w fun e w' => e = .returned (.bool true) ∧ Below w.heap.size w w' := by
  obtain ⟨i0, hi, hz0, hz1, hzb⟩ := info_parts infoP
  have HZ := Lib.hid hz
  have hmq := marks_eq 0 0 0 0 0 0
  clear hz
  go_enter Try.func15, Try.ntmps15
  go_upto_region 1 with (fail)
  obtain ⟨b0, hb0⟩ : ∃ b0, w.heap.size = b0 := ⟨_, rfl⟩
  obtain ⟨wB, hwB⟩ : ∃ wB, (w.alloc (.cells #[.int .i64 c0, .int .i64 c1] 51)).alloc (.cells #[.int .i64 m0, .int .i64 m1, .int .i64 m2] 85) = wB := ⟨_, rfl⟩
  obtain ⟨b1, hb1⟩ : ∃ b1, b0 + 1 = b1 := ⟨_, rfl⟩
  have hA0 : wB.heap[b0]? = some (.cells #[.int .i64 c0, .int .i64 c1] 51 (0, 0)) := by
    rw [← hwB, ← hb0, Below.heap_alloc _ _ _ (by simp)]
    exact heap_alloc_new w _
  have hA1 : wB.heap[b1]? = some (.cells #[.int .i64 m0, .int .i64 m1, .int .i64 m2] 85 (0, 0)) := by
    have h := heap_alloc_new (w.alloc (.cells #[.int .i64 c0, .int .i64 c1] 51)) (.cells #[.int .i64 m0, .int .i64 m1, .int .i64 m2] 85)
    rw [World.size_alloc, hb0, hb1, hwB] at h
    exact h
  have hbB : Below w.heap.size w wB := by
    rw [← hwB]
    exact ((Below.refl _ _).alloc (Nat.le_refl _) _).alloc (by simp) _
  have HA0 := Lib.hid hA0
  have HA1 := Lib.hid hA1
  have HB01 := Lib.hid (And.intro hb0 hb1)
  rw [hwB, hb0, hb1]
  clear hA0 hA1 hwB hb0 hb1
  go_wp2_with fail
  refine (none9_any _).mono ?_
  rintro e wq ⟨rfl, rfl⟩
  go_wp2_with fail
  refine (htake_nil _ _ _).mono ?_
  rintro e wq ⟨rfl, rfl⟩
  go_wp2_with fail
  refine (none9_any _).mono ?_
  rintro e wq ⟨rfl, rfl⟩
  go_wp2_with fail
  refine (hfree_nil _ _).mono ?_
  rintro e wq ⟨rfl, rfl⟩
  go_wp2_with fail
  refine (heaps_any _).mono ?_
  rintro e w1 ⟨rfl, hn1⟩
  go_wp2_with fail
  refine (none9_any _).mono ?_
  rintro e wq ⟨rfl, rfl⟩
  go_wp2_with fail
  refine (may_nil _ _ _).mono ?_
  rintro e w2 ⟨rfl, q2, hw2⟩
  have hn2 : Below wB.heap.size wB w2 := by rw [hw2]; exact hn1.trans (drewN_below _ _ _)
  clear hw2 hn1
  go_wp2_with fail
  refine (none9_any _).mono ?_
  rintro e wq ⟨rfl, rfl⟩
  go_wp2_with fail
  refine (hall_nil _ _).mono ?_
  rintro e wq ⟨rfl, rfl⟩
  go_wp2_with fail
  refine (none9_any _).mono ?_
  rintro e wq ⟨rfl, rfl⟩
  go_wp2_with fail
  refine (hgive_nil _ _ _).mono ?_
  rintro e w3 ⟨rfl, q3, hw3⟩
  have hn3 : Below wB.heap.size wB w3 := by rw [hw3]; exact hn2.trans (drewN_below _ _ _)
  clear hw3 hn2
  go_wp2_with fail
  refine (none9_any _).mono ?_
  rintro e wq ⟨rfl, rfl⟩
  go_wp2_with fail
  refine (hwhole_nil _).mono ?_
  rintro e wq ⟨rfl, rfl⟩
  go_wp2_with fail
  refine (none9_any _).mono ?_
  rintro e wq ⟨rfl, rfl⟩
  go_wp2_with fail
  refine (poor_nil _ _).mono ?_
  rintro e w4 ⟨rfl, hn4⟩
  have hn4' := hn3.trans (hn4.mono hn3.size)
  clear hn3 hn4
  go_wp2_with fail
  refine (none9_any _).mono ?_
  rintro e wq ⟨rfl, rfl⟩
  go_wp2_with fail
  refine (rich_nil _ _).mono ?_
  rintro e w5 ⟨rfl, hn5⟩
  have hn5' := hn4'.trans (hn5.mono hn4'.size)
  clear hn4' hn5
  go_wp2_with fail
  refine (none9_any _).mono ?_
  rintro e wq ⟨rfl, rfl⟩
  go_wp2_with fail
  refine (hmarks_nil _).mono ?_
  rintro e w6 ⟨rfl, hn6⟩
  have hn6' := hn5'.trans (hn6.mono hn5'.size)
  clear hn5' hn6
  have hbs : b0 < wB.heap.size ∧ b1 < wB.heap.size := ⟨(Array.getElem?_eq_some_iff.1 HA0.out).1, (Array.getElem?_eq_some_iff.1 HA1.out).1⟩
  have hA0 := (hn6'.block b0 hbs.1).trans HA0.out
  have hA1 := (hn6'.block b1 hbs.2).trans HA1.out
  have k0 : w6.cell? ⟨b0, 0, none⟩ = some (.int .i64 c0) := by simp [World.cell?, hA0]
  have k1 : w6.cell? ⟨b0, 1, none⟩ = some (.int .i64 c1) := by simp [World.cell?, hA0]
  have n0 : w6.cell? ⟨b1, 0, none⟩ = some (.int .i64 m0) := by simp [World.cell?, hA1]
  have n1 : w6.cell? ⟨b1, 1, none⟩ = some (.int .i64 m1) := by simp [World.cell?, hA1]
  have n2 : w6.cell? ⟨b1, 2, none⟩ = some (.int .i64 m2) := by simp [World.cell?, hA1]
  have hb06 := hbB.trans (hn6'.mono hbB.size)
  clear hA0 hA1 hn6' hbB
  go_upto_region 6 with (fail)
  obtain ⟨bm, hbm⟩ : ∃ bm, w6.heap.size = bm := ⟨_, rfl⟩
  obtain ⟨w7, hw7⟩ : ∃ w7, w6.alloc (.cells #[.int .i64 m0, .int .i64 m1, .int .i64 m2] 82) = w7 := ⟨_, rfl⟩
  have hM7 : w7.heap[bm]? = some (.cells #[.int .i64 m0, .int .i64 m1, .int .i64 m2] 82 (0, 0)) := by rw [← hw7, ← hbm]; exact heap_alloc_new w6 _
  have hl0 : b0 < w6.heap.size := World.block_lt_of_cell? w6 _ k0
  have hk7 : ∀ x, x < w6.heap.size → w7.heap[x]? = w6.heap[x]? := fun x hx => by rw [← hw7]; exact Below.heap_alloc _ _ _ hx
  replace k0 := (World.cell?_of_block (a := ⟨b0, 0, none⟩) (hk7 b0 hl0)).trans k0
  replace k1 := (World.cell?_of_block (a := ⟨b0, 1, none⟩) (hk7 b0 hl0)).trans k1
  have m0c : w7.cell? ⟨bm, 0, none⟩ = some (.int .i64 m0) := by simp [World.cell?, hM7]
  have m1c : w7.cell? ⟨bm, 1, none⟩ = some (.int .i64 m1) := by simp [World.cell?, hM7]
  have m2c : w7.cell? ⟨bm, 2, none⟩ = some (.int .i64 m2) := by simp [World.cell?, hM7]
  have hb07 : Below w.heap.size w w7 := by rw [← hw7]; exact hb06.alloc hb06.size _
  have hl7 : b0 < w7.heap.size ∧ bm < w7.heap.size := ⟨by rw [← hw7]; simp; omega, (Array.getElem?_eq_some_iff.1 hM7).1⟩
  rw [hw7, hbm]
  clear hw7 hbm hM7 hk7 n0 n1 n2 hb06 hl0 hbs
  by_cases hc : c0 < 1 ∨ 8 < c0
  · as_aux_lemma =>
      have HN := Lib.hid (hnew_no c0 c1 m0 m1 m2 w7 hc)
      go_wp2_with fail
      refine HN.out.mono ?_
      rintro e w8 ⟨rfl, hb8⟩
      have k0' := (hb8.cell (p := ⟨b0, 0, none⟩) hl7.1).trans k0
      have k1' := (hb8.cell (p := ⟨b0, 1, none⟩) hl7.1).trans k1
      have hb9 := hb07.trans (hb8.mono hb07.size)
      clear k0 k1 hb8 hb07
      rcases hc with hc | hc
      · go_wp2_with fail
        go_ret
        exact ⟨rfl, hb9⟩
      · have hc' : ¬ c0 < 1 := by omega
        go_wp2_with fail
        go_ret
        exact ⟨rfl, hb9⟩
  have hc1 : ¬ c0 < 1 := by omega
  have hc8 : ¬ 8 < c0 := by omega
  by_cases he : c1 < 1 ∨ 1024 < c1 ∨ (1 ≤ c1 ∧ c1 ≤ 1024 ∧ bits .and .i64 c1 (c1 - 1) ≠ 0)
  · as_aux_lemma =>
      have HN := Lib.hid (hnew_each c0 c1 m0 m1 m2 w7 (by omega) (by omega) he)
      have HE := Lib.hid he
      clear he
      go_wp2_with fail
      refine HN.out.mono ?_
      rintro e w8 ⟨rfl, hb8⟩
      have k0' := (hb8.cell (p := ⟨b0, 0, none⟩) hl7.1).trans k0
      have k1' := (hb8.cell (p := ⟨b0, 1, none⟩) hl7.1).trans k1
      have hb9 := hb07.trans (hb8.mono hb07.size)
      clear k0 k1 hb8 hb07
      rcases HE.out with he | he | ⟨e1, e2, e3⟩
      · go_wp2_with fail
        go_ret
        exact ⟨rfl, hb9⟩
      · have he' : ¬ c1 < 1 := by omega
        go_wp2_with fail
        go_ret
        exact ⟨rfl, hb9⟩
      · have e1' : ¬ c1 < 1 := by omega
        have e2' : ¬ 1024 < c1 := by omega
        have hne : (bits .and .i64 c1 (c1 - 1) != 0) = true := by rw [bne_iff_ne]; exact e3
        have hne2 : ¬ bits .and .i64 c1 (c1 - 1) = 0 := e3
        go_wp2_with fail
        go_ret
        exact ⟨rfl, hb9⟩
  have he1 : ¬ c1 < 1 := by omega
  have he2 : ¬ 1024 < c1 := by omega
  have he3 : bits .and .i64 c1 (c1 - 1) = 0 := by
    by_cases h : bits .and .i64 c1 (c1 - 1) = 0
    · exact h
    · exact absurd (.inr (.inr ⟨by omega, by omega, h⟩)) he
  obtain ⟨c, rfl⟩ : ∃ c : Nat, c0 = (c : Int) := ⟨c0.toNat, by omega⟩
  obtain ⟨each, rfl⟩ : ∃ n : Nat, c1 = (n : Int) := ⟨c1.toNat, by omega⟩
  obtain ⟨N, hN, hnN⟩ : ∃ N, N < 11 ∧ each = 2 ^ N := by
    refine small_pow each (by omega) (by omega) ?_
    rw [bits_and_pred (by omega) (by omega), Int.toNat_natCast] at he3
    exact_mod_cast he3
  have hne : (bits .and .i64 (each : Int) ((each : Int) - 1) != 0) = false := by rw [he3]; rfl
  have HIN := Lib.hid (Bu.inv_new (n := each) (by omega) hnN)
  have HNW := Lib.hid (hnew_any c each N m0 m1 m2 w7 (by omega) (by omega) (by omega) hnN)
  have HE3 := Lib.hid he3
  clear hc he he3 hnN
  go_wp2_with fail
  refine HNW.out.mono ?_
  intro e w8 hpost
  rcases hpost with ⟨hgood, hp, nv, bb, rfl, hH8, hS8, hb8⟩ | ⟨hbad, rfl, hb8⟩
  · have k0' := (hb8.cell (p := ⟨b0, 0, none⟩) hl7.1).trans k0
    have k1' := (hb8.cell (p := ⟨b0, 1, none⟩) hl7.1).trans k1
    have m0' := (hb8.cell (p := ⟨bm, 0, none⟩) hl7.2).trans m0c
    have m1' := (hb8.cell (p := ⟨bm, 1, none⟩) hl7.2).trans m1c
    have m2' := (hb8.cell (p := ⟨bm, 2, none⟩) hl7.2).trans m2c
    have hb9 := hb07.trans (hb8.mono hb07.size)
    obtain ⟨C1, hC1⟩ : ∃ C1, w8.heap.size = C1 := ⟨_, rfl⟩
    obtain ⟨B7, hB7⟩ : ∃ B7, w7.heap.size = B7 := ⟨_, rfl⟩
    rw [hC1, hB7] at hS8
    rw [hB7] at hl7
    have hCB : B7 ≤ C1 := by rw [← hC1, ← hB7]; exact hb8.size
    have hwB : w.heap.size ≤ B7 := by rw [← hB7]; exact hb07.size
    have HH8 := Lib.hid hH8
    have HS := Lib.hid hS8
    have HC1 := Lib.hid hC1
    obtain ⟨g1, g2, g3, g4⟩ := hgood
    have g1' : ¬ m0 < 0 := by omega
    have g2' : ¬ m1 < m0 := by omega
    have g3' : ¬ m2 < m1 := by omega
    have g4' : ¬ (each : Int) < m2 := by omega
    have hrn := rhnew_any c each m0 w8 (by omega) (by omega) (by omega)
    unfold RNewPost at hrn
    rw [HC1.out] at hrn
    have HRN := Lib.hid hrn
    clear hrn
    clear k0 k1 m0c m1c m2c hb07 hH8 hS8 hC1 hB7 hb8
    go_wp2_with fail
    refine HRN.out.mono ?_
    rintro e w9 ⟨rv, pp, uu, rfl, hR9, hge9, hbl9⟩
    have k0 := (hbl9.cell (p := ⟨b0, 0, none⟩) (by show b0 < C1; omega)).trans k0'
    have k1 := (hbl9.cell (p := ⟨b0, 1, none⟩) (by show b0 < C1; omega)).trans k1'
    have m0c := (hbl9.cell (p := ⟨bm, 0, none⟩) (by show bm < C1; omega)).trans m0'
    have m1c := (hbl9.cell (p := ⟨bm, 1, none⟩) (by show bm < C1; omega)).trans m1'
    have m2c := (hbl9.cell (p := ⟨bm, 2, none⟩) (by show bm < C1; omega)).trans m2'
    have hb10 := hb9.trans (hbl9.mono (by have := hb9.size; rw [HC1.out] at this; exact this))
    have hs9 := hbl9.size
    rw [HC1.out] at hs9
    obtain ⟨C2, hC2⟩ : ∃ C2, w9.heap.size = C2 := ⟨_, rfl⟩
    have hT9 : TH w9 hp each m0 m1 m2 c nv bb C1 rv pp uu C1 C2 (fun _ => .slice none 0 0) (.slice none 0 0) [] (fun _ => Bu.newF each) (fun _ => []) := by
      refine ⟨HH8.out.lowK HS.out fun x hx => hbl9.block x hx, hR9, World.ownsRow_nil _ _ _ _, hge9, (fun g hg => by cases hg), ⟨by omega, by omega⟩, (fun j _ => ?_), (fun _ _ => rfl), List.nodup_nil, (fun t ht => by cases ht)⟩
      have h1 := HIN.out.sum
      have h2 : Bu.sumT [] = 0 := rfl
      omega
    have HT9 := Lib.hid hT9
    have HKM := Lib.hid (And.intro k0 (And.intro k1 (And.intro m0c (And.intro m1c m2c))))
    clear k0' k1' m0' m1' m2' hb9 hR9 hge9 hbl9 hT9
    go_wp2_with fail
    go_loopw [16, 15] (fun vi v wr => HARel w9 B7 hp each m0 m1 m2 c nv bb C1 rv pp uu C1 C2 vi v wr) (fun vi _ _ => len - (intOf vi).toNat)
    case atStart => exact ⟨0, _, [], _, _, rfl, by omega, Nat.le_refl _, HT9.out, Below.refl _ _⟩
    case round =>
      have HB10 := Lib.hid hb10
      clear hb10 k0 k1 m0c m1c m2c
      obtain ⟨i, tt, R, F, T, rfl, hi24, hRi, hT, hb⟩ := hrel
      have HT := Lib.hid hT
      by_cases e : i < len ∧ i < 24
      · obtain ⟨e1, e2⟩ := e
        have ci1 : (i : Int) < (len : Int) := by omega
        have ci2 : (i : Int) < 24 := by omega
        obtain ⟨b, off, rfl, hbl, hcell⟩ := HZ.out (by omega)
        have hc0 := (hb.cell (p := ⟨b, off + i * 4 + 0, none⟩) (show b < B7 by omega)).trans ((HB10.out.cell (p := ⟨b, off + i * 4 + 0, none⟩) hbl).trans (hcell i e1 0 (by omega)).1)
        have hc1' := (hb.cell (p := ⟨b, off + i * 4 + 1, none⟩) (show b < B7 by omega)).trans ((HB10.out.cell (p := ⟨b, off + i * 4 + 1, none⟩) hbl).trans (hcell i e1 1 (by omega)).1)
        have hc2 := (hb.cell (p := ⟨b, off + i * 4 + 2, none⟩) (show b < B7 by omega)).trans ((HB10.out.cell (p := ⟨b, off + i * 4 + 2, none⟩) hbl).trans (hcell i e1 2 (by omega)).1)
        have hc3 := (hb.cell (p := ⟨b, off + i * 4 + 3, none⟩) (show b < B7 by omega)).trans ((HB10.out.cell (p := ⟨b, off + i * 4 + 3, none⟩) hbl).trans (hcell i e1 3 (by omega)).1)
        have hwf3 := (hcell i e1 3 (by omega)).2
        rw [Nat.add_zero] at hc0
        clear hcell
        generalize z i 0 = z0 at *
        generalize z i 1 = z1 at *
        generalize z i 2 = z2 at *
        generalize z i 3 = z3 at *
        obtain ⟨o, ho, ho1⟩ := u64mod' z0 4 (by decide)
        go_upto_region 17 with (fail)
        obtain ⟨wa, hwa⟩ : ∃ wa, wr.alloc (Obj.cells #[Value.int IntKind.i64 z0, Value.int IntKind.i64 z1, Value.int IntKind.i64 z2, Value.int IntKind.i64 z3] 93) = wa := ⟨_, rfl⟩
        obtain ⟨g, hg⟩ : ∃ g, wr.heap.size = g := ⟨_, rfl⟩
        have hb7s : B7 ≤ wr.heap.size := by have := hT.ord; omega
        have hba : Below B7 w9 wa := by rw [← hwa]; exact hb.alloc hb7s _
        have hTa : TH wa hp each m0 m1 m2 c nv bb C1 rv pp uu C1 C2 tt u15 R F T := by rw [← hwa]; exact hT.below ((Below.refl _ _).alloc (Nat.le_refl _) _)
        have hblk : wa.heap[g]? = some (Obj.cells #[Value.int IntKind.i64 z0, Value.int IntKind.i64 z1, Value.int IntKind.i64 z2, Value.int IntKind.i64 z3] 93 (0, 0)) := by rw [← hwa, ← hg]; exact heap_alloc_new wr _
        have hg0 : wa.cell? ⟨g, 0, none⟩ = some (.int .i64 z0) := by simp [World.cell?, hblk]
        have hg1 : wa.cell? ⟨g, 1, none⟩ = some (.int .i64 z1) := by simp [World.cell?, hblk]
        have hg2 : wa.cell? ⟨g, 2, none⟩ = some (.int .i64 z2) := by simp [World.cell?, hblk]
        have hg3 : wa.cell? ⟨g, 3, none⟩ = some (.int .i64 z3) := by simp [World.cell?, hblk]
        have hCg : C1 ≤ g := by have := hT.ord; omega
        have hgl : g < wa.heap.size := (Array.getElem?_eq_some_iff.1 hblk).1
        have hRg : ¬ RHF C1 rv pp uu tt c g := fun h => by have := hT.rh.fp_lt h; omega
        have hvg : ¬ u15.ownBlock = some g := fun h => by have := (hT.row.lt g h).2; omega
        have hE : each ≤ 1024 := by omega
        have HBK := Lib.hid hblk
        have HTA := Lib.hid hTa
        have HRG := Lib.hid hRg
        have HVG := Lib.hid hvg
        rw [hwa, hg]
        clear hwa hg hT HT hb hc0 hc1' hc2 hc3 hblk hTa hRg hvg
        go_upto_block 2 with (fail)
        go_cut [15, 18, 19, 20, 21, 22, 23, 24] from 189 to 313 (fun v _ _ _ _ _ _ _ wx => HACut w9 B7 hp each m0 m1 m2 c nv bb C1 rv pp uu C1 C2 g i (Obj.cells #[Value.int IntKind.i64 z0, Value.int IntKind.i64 z1, Value.int IntKind.i64 z2, Value.int IntKind.i64 z3] 93 (0, 0)) v wx)
        case first =>
          have ho4 : o = 0 ∨ o = 1 ∨ o = 2 ∨ o = 3 := by omega
          rcases ho4 with rfl | rfl | rfl | rfl
          · refine haSwA HTA.out HS.out (by omega) hE hRi (by omega) hCg hgl HRG.out HVG.out HBK.out hba ?_
            intro v15 v18 v19 v20 v21 v22 v23 v24 v189 v190 v191 v192 v193 v194 v195 v196 v197 v198 v199 v200 v201 v202 v203 v204 v205 v206 v207 v208 v209 v210 v211 v212 v213 v214 v215 v216 v217 v218 v219 v220 v221 v222 v223 v224 v225 v226 v227 v228 v229 v230 v231 v232 v233 v234 v235 v236 v237 v238 v239 v240 v241 v242 v243 v244 v245 v246 v247 v248 v249 v250 v251 v252 v253 v254 v255 v256 v257 v258 v259 v260 v261 v262 v263 v264 v265 v266 v267 v268 v269 v270 v271 v272 v273 v274 v275 v276 v277 v278 v279 v280 v281 v282 v283 v284 v285 v286 v287 v288 v289 v290 v291 v292 v293 v294 v295 v296 v297 v298 v299 v300 v301 v302 v303 v304 v305 v306 v307 v308 v309 v310 v311 v312 v313 wx hcut
            have HCUT := Lib.hid hcut
            clear hcut
            go_wp2_with fail
            go_meet
            exact HCUT.out
          · refine haSwA1 HTA.out HS.out (by omega) hE hRi (by omega) hCg hgl HRG.out HVG.out HBK.out hba ?_
            intro v15 v18 v19 v20 v21 v22 v23 v24 v189 v190 v191 v192 v193 v194 v195 v196 v197 v198 v199 v200 v201 v202 v203 v204 v205 v206 v207 v208 v209 v210 v211 v212 v213 v214 v215 v216 v217 v218 v219 v220 v221 v222 v223 v224 v225 v226 v227 v228 v229 v230 v231 v232 v233 v234 v235 v236 v237 v238 v239 v240 v241 v242 v243 v244 v245 v246 v247 v248 v249 v250 v251 v252 v253 v254 v255 v256 v257 v258 v259 v260 v261 v262 v263 v264 v265 v266 v267 v268 v269 v270 v271 v272 v273 v274 v275 v276 v277 v278 v279 v280 v281 v282 v283 v284 v285 v286 v287 v288 v289 v290 v291 v292 v293 v294 v295 v296 v297 v298 v299 v300 v301 v302 v303 v304 v305 v306 v307 v308 v309 v310 v311 v312 v313 wx hcut
            have HCUT := Lib.hid hcut
            clear hcut
            go_wp2_with fail
            go_meet
            exact HCUT.out
          · refine haSwB HTA.out HS.out (by omega) hE hRi (by omega) hCg hgl HRG.out HVG.out HBK.out hba ?_
            intro v15 v18 v19 v20 v21 v22 v23 v24 v189 v190 v191 v192 v193 v194 v195 v196 v197 v198 v199 v200 v201 v202 v203 v204 v205 v206 v207 v208 v209 v210 v211 v212 v213 v214 v215 v216 v217 v218 v219 v220 v221 v222 v223 v224 v225 v226 v227 v228 v229 v230 v231 v232 v233 v234 v235 v236 v237 v238 v239 v240 v241 v242 v243 v244 v245 v246 v247 v248 v249 v250 v251 v252 v253 v254 v255 v256 v257 v258 v259 v260 v261 v262 v263 v264 v265 v266 v267 v268 v269 v270 v271 v272 v273 v274 v275 v276 v277 v278 v279 v280 v281 v282 v283 v284 v285 v286 v287 v288 v289 v290 v291 v292 v293 v294 v295 v296 v297 v298 v299 v300 v301 v302 v303 v304 v305 v306 v307 v308 v309 v310 v311 v312 v313 wx hcut
            have HCUT := Lib.hid hcut
            clear hcut
            go_wp2_with fail
            go_meet
            exact HCUT.out
          · refine haSwC HTA.out HS.out (by omega) hE hRi (by omega) hCg hgl HRG.out HVG.out HBK.out hba ?_
            intro v15 v18 v19 v20 v21 v22 v23 v24 v189 v190 v191 v192 v193 v194 v195 v196 v197 v198 v199 v200 v201 v202 v203 v204 v205 v206 v207 v208 v209 v210 v211 v212 v213 v214 v215 v216 v217 v218 v219 v220 v221 v222 v223 v224 v225 v226 v227 v228 v229 v230 v231 v232 v233 v234 v235 v236 v237 v238 v239 v240 v241 v242 v243 v244 v245 v246 v247 v248 v249 v250 v251 v252 v253 v254 v255 v256 v257 v258 v259 v260 v261 v262 v263 v264 v265 v266 v267 v268 v269 v270 v271 v272 v273 v274 v275 v276 v277 v278 v279 v280 v281 v282 v283 v284 v285 v286 v287 v288 v289 v290 v291 v292 v293 v294 v295 v296 v297 v298 v299 v300 v301 v302 v303 v304 v305 v306 v307 v308 v309 v310 v311 v312 v313 wx hcut
            have HCUT := Lib.hid hcut
            clear hcut
            go_wp2_with fail
            go_meet
            exact HCUT.out
        case rest =>
          -- CUT R
          as_aux_lemma =>
            obtain ⟨tt, R, F, T, hRi1, hT, hblk, hb⟩ := hcut
            have hord := hT.ord
            have hglc : g < wc.heap.size := (Array.getElem?_eq_some_iff.1 hblk).1
            have hg2' : wc.cell? ⟨g, 2, none⟩ = some (.int .i64 z2) := by simp [World.cell?, hblk]
            have hall := hall_any hT.heap (by omega) z2
            unfold HAllPost at hall
            have HALL := Lib.hid hall
            have HT := Lib.hid hT
            have HBK2 := Lib.hid hblk
            clear hT hblk hall hg0 hg1 hg2 hg3
            go_wp2_with fail
            refine HALL.out.mono ?_
            rintro e wl ⟨va, rfl, hrow, hbl⟩
            obtain ⟨oal, lcap, rfl, hshl⟩ := own_shape hrow
            have hwl2 := hbl.size
            have HSHL := Lib.hid hshl
            have HTL := Lib.hid (HT.out.below hbl)
            have HBKL := Lib.hid ((hbl.block g hglc).trans HBK2.out)
            have hbwl : Below B7 w9 wl := hb.trans (hbl.mono (by omega))
            have hgll : g < wl.heap.size := by omega
            clear hg2' hrow hshl hbl hb
            go_wp2_with fail
            go_loopw [26] (fun vn wr' => HALRel wl c vn wr') (fun vn _ => c - (intOf vn).toNat)
            case atStart => exact ⟨0, rfl, Nat.zero_le _, Below.refl _ _⟩
            case round =>
              obtain ⟨n, rfl, hnc, hbn⟩ := hrel
              have hTn := HTL.out.below hbn
              have hbw : Below B7 w9 wr := hbwl.trans (hbn.mono (by omega))
              have hblkn := (hbn.block g hgll).trans HBKL.out
              have hB0 : b0 < B7 ∧ bm < B7 := by omega
              have k0 := (hbw.cell (p := ⟨b0, 0, none⟩) hB0.1).trans HKM.out.1
              by_cases e : n < c
              · as_aux_lemma =>
                  have cn : (n : Int) < (c : Int) := by omega
                  have cn0 : (0 : Int) ≤ (n : Int) := by omega
                  obtain ⟨gl, rfl, _, hgl3, hcl⟩ := HSHL.out (by omega)
                  have hcell : wr.cell? ⟨gl, n, none⟩ = some (.bool (mayF (F n) m0 z2)) := (hbn.cell (p := ⟨gl, n, none⟩) hgl3).trans ((hcl n e).trans (by simp [e]))
                  have hg2 : wr.cell? ⟨g, 2, none⟩ = some (.int .i64 z2) := by simp [World.cell?, hblkn]
                  have m0c := (hbw.cell (p := ⟨bm, 0, none⟩) hB0.2).trans HKM.out.2.2.1
                  have m1c := (hbw.cell (p := ⟨bm, 1, none⟩) hB0.2).trans HKM.out.2.2.2.1
                  have m2c := (hbw.cell (p := ⟨bm, 2, none⟩) hB0.2).trans HKM.out.2.2.2.2
                  have hr2 := hTn.rh.c2
                  obtain ⟨gr, rcap, rfl, hptr⟩ := hTn.rh.ptr e
                  have hmn := hTn.mns n e
                  have hgln : gl < wr.heap.size := by have := hbn.size; omega
                  have hgn : g < wr.heap.size := by have := hbn.size; omega
                  have hBn : b0 < wr.heap.size ∧ bm < wr.heap.size := by have := hbn.size; omega
                  have HCC := Lib.hid (And.intro k0 (And.intro m0c (And.intro m1c (And.intro m2c (And.intro hg2 (And.intro hcell hptr))))))
                  have H1 := Lib.hid (hfree_yes hTn.heap n e)
                  have HTN := Lib.hid hTn
                  clear hcl hTn m0c m1c m2c hg2 hcell hptr hr2 hmn
                  go_wp2_with fail
                  refine H1.out.mono ?_
                  rintro e wq ⟨rfl, rfl⟩
                  go_wp2_with fail
                  refine haReg47 HTN.out ‹n < c› hgln hgn hBn HCC.out.1 HCC.out.2.1 HCC.out.2.2.1 HCC.out.2.2.2.1 HCC.out.2.2.2.2.1 HCC.out.2.2.2.2.2.1 HCC.out.2.2.2.2.2.2 ?_
                  intro v330 v331 v332 v333 v334 v335 v336 v337 v338 v339 v340 v341 v342 v343 v344 v345 v346 v347 v348 v349 v350 v351 v352 v353 v354 v355 v356 v357 v358 v359 v360 v361 v362 v363 v364 v365 v366 v367 v368 v369 v370 v371 v372 v373 v374 v375 v376 v377 v378 v379 v380 v381 v382 v383 v384 v385 v386 v387 v388 v389 v390 v391 v392 v393 v394 v395 v396 v397 v398 v399 w4 hb4
                  have HB4 := Lib.hid hb4
                  clear hb4
                  go_wp2_with fail
                  go_roundw
                  case rel => exact ⟨n + 1, by go_num, by omega, hbn.trans (HB4.out.mono hbn.size)⟩
                  case measure => simp [intOf]; omega
              · have cn : ¬ (n : Int) < (c : Int) := by omega
                obtain rfl : n = c := by omega
                have HTN := Lib.hid hTn
                clear hTn hblkn
                go_wp2_with fail
                go_roundw
                case rel => exact ⟨i + 1, tt, R, F, T, by go_num, by omega, hRi1, HTN.out, hbw⟩
                case measure => simp [intOf]; omega
          -- END R
      · -- CUT E
        have hcase : (¬ (i : Int) < (len : Int)) ∨ ((i : Int) < (len : Int) ∧ ¬ (i : Int) < 24) := by omega
        clear e HT
        have hB0 : b0 < B7 ∧ bm < B7 := by omega
        have k0 := (hb.cell (p := ⟨b0, 0, none⟩) hB0.1).trans HKM.out.1
        have m0c := (hb.cell (p := ⟨bm, 0, none⟩) hB0.2).trans HKM.out.2.2.1
        have m1c := (hb.cell (p := ⟨bm, 1, none⟩) hB0.2).trans HKM.out.2.2.2.1
        have m2c := (hb.cell (p := ⟨bm, 2, none⟩) hB0.2).trans HKM.out.2.2.2.2
        obtain ⟨oa, tcap, rfl, htcap, hsh⟩ := own_shape2 hT.row
        have hord := hT.ord
        have HF := Lib.hid (hfree_no hT.heap (c : Int) (.inr (Int.le_refl _)))
        have HTH := Lib.hid hT
        have HKC := Lib.hid (And.intro k0 (And.intro m0c (And.intro m1c m2c)))
        have hBr : b0 < wr.heap.size ∧ bm < wr.heap.size := by omega
        clear hsh hT
        rcases hcase with c1 | ⟨c1, c2⟩
        all_goals
          as_aux_lemma =>
            go_wp2_with fail
            refine HF.out.mono ?_
            rintro e wq ⟨rfl, rfl⟩
            go_wp2_with fail
            refine haReg50 HTH.out (by omega) hBr HKC.out.1 HKC.out.2.1 HKC.out.2.2.1 HKC.out.2.2.2 ?_
            intro v408 v409 v410 v411 v412 v413 v414 v415 v416 v417 v418 v419 v420 v421 v422 v423 v424 v425 v426 v427 v428 v429 v430 v431 v432 v433 v434 v435 v436 v437 v438 v439 v440 v441 v442 v443 v444 v445 v446 w4 hb4
            have HB4 := Lib.hid hb4
            clear hb4
            go_wp2_with fail
            go_ret
            exact ⟨rfl, (HB10.out.trans (hb.mono hwB)).trans (HB4.out.mono (by omega))⟩
        -- END E
  · have k0' := (hb8.cell (p := ⟨b0, 0, none⟩) hl7.1).trans k0
    have k1' := (hb8.cell (p := ⟨b0, 1, none⟩) hl7.1).trans k1
    have m0' := (hb8.cell (p := ⟨bm, 0, none⟩) hl7.2).trans m0c
    have m1' := (hb8.cell (p := ⟨bm, 1, none⟩) hl7.2).trans m1c
    have m2' := (hb8.cell (p := ⟨bm, 2, none⟩) hl7.2).trans m2c
    have hb9 := hb07.trans (hb8.mono hb07.size)
    clear k0 k1 m0c m1c m2c hb8 hb07
    by_cases g1 : m0 < 0
    · go_wp2_with fail
      go_ret
      exact ⟨rfl, hb9⟩
    · by_cases g2 : m1 < m0
      · go_wp2_with fail
        go_ret
        exact ⟨rfl, hb9⟩
      · by_cases g3 : m2 < m1
        · go_wp2_with fail
          go_ret
          exact ⟨rfl, hb9⟩
        · have g4 : (each : Int) < m2 := by omega
          go_wp2_with fail
          go_ret
          exact ⟨rfl, hb9⟩
end Go.Proofs.Ytikahcbkeempdaa
