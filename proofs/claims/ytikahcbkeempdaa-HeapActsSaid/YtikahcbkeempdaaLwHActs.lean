/- The law HeapActs: the walk. -/
import Derived.Test.YtikahcbkeempdaaRHeap6
import Derived.Test.YtikahcbkeempdaaRows0
import Derived.Deep.RegionHeld3
import Derived.Deep.CutRange
import Derived.Deep.CutBlock
import Derived.Deep.MidRow
namespace Go.Proofs.Ytikahcbkeempdaa
open Go.RowKit Go.Maps

def HARel (w : World) (b00 hp each : Nat) (mn lo hi : Int) (c : Nat) (nv : Value) (bb : Nat → Nat) (rp : Nat) (rv : Value) (pp uu : Nat → Nat) (C1 C2 : Nat) (vi v : Value) (wr : World) : Prop :=
  ∃ (i : Nat) (tt : Nat → Value) (R : List (Nat × Nat)) (F : Nat → Nat → List Nat) (T : Nat → List (Nat × Nat)), vi = .int .i64 (i : Int) ∧ i ≤ 24 ∧ R.length ≤ i ∧ TH wr hp each mn lo hi c nv bb rp rv pp uu C1 C2 tt v R F T ∧ Below b00 w wr

theorem sumT_pos : ∀ {T : List (Nat × Nat)} {t : Nat × Nat}, t ∈ T → 0 < Bu.sumT T
  | a :: T, t, h => by
    simp only [Bu.sumT, List.map_cons, List.sum_cons]
    have := Bu.pos2 a.2
    omega

def HA3Rel (wc : World) (R : List (Nat × Nat)) (x o : Int) (vk vl : Value) (wr : World) : Prop :=
  ∃ k : Nat, vk = .int .i64 (k : Int) ∧ k ≤ R.length ∧ wr.ownsRow wc.heap.size 51 2 vl (gone (R.take k) x o).length (takCells (gone (R.take k) x o)) ∧ Below wc.heap.size wc wr
theorem gone_step {R : List (Nat × Nat)} {x o : Int} {k : Nat} (hk : k < R.length) : gone (R.take (k + 1)) x o = if (decide (((R[k]).1 : Int) = x) && decide (((R[k]).2 : Int) = o)) = true then gone (R.take k) x o else gone (R.take k) x o ++ [((R[k]).1, (R[k]).2)] := by
  unfold gone
  rw [List.take_succ_eq_append_getElem hk, List.filter_append]
  cases h : (decide (((R[k]).1 : Int) = x) && decide (((R[k]).2 : Int) = o)) with
  | false => rw [if_neg (by decide), List.filter_cons_of_pos (by show (!(_ && _)) = true; rw [h]; rfl)]; rfl
  | true => rw [if_pos rfl, List.filter_cons_of_neg (by show ¬ (!(_ && _)) = true; rw [h]; decide)]; simp

def HALRel (wl : World) (c : Nat) (vn : Value) (wr : World) : Prop := ∃ n : Nat, vn = .int .i64 (n : Int) ∧ n ≤ c ∧ Below wl.heap.size wl wr

theorem TH.whole {w : World} {hp each c rp C1 C2 : Nat} {mn lo hi : Int} {nv rv v : Value} {bb pp uu : Nat → Nat} {tt : Nat → Value} {R : List (Nat × Nat)} {F : Nat → Nat → List Nat} {T : Nat → List (Nat × Nat)} (h : TH w hp each mn lo hi c nv bb rp rv pp uu C1 C2 tt v R F T) :
    ((R.length : Int) == 0) = wholeH F each c := by
  cases hR : R with
  | nil =>
    rw [wholeH_true fun j hj => ?_]
    · rfl
    · have h1 := (h.heap.inv j hj).sum
      have h2 : T j = [] := by rw [h.spl j hj, hR]; rfl
      rw [h2] at h1
      simpa [Bu.sumT] using h1
  | cons t R' =>
    have ht : t ∈ R := by rw [hR]; exact List.mem_cons_self ..
    have h2 : t.1 / each < c := Nat.div_lt_of_lt_mul (h.rlt t ht)
    have hm := spl_mem (each := each) ht
    rw [← h.spl _ h2] at hm
    have h1 := (h.heap.inv _ h2).sum
    have hp := sumT_pos hm
    rw [wholeH_false h2 (by omega), beq_eq_false_iff_ne, List.length_cons]
    omega

def HACut (w : World) (B7 hp each : Nat) (mn lo hi : Int) (c : Nat) (nv : Value) (bb : Nat → Nat) (rp : Nat) (rv : Value) (pp uu : Nat → Nat) (C1 C2 g i : Nat) (act : Obj) (v : Value) (wr : World) : Prop :=
  ∃ (tt : Nat → Value) (R : List (Nat × Nat)) (F : Nat → Nat → List Nat) (T : Nat → List (Nat × Nat)), R.length ≤ i + 1 ∧ TH wr hp each mn lo hi c nv bb rp rv pp uu C1 C2 tt v R F T ∧ wr.heap[g]? = some act ∧ Below B7 w wr

set_option maxRecDepth 100000 in
set_option maxHeartbeats 40000000 in
theorem heapActs_walk (c0 c1 m0 m1 m2 : Int) (a : Option Addr) (len cap : Nat) (z : Nat → Nat → Int) (w : World) (hz : RowsAt w a len 4 z) (hmax : len ≤ 9223372036854775807) :
    Calls Try.prog 15 #[.agg #[.int .i64 c0, .int .i64 c1], .agg #[.int .i64 m0, .int .i64 m1, .int .i64 m2], .slice a len cap] w fun e w' => e = .returned (.bool true) ∧ Below w.heap.size w w' := by
  obtain ⟨i0, hi, hz0, hz1, hzb⟩ := info_parts infoP
  have HZ := Lib.hid hz
  have hmq := marks_eq 0 0 0 0 0 0
  clear hz
  go_enter Try.func15, Try.ntmps15
  go_upto_region 1 with (fail)
  obtain ⟨b0, hb0⟩ : ∃ b0, w.heap.size = b0 := ⟨_, rfl⟩
  obtain ⟨wB, hwB⟩ : ∃ wB, (w.alloc (.cells #[.int .i64 c0, .int .i64 c1] 51)).alloc (.cells #[.int .i64 m0, .int .i64 m1, .int .i64 m2] 85) = wB := ⟨_, rfl⟩
  obtain ⟨b1, hb1⟩ : ∃ b1, b0 + 1 = b1 := ⟨_, rfl⟩
  have hA0 : wB.heap[b0]? = some (.cells #[.int .i64 c0, .int .i64 c1] 51 (0, 0)) := by
    rw [← hwB, ← hb0, Below.heap_alloc _ _ _ (by simp)]
    exact heap_alloc_new w _
  have hA1 : wB.heap[b1]? = some (.cells #[.int .i64 m0, .int .i64 m1, .int .i64 m2] 85 (0, 0)) := by
    have h := heap_alloc_new (w.alloc (.cells #[.int .i64 c0, .int .i64 c1] 51)) (.cells #[.int .i64 m0, .int .i64 m1, .int .i64 m2] 85)
    rw [World.size_alloc, hb0, hb1, hwB] at h
    exact h
  have hbB : Below w.heap.size w wB := by
    rw [← hwB]
    exact ((Below.refl _ _).alloc (Nat.le_refl _) _).alloc (by simp) _
  have HA0 := Lib.hid hA0
  have HA1 := Lib.hid hA1
  have HB01 := Lib.hid (And.intro hb0 hb1)
  rw [hwB, hb0, hb1]
  clear hA0 hA1 hwB hb0 hb1
  go_wp2_with fail
  refine (none9_any _).mono ?_
  rintro e wq ⟨rfl, rfl⟩
  go_wp2_with fail
  refine (htake_nil _ _ _).mono ?_
  rintro e wq ⟨rfl, rfl⟩
  go_wp2_with fail
  refine (none9_any _).mono ?_
  rintro e wq ⟨rfl, rfl⟩
  go_wp2_with fail
  refine (hfree_nil _ _).mono ?_
  rintro e wq ⟨rfl, rfl⟩
  go_wp2_with fail
  refine (heaps_any _).mono ?_
  rintro e w1 ⟨rfl, hn1⟩
  go_wp2_with fail
  refine (none9_any _).mono ?_
  rintro e wq ⟨rfl, rfl⟩
  go_wp2_with fail
  refine (may_nil _ _ _).mono ?_
  rintro e w2 ⟨rfl, q2, hw2⟩
  have hn2 : Below wB.heap.size wB w2 := by rw [hw2]; exact hn1.trans (drewN_below _ _ _)
  clear hw2 hn1
  go_wp2_with fail
  refine (none9_any _).mono ?_
  rintro e wq ⟨rfl, rfl⟩
  go_wp2_with fail
  refine (hall_nil _ _).mono ?_
  rintro e wq ⟨rfl, rfl⟩
  go_wp2_with fail
  refine (none9_any _).mono ?_
  rintro e wq ⟨rfl, rfl⟩
  go_wp2_with fail
  refine (hgive_nil _ _ _).mono ?_
  rintro e w3 ⟨rfl, q3, hw3⟩
  have hn3 : Below wB.heap.size wB w3 := by rw [hw3]; exact hn2.trans (drewN_below _ _ _)
  clear hw3 hn2
  go_wp2_with fail
  refine (none9_any _).mono ?_
  rintro e wq ⟨rfl, rfl⟩
  go_wp2_with fail
  refine (hwhole_nil _).mono ?_
  rintro e wq ⟨rfl, rfl⟩
  go_wp2_with fail
  refine (none9_any _).mono ?_
  rintro e wq ⟨rfl, rfl⟩
  go_wp2_with fail
  refine (poor_nil _ _).mono ?_
  rintro e w4 ⟨rfl, hn4⟩
  have hn4' := hn3.trans (hn4.mono hn3.size)
  clear hn3 hn4
  go_wp2_with fail
  refine (none9_any _).mono ?_
  rintro e wq ⟨rfl, rfl⟩
  go_wp2_with fail
  refine (rich_nil _ _).mono ?_
  rintro e w5 ⟨rfl, hn5⟩
  have hn5' := hn4'.trans (hn5.mono hn4'.size)
  clear hn4' hn5
  go_wp2_with fail
  refine (none9_any _).mono ?_
  rintro e wq ⟨rfl, rfl⟩
  go_wp2_with fail
  refine (hmarks_nil _).mono ?_
  rintro e w6 ⟨rfl, hn6⟩
  have hn6' := hn5'.trans (hn6.mono hn5'.size)
  clear hn5' hn6
  have hbs : b0 < wB.heap.size ∧ b1 < wB.heap.size := ⟨(Array.getElem?_eq_some_iff.1 HA0.out).1, (Array.getElem?_eq_some_iff.1 HA1.out).1⟩
  have hA0 := (hn6'.block b0 hbs.1).trans HA0.out
  have hA1 := (hn6'.block b1 hbs.2).trans HA1.out
  have k0 : w6.cell? ⟨b0, 0, none⟩ = some (.int .i64 c0) := by simp [World.cell?, hA0]
  have k1 : w6.cell? ⟨b0, 1, none⟩ = some (.int .i64 c1) := by simp [World.cell?, hA0]
  have n0 : w6.cell? ⟨b1, 0, none⟩ = some (.int .i64 m0) := by simp [World.cell?, hA1]
  have n1 : w6.cell? ⟨b1, 1, none⟩ = some (.int .i64 m1) := by simp [World.cell?, hA1]
  have n2 : w6.cell? ⟨b1, 2, none⟩ = some (.int .i64 m2) := by simp [World.cell?, hA1]
  have hb06 := hbB.trans (hn6'.mono hbB.size)
  clear hA0 hA1 hn6' hbB
  go_upto_region 6 with (fail)
  obtain ⟨bm, hbm⟩ : ∃ bm, w6.heap.size = bm := ⟨_, rfl⟩
  obtain ⟨w7, hw7⟩ : ∃ w7, w6.alloc (.cells #[.int .i64 m0, .int .i64 m1, .int .i64 m2] 82) = w7 := ⟨_, rfl⟩
  have hM7 : w7.heap[bm]? = some (.cells #[.int .i64 m0, .int .i64 m1, .int .i64 m2] 82 (0, 0)) := by rw [← hw7, ← hbm]; exact heap_alloc_new w6 _
  have hl0 : b0 < w6.heap.size := World.block_lt_of_cell? w6 _ k0
  have hk7 : ∀ x, x < w6.heap.size → w7.heap[x]? = w6.heap[x]? := fun x hx => by rw [← hw7]; exact Below.heap_alloc _ _ _ hx
  replace k0 := (World.cell?_of_block (a := ⟨b0, 0, none⟩) (hk7 b0 hl0)).trans k0
  replace k1 := (World.cell?_of_block (a := ⟨b0, 1, none⟩) (hk7 b0 hl0)).trans k1
  have m0c : w7.cell? ⟨bm, 0, none⟩ = some (.int .i64 m0) := by simp [World.cell?, hM7]
  have m1c : w7.cell? ⟨bm, 1, none⟩ = some (.int .i64 m1) := by simp [World.cell?, hM7]
  have m2c : w7.cell? ⟨bm, 2, none⟩ = some (.int .i64 m2) := by simp [World.cell?, hM7]
  have hb07 : Below w.heap.size w w7 := by rw [← hw7]; exact hb06.alloc hb06.size _
  have hl7 : b0 < w7.heap.size ∧ bm < w7.heap.size := ⟨by rw [← hw7]; simp; omega, (Array.getElem?_eq_some_iff.1 hM7).1⟩
  rw [hw7, hbm]
  clear hw7 hbm hM7 hk7 n0 n1 n2 hb06 hl0 hbs
  by_cases hc : c0 < 1 ∨ 8 < c0
  · as_aux_lemma =>
      have HN := Lib.hid (hnew_no c0 c1 m0 m1 m2 w7 hc)
      go_wp2_with fail
      refine HN.out.mono ?_
      rintro e w8 ⟨rfl, hb8⟩
      have k0' := (hb8.cell (p := ⟨b0, 0, none⟩) hl7.1).trans k0
      have k1' := (hb8.cell (p := ⟨b0, 1, none⟩) hl7.1).trans k1
      have hb9 := hb07.trans (hb8.mono hb07.size)
      clear k0 k1 hb8 hb07
      rcases hc with hc | hc
      · go_wp2_with fail
        go_ret
        exact ⟨rfl, hb9⟩
      · have hc' : ¬ c0 < 1 := by omega
        go_wp2_with fail
        go_ret
        exact ⟨rfl, hb9⟩
  have hc1 : ¬ c0 < 1 := by omega
  have hc8 : ¬ 8 < c0 := by omega
  by_cases he : c1 < 1 ∨ 1024 < c1 ∨ (1 ≤ c1 ∧ c1 ≤ 1024 ∧ bits .and .i64 c1 (c1 - 1) ≠ 0)
  · as_aux_lemma =>
      have HN := Lib.hid (hnew_each c0 c1 m0 m1 m2 w7 (by omega) (by omega) he)
      have HE := Lib.hid he
      clear he
      go_wp2_with fail
      refine HN.out.mono ?_
      rintro e w8 ⟨rfl, hb8⟩
      have k0' := (hb8.cell (p := ⟨b0, 0, none⟩) hl7.1).trans k0
      have k1' := (hb8.cell (p := ⟨b0, 1, none⟩) hl7.1).trans k1
      have hb9 := hb07.trans (hb8.mono hb07.size)
      clear k0 k1 hb8 hb07
      rcases HE.out with he | he | ⟨e1, e2, e3⟩
      · go_wp2_with fail
        go_ret
        exact ⟨rfl, hb9⟩
      · have he' : ¬ c1 < 1 := by omega
        go_wp2_with fail
        go_ret
        exact ⟨rfl, hb9⟩
      · have e1' : ¬ c1 < 1 := by omega
        have e2' : ¬ 1024 < c1 := by omega
        have hne : (bits .and .i64 c1 (c1 - 1) != 0) = true := by rw [bne_iff_ne]; exact e3
        have hne2 : ¬ bits .and .i64 c1 (c1 - 1) = 0 := e3
        go_wp2_with fail
        go_ret
        exact ⟨rfl, hb9⟩
  have he1 : ¬ c1 < 1 := by omega
  have he2 : ¬ 1024 < c1 := by omega
  have he3 : bits .and .i64 c1 (c1 - 1) = 0 := by
    by_cases h : bits .and .i64 c1 (c1 - 1) = 0
    · exact h
    · exact absurd (.inr (.inr ⟨by omega, by omega, h⟩)) he
  obtain ⟨c, rfl⟩ : ∃ c : Nat, c0 = (c : Int) := ⟨c0.toNat, by omega⟩
  obtain ⟨each, rfl⟩ : ∃ n : Nat, c1 = (n : Int) := ⟨c1.toNat, by omega⟩
  obtain ⟨N, hN, hnN⟩ : ∃ N, N < 11 ∧ each = 2 ^ N := by
    refine small_pow each (by omega) (by omega) ?_
    rw [bits_and_pred (by omega) (by omega), Int.toNat_natCast] at he3
    exact_mod_cast he3
  have hne : (bits .and .i64 (each : Int) ((each : Int) - 1) != 0) = false := by rw [he3]; rfl
  have HIN := Lib.hid (Bu.inv_new (n := each) (by omega) hnN)
  have HNW := Lib.hid (hnew_any c each N m0 m1 m2 w7 (by omega) (by omega) (by omega) hnN)
  have HE3 := Lib.hid he3
  clear hc he he3 hnN
  go_wp2_with fail
  refine HNW.out.mono ?_
  intro e w8 hpost
  rcases hpost with ⟨hgood, hp, nv, bb, rfl, hH8, hS8, hb8⟩ | ⟨hbad, rfl, hb8⟩
  · have k0' := (hb8.cell (p := ⟨b0, 0, none⟩) hl7.1).trans k0
    have k1' := (hb8.cell (p := ⟨b0, 1, none⟩) hl7.1).trans k1
    have m0' := (hb8.cell (p := ⟨bm, 0, none⟩) hl7.2).trans m0c
    have m1' := (hb8.cell (p := ⟨bm, 1, none⟩) hl7.2).trans m1c
    have m2' := (hb8.cell (p := ⟨bm, 2, none⟩) hl7.2).trans m2c
    have hb9 := hb07.trans (hb8.mono hb07.size)
    obtain ⟨C1, hC1⟩ : ∃ C1, w8.heap.size = C1 := ⟨_, rfl⟩
    obtain ⟨B7, hB7⟩ : ∃ B7, w7.heap.size = B7 := ⟨_, rfl⟩
    rw [hC1, hB7] at hS8
    rw [hB7] at hl7
    have hCB : B7 ≤ C1 := by rw [← hC1, ← hB7]; exact hb8.size
    have hwB : w.heap.size ≤ B7 := by rw [← hB7]; exact hb07.size
    have HH8 := Lib.hid hH8
    have HS := Lib.hid hS8
    have HC1 := Lib.hid hC1
    obtain ⟨g1, g2, g3, g4⟩ := hgood
    have g1' : ¬ m0 < 0 := by omega
    have g2' : ¬ m1 < m0 := by omega
    have g3' : ¬ m2 < m1 := by omega
    have g4' : ¬ (each : Int) < m2 := by omega
    have hrn := rhnew_any c each m0 w8 (by omega) (by omega) (by omega)
    unfold RNewPost at hrn
    rw [HC1.out] at hrn
    have HRN := Lib.hid hrn
    clear hrn
    clear k0 k1 m0c m1c m2c hb07 hH8 hS8 hC1 hB7 hb8
    go_wp2_with fail
    refine HRN.out.mono ?_
    rintro e w9 ⟨rv, pp, uu, rfl, hR9, hge9, hbl9⟩
    have k0 := (hbl9.cell (p := ⟨b0, 0, none⟩) (by show b0 < C1; omega)).trans k0'
    have k1 := (hbl9.cell (p := ⟨b0, 1, none⟩) (by show b0 < C1; omega)).trans k1'
    have m0c := (hbl9.cell (p := ⟨bm, 0, none⟩) (by show bm < C1; omega)).trans m0'
    have m1c := (hbl9.cell (p := ⟨bm, 1, none⟩) (by show bm < C1; omega)).trans m1'
    have m2c := (hbl9.cell (p := ⟨bm, 2, none⟩) (by show bm < C1; omega)).trans m2'
    have hb10 := hb9.trans (hbl9.mono (by have := hb9.size; rw [HC1.out] at this; exact this))
    have hs9 := hbl9.size
    rw [HC1.out] at hs9
    obtain ⟨C2, hC2⟩ : ∃ C2, w9.heap.size = C2 := ⟨_, rfl⟩
    have hT9 : TH w9 hp each m0 m1 m2 c nv bb C1 rv pp uu C1 C2 (fun _ => .slice none 0 0) (.slice none 0 0) [] (fun _ => Bu.newF each) (fun _ => []) := by
      refine ⟨HH8.out.lowK HS.out fun x hx => hbl9.block x hx, hR9, World.ownsRow_nil _ _ _ _, hge9, (fun g hg => by cases hg), ⟨by omega, by omega⟩, (fun j _ => ?_), (fun _ _ => rfl), List.nodup_nil, (fun t ht => by cases ht)⟩
      have h1 := HIN.out.sum
      have h2 : Bu.sumT [] = 0 := rfl
      omega
    have HT9 := Lib.hid hT9
    have HKM := Lib.hid (And.intro k0 (And.intro k1 (And.intro m0c (And.intro m1c m2c))))
    clear k0' k1' m0' m1' m2' hb9 hR9 hge9 hbl9 hT9
    go_wp2_with fail
    go_loopw [16, 15] (fun vi v wr => HARel w9 B7 hp each m0 m1 m2 c nv bb C1 rv pp uu C1 C2 vi v wr) (fun vi _ _ => len - (intOf vi).toNat)
    case atStart => exact ⟨0, _, [], _, _, rfl, by omega, Nat.le_refl _, HT9.out, Below.refl _ _⟩
    case round =>
      have HB10 := Lib.hid hb10
      clear hb10 k0 k1 m0c m1c m2c
      obtain ⟨i, tt, R, F, T, rfl, hi24, hRi, hT, hb⟩ := hrel
      have HT := Lib.hid hT
      by_cases e : i < len ∧ i < 24
      · obtain ⟨e1, e2⟩ := e
        have ci1 : (i : Int) < (len : Int) := by omega
        have ci2 : (i : Int) < 24 := by omega
        obtain ⟨b, off, rfl, hbl, hcell⟩ := HZ.out (by omega)
        have hc0 := (hb.cell (p := ⟨b, off + i * 4 + 0, none⟩) (show b < B7 by omega)).trans ((HB10.out.cell (p := ⟨b, off + i * 4 + 0, none⟩) hbl).trans (hcell i e1 0 (by omega)).1)
        have hc1' := (hb.cell (p := ⟨b, off + i * 4 + 1, none⟩) (show b < B7 by omega)).trans ((HB10.out.cell (p := ⟨b, off + i * 4 + 1, none⟩) hbl).trans (hcell i e1 1 (by omega)).1)
        have hc2 := (hb.cell (p := ⟨b, off + i * 4 + 2, none⟩) (show b < B7 by omega)).trans ((HB10.out.cell (p := ⟨b, off + i * 4 + 2, none⟩) hbl).trans (hcell i e1 2 (by omega)).1)
        have hc3 := (hb.cell (p := ⟨b, off + i * 4 + 3, none⟩) (show b < B7 by omega)).trans ((HB10.out.cell (p := ⟨b, off + i * 4 + 3, none⟩) hbl).trans (hcell i e1 3 (by omega)).1)
        have hwf3 := (hcell i e1 3 (by omega)).2
        rw [Nat.add_zero] at hc0
        clear hcell
        generalize z i 0 = z0 at *
        generalize z i 1 = z1 at *
        generalize z i 2 = z2 at *
        generalize z i 3 = z3 at *
        obtain ⟨o, ho, ho1⟩ := u64mod' z0 4 (by decide)
        go_upto_region 17 with (fail)
        obtain ⟨wa, hwa⟩ : ∃ wa, wr.alloc (Obj.cells #[Value.int IntKind.i64 z0, Value.int IntKind.i64 z1, Value.int IntKind.i64 z2, Value.int IntKind.i64 z3] 93) = wa := ⟨_, rfl⟩
        obtain ⟨g, hg⟩ : ∃ g, wr.heap.size = g := ⟨_, rfl⟩
        have hb7s : B7 ≤ wr.heap.size := by have := hT.ord; omega
        have hba : Below B7 w9 wa := by rw [← hwa]; exact hb.alloc hb7s _
        have hTa : TH wa hp each m0 m1 m2 c nv bb C1 rv pp uu C1 C2 tt u15 R F T := by rw [← hwa]; exact hT.below ((Below.refl _ _).alloc (Nat.le_refl _) _)
        have hblk : wa.heap[g]? = some (Obj.cells #[Value.int IntKind.i64 z0, Value.int IntKind.i64 z1, Value.int IntKind.i64 z2, Value.int IntKind.i64 z3] 93 (0, 0)) := by rw [← hwa, ← hg]; exact heap_alloc_new wr _
        have hg0 : wa.cell? ⟨g, 0, none⟩ = some (.int .i64 z0) := by simp [World.cell?, hblk]
        have hg1 : wa.cell? ⟨g, 1, none⟩ = some (.int .i64 z1) := by simp [World.cell?, hblk]
        have hg2 : wa.cell? ⟨g, 2, none⟩ = some (.int .i64 z2) := by simp [World.cell?, hblk]
        have hg3 : wa.cell? ⟨g, 3, none⟩ = some (.int .i64 z3) := by simp [World.cell?, hblk]
        have hCg : C1 ≤ g := by have := hT.ord; omega
        have hgl : g < wa.heap.size := (Array.getElem?_eq_some_iff.1 hblk).1
        have hRg : ¬ RHF C1 rv pp uu tt c g := fun h => by have := hT.rh.fp_lt h; omega
        have hvg : ¬ u15.ownBlock = some g := fun h => by have := (hT.row.lt g h).2; omega
        have hE : each ≤ 1024 := by omega
        have HBK := Lib.hid hblk
        have HTA := Lib.hid hTa
        have HRG := Lib.hid hRg
        have HVG := Lib.hid hvg
        rw [hwa, hg]
        clear hwa hg hT HT hb hc0 hc1' hc2 hc3 hblk hTa hRg hvg
        go_upto_block 2 with (fail)
        go_cut [15, 18, 19, 20, 21, 22, 23, 24] from 189 to 313 (fun v _ _ _ _ _ _ _ wx => HACut w9 B7 hp each m0 m1 m2 c nv bb C1 rv pp uu C1 C2 g i (Obj.cells #[Value.int IntKind.i64 z0, Value.int IntKind.i64 z1, Value.int IntKind.i64 z2, Value.int IntKind.i64 z3] 93 (0, 0)) v wx)
        case first =>
          have ho4 : o = 0 ∨ o = 1 ∨ o = 2 ∨ o = 3 := by omega
          rcases ho4 with rfl | rfl | rfl | rfl
          case inl | inr.inl =>
            -- CUT A
            rcases th_take HTA.out HS.out (by omega) z1 z2 with ⟨gg, hgg, hT1⟩ | ⟨f, k, rfl, hfr, hfl, hT1⟩
            · as_aux_lemma =>
                unfold TakeBad at hT1
                have HT1 := Lib.hid hT1
                have hg0 : ¬ gg = 0 := by omega
                have hg0' : (gg == 0) = false := by rw [beq_eq_false_iff_ne]; exact hg0
                clear hT1
                go_wp2_with fail
                refine HT1.out.mono ?_
                rintro e wb ⟨rfl, hkb, hd⟩
                have HD := Lib.hid hd
                have hbb := Lib.hid ((hkb.2 g hCg hgl HRG.out).trans HBK.out)
                have hb1 : wb.cell? ⟨g, 1, none⟩ = some (.int .i64 z1) := by simp [World.cell?, hbb.out]
                have hb2 : wb.cell? ⟨g, 2, none⟩ = some (.int .i64 z2) := by simp [World.cell?, hbb.out]
                clear hd hkb
                go_wp2_with fail
                refine HD.out.mono ?_
                rintro e wc ⟨rfl, hkc, hTc⟩
                have hbc := Lib.hid ((hkc.2 g hCg hgl HRG.out).trans HBK.out)
                have HTC := Lib.hid hTc
                have HKC := Lib.hid hkc.1
                clear hTc hkc
                go_wp2_with fail
                go_meet
                exact ⟨tt, R, F, T, by omega, HTC.out, hbc.out, hba.trans HKC.out⟩
            · as_aux_lemma =>
                unfold TakeOk at hT1
                have HT1 := Lib.hid hT1
                clear hT1
                go_wp2_with fail
                refine HT1.out.mono ?_
                rintro e wb ⟨rfl, hkb, hd⟩
                have HD := Lib.hid hd
                have hbb := Lib.hid ((hkb.2 g hCg hgl HRG.out).trans HBK.out)
                have hb1 : wb.cell? ⟨g, 1, none⟩ = some (.int .i64 z1) := by simp [World.cell?, hbb.out]
                have hb2 : wb.cell? ⟨g, 2, none⟩ = some (.int .i64 (k : Int)) := by simp [World.cell?, hbb.out]
                clear hd hkb
                go_wp2_with fail
                refine HD.out.mono ?_
                rintro e wc ⟨rfl, hkc, tt', F', T', hP, hspl⟩
                have hbc := Lib.hid ((hkc.2 g hCg hgl HRG.out).trans HBK.out)
                have hc2' : wc.cell? ⟨g, 2, none⟩ = some (.int .i64 (k : Int)) := by simp [World.cell?, hbc.out]
                have hrow := ownsRow_same HTA.out.row fun x hx => (hP.2.2.2.2.1 x hx).1
                have hszc := hP.2.2.2.2.2
                have hord := HTA.out.ord
                have HP := Lib.hid hP
                have HSPL := Lib.hid hspl
                have HKC := Lib.hid hkc.1
                have HFR := Lib.hid hfr
                have HFL := Lib.hid hfl
                clear hP hspl hkc hfr hfl
                go_wp2_with (first
                  | (at_builtin; refine wpList_append_lies _ rfl _ _ 50 rfl C2 51 i0 _ 2 16 Try.underlying50 hi hz0 hz1 hzb rfl (by decide) _ _ _ rfl (hrow.alloc _) ⟨wc.heap.size, 0, none⟩ 1 1 [.int .i64 (f : Int), .int .i64 (k : Int)] rfl rfl (World.news_of_block (cs := #[.int .i64 (f : Int), .int .i64 (k : Int)]) (t := 51) (fr := (0, 0)) (heap_alloc_new wc _)) (by simp [Value.oneCell']) (by decide) (by unfold maxLen; omega) (by omega) (by simp; omega) (wc.heap.size + 1) (by simp) ?_; intro g4 cap4 w4 hown4 hg4 hat4 hlt4))
                have hTn := Lib.hid (HP.out.app HS.out HTA.out hg4 hown4 hat4 HSPL.out HFR.out HFL.out)
                have hbn := Lib.hid ((hg4.block g (by simp; omega) (fun h => HVG.out h.symm)).trans ((Below.heap_alloc _ _ _ (by omega)).trans hbc.out))
                have hB4 := ((hba.trans HKC.out).alloc (by omega) _).grown hg4 (by simp; omega) (fun x hx => by have := (HTA.out.row.lt x hx).1; omega)
                clear hown4 hg4 hat4 hlt4 hrow
                go_wp2_with fail
                go_meet
                exact ⟨tt', R ++ [(f, k)], F', T', by simp; omega, hTn.out, hbn.out, hB4⟩
            -- END A
          case inr.inr.inl =>
            -- CUT B
            obtain ⟨oa, tcap, rfl, htcap, hsh⟩ := own_shape2 HTA.out.row
            clear hsh
            by_cases hR0 : R.length = 0
            · have ct : ¬ (0 : Int) < (R.length : Int) := by omega
              clear hR0
              go_wp2_with fail
              go_meet
              exact ⟨tt, R, F, T, by omega, HTA.out, HBK.out, hba⟩
            · as_aux_lemma =>
                have ct : (0 : Int) < (R.length : Int) := by omega
                obtain ⟨gt, cap', cur, hv, hgb, hcap, htk⟩ := own_block2 HTA.out.row (by omega)
                obtain ⟨rfl, rfl⟩ : oa = some ⟨gt, 0, none⟩ ∧ tcap = cap' := by cases hv; exact ⟨rfl, rfl⟩
                clear hv
                have hgt1 := (HTA.out.row.lt gt rfl).1
                have hgt2 := (HTA.out.row.lt gt rfl).2
                have hord := HTA.out.ord
                have hCgt : C1 ≤ gt := by omega
                have HRGT := Lib.hid (HTA.out.dis gt rfl)
                obtain ⟨j, hj, hj1⟩ := u64mod' z3 (R.length : Int) (by omega)
                have hjR : j < R.length := by omega
                have hwl : IntKind.u64.wrap (R.length : Int) = (R.length : Int) := IntWalk.u64_in _ (by omega)
                have hwj : IntKind.i64.wrap (j : Int) = (j : Int) := IntWalk.i64_in _ (by omega)
                have ht0 : ((R.length : Int) == 0) = false := by rw [beq_eq_false_iff_ne]; omega
                have ht1 : ¬ (R.length : Int) = 0 := by omega
                have hj0 : (0 : Int) ≤ (j : Int) := by omega
                have hx0 : wa.cell? ⟨gt, j * 2, none⟩ = some (.int .i64 ((R[j]).1 : Int)) := by
                  rw [HTA.out.row.cellAt (j * 2) (by omega)]
                  have h1 := (takCells_at R hjR).1
                  have h2 : j * 2 < (takCells R).length := by rw [takCells_len]; omega
                  simpa [h2] using h1
                have hy0 : wa.cell? ⟨gt, j * 2 + 1, none⟩ = some (.int .i64 ((R[j]).2 : Int)) := by
                  rw [HTA.out.row.cellAt (j * 2 + 1) (by omega)]
                  have h1 := (takCells_at R hjR).2
                  have h2 : j * 2 + 1 < (takCells R).length := by rw [takCells_len]; omega
                  simpa [h2] using h1
                obtain ⟨t1, ht1'⟩ : ∃ t1, (R[j]).1 = t1 := ⟨_, rfl⟩
                obtain ⟨t2, ht2'⟩ : ∃ t2, (R[j]).2 = t2 := ⟨_, rfl⟩
                have htt : R[j] = (t1, t2) := Prod.ext ht1' ht2'
                have her := erase_at HTA.out.rnd hjR
                rw [htt] at her hx0 hy0
                simp only at hx0 hy0
                rw [← gone_erase HTA.out.rnd] at her
                obtain ⟨gg, hG⟩ := th_give HTA.out HS.out (by omega) hE (t1 : Int) (t2 : Int)
                have CG := Lib.hid hG
                have HER := Lib.hid her
                have HTK := Lib.hid htk
                have HGB := Lib.hid hgb
                have hgj1 : (j : Int) < (R.length : Int) := by omega
                clear hG her htk hgb htt ht1' ht2'
                go_wp2_with fail
                go_region_held3 (fun w' => w'.cell? ⟨gt, j * 2, none⟩ = some (.int .i64 (t1 : Int)) ∧ w'.cell? ⟨gt, j * 2 + 1, none⟩ = some (.int .i64 (t2 : Int)))
                  (first | (go_split_ands; refine ⟨?_, ?_⟩ <;> assumption) | go_keep)
                  (first
                    | (go_at_call 56; refine (CG.out 1).mono ?_; rintro e wb ⟨rfl, hkb, hdb⟩; have hxb := (World.cell?_of_block (a := ⟨gt, j * 2, none⟩) (hkb.2 gt hCgt hgt2 HRGT.out)).trans hx0; have hyb := (World.cell?_of_block (a := ⟨gt, j * 2 + 1, none⟩) (hkb.2 gt hCgt hgt2 HRGT.out)).trans hy0; have HDB := Lib.hid hdb; clear hdb)
                    | (go_at_call 65; refine (HDB.out 0).mono ?_; rintro e wc ⟨rfl, hkc, hTc⟩; have hxc := (World.cell?_of_block (a := ⟨gt, j * 2, none⟩) (hkc.2 gt hCgt hgt2 HRGT.out)).trans hx0; have hyc := (World.cell?_of_block (a := ⟨gt, j * 2 + 1, none⟩) (hkc.2 gt hCgt hgt2 HRGT.out)).trans hy0))
                obtain ⟨tt', F', T', hP, hspl⟩ := hTc
                have hgbc := Lib.hid ((hkc.2 gt hCgt hgt2 HRGT.out).trans HGB.out)
                have hbc := Lib.hid ((hkc.2 g hCg hgl HRG.out).trans HBK.out)
                have hszc := hP.2.2.2.2.2
                have HP := Lib.hid hP
                have HSPL := Lib.hid hspl
                have HKC := Lib.hid hkc.1
                have lg : gt < wc.heap.size := by omega
                have hR24 : R.length ≤ 24 := by omega
                have f1 : IntKind.i64.wrap ((j : Int) + 1) = (j : Int) + 1 := IntWalk.i64_in _ (by omega)
                have f2 : (0 : Int) ≤ (j : Int) + 1 := by omega
                have f3 : ((j : Int) + 1).toNat = j + 1 := by omega
                have f4 : (j : Int) + 1 ≤ (R.length : Int) := by omega
                have f5 : (j : Int) ≤ (R.length : Int) := by omega
                have f6 : j ≤ tcap := by omega
                have f7 : j + 1 ≤ R.length := by omega
                have f9 : j + 1 ≤ tcap := by omega
                have f10 : (j : Int) ≤ (j : Int) + 1 := by omega
                have hec : (tcap = j + 1 ∧ R.length = j + 1) ∨ (¬ tcap = j + 1 ∧ 0 ≤ j) := by omega
                clear hxc hyc hxb hyb hkc hkb hP hspl hcap hx0 hy0
                rcases hec with ⟨ecap, etl⟩ | ⟨ecap, etl⟩
                all_goals
                  as_aux_lemma =>
                    go_wp2_with fail
                    go_region_law (first
                      | (refine step_append_own _ (by rfl) _ _ _ (by rfl) wc.heap.size 51 i0 _ 2 16 Try.underlying50 hi hz0 hz1 hzb rfl (by omega) (.slice (some ⟨wc.heap.size, 0, none⟩) 0 0) 0 [] (by rfl) ((World.ownsRow_made wc #[] 0 (Nat.le_refl _) (by decide) rfl).drew) ⟨gt, 0, none⟩ j _ (takCells (R.take j)) (by rfl) (by rw [takCells_len]; simp; omega) (news_take ((Below.heap_alloc wc _ _ lg).trans hgbc.out) HTK.out) (takCells_one _) (by unfold maxLen; omega) (by omega) (by simp) ?_; intro v3 w10 hown3 hgrow3 hnil3; have hB3 : Below wc.heap.size wc w10 := ⟨hgrow3.os, hgrow3.tape, hgrow3.output, Nat.le_trans (by simp) hgrow3.size, (fun i hi => (hgrow3.block i (by simp; omega) (by simp [Value.ownBlock]; omega)).trans (Below.heap_alloc _ _ _ hi))⟩; have HB3 := Lib.hid hB3; have hs3 := hgrow3.size; clear hB3)
                      | (refine step_append_own _ (by rfl) _ _ _ (by rfl) wc.heap.size 51 i0 _ 2 16 Try.underlying50 hi hz0 hz1 hzb rfl (by omega) v3 (0 + j) ([] ++ takCells (R.take j)) (by rfl) hown3 _ _ _ (takCells (R.drop (j + 1))) (by rfl) (by rw [takCells_len]; simp; try omega) (by first | exact news_drop ((HB3.out.block gt lg).trans hgbc.out) HTK.out | (intro j u hj; rw [List.drop_of_length_le (by omega)] at hj; simp [takCells] at hj)) (takCells_one _) (by unfold maxLen; omega) (by omega) (by simp at hs3; omega) ?_; intro v4 w11 hown4 hgrow4 hnil4; have hB4 : Below wc.heap.size wc w11 := ⟨hgrow4.os.trans HB3.out.os, hgrow4.tape.trans HB3.out.tape, hgrow4.output.trans HB3.out.output, Nat.le_trans HB3.out.size hgrow4.size, (fun i hi => (hgrow4.block i (by simp at hs3; omega) (fun e => by have := (hown3.lt i e.symm).1; omega)).trans (HB3.out.block i hi))⟩; have HB4 := Lib.hid hB4; have HO4 := Lib.hid (own_app hown4); clear hB4 hown4 hgrow4 hnil4))
                    all_goals go_wp2_with fail
                    all_goals go_meet
                    all_goals exact ⟨tt', gone R (t1 : Int) (t2 : Int), F', T', by have := gone_len R (t1 : Int) (t2 : Int); omega, HP.out.newRow ⟨hord.1, by omega⟩ HB4.out (by rw [HER.out]; exact HO4.out) HSPL.out (gone_nodup HTA.out.rnd) (fun t ht => HTA.out.rlt t (gone_sub t ht)), (HB4.out.block g (by omega)).trans hbc.out, (hba.trans HKC.out).trans (HB4.out.mono (by omega))⟩
            -- END B
          case inr.inr.inr =>
            -- CUT C
            as_aux_lemma =>
              obtain ⟨oa, tcap, rfl, htcap, hsh⟩ := own_shape2 HTA.out.row
              have hord := HTA.out.ord
              obtain ⟨gg, hG⟩ := th_give HTA.out HS.out (by omega) hE z3 z2
              have CG := Lib.hid hG
              have HSH := Lib.hid hsh
              clear hG hsh
              go_wp2_with fail
              go_region_held3 (fun w' => w'.cell? ⟨g, 3, none⟩ = some (.int .i64 z3) ∧ w'.cell? ⟨g, 2, none⟩ = some (.int .i64 z2))
                (first | (go_split_ands; refine ⟨?_, ?_⟩ <;> assumption) | go_keep)
                (first
                  | (go_at_call 56; refine (CG.out 1).mono ?_; rintro e wb ⟨rfl, hkb, hdb⟩; have hxb := (World.cell?_of_block (a := ⟨g, 3, none⟩) (hkb.2 g hCg hgl HRG.out)).trans hg3; have hyb := (World.cell?_of_block (a := ⟨g, 2, none⟩) (hkb.2 g hCg hgl HRG.out)).trans hg2; have HDB := Lib.hid hdb; clear hdb)
                  | (go_at_call 65; refine (HDB.out 0).mono ?_; rintro e wc ⟨rfl, hkc, hTc⟩; have hxc := (World.cell?_of_block (a := ⟨g, 3, none⟩) (hkc.2 g hCg hgl HRG.out)).trans hg3; have hyc := (World.cell?_of_block (a := ⟨g, 2, none⟩) (hkc.2 g hCg hgl HRG.out)).trans hg2))
              obtain ⟨tt', F', T', hP, hspl⟩ := hTc
              have hbc := Lib.hid ((hkc.2 g hCg hgl HRG.out).trans HBK.out)
              have hszc := hP.2.2.2.2.2
              have hglc : g < wc.heap.size := by omega
              have HP := Lib.hid hP
              have HSPL := Lib.hid hspl
              have HKC := Lib.hid hkc.1
              have hR24 : R.length ≤ 24 := by omega
              have HRow := Lib.hid (ownsRow_same HTA.out.row fun x hx => (hP.2.2.2.2.1 x hx).1)
              clear hxb hyb hxc hyc hkc hkb hP hspl hg0 hg1 hg2 hg3
              go_wp2_with fail
              go_loopw [24, 23] (fun vk vl wr' => HA3Rel wc R z3 z2 vk vl wr') (fun vk _ _ => R.length - (intOf vk).toNat)
              case atStart => exact ⟨0, rfl, Nat.zero_le _, World.ownsRow_nil _ _ _ _, Below.refl _ _⟩
              case round =>
                obtain ⟨k, rfl, hkR, hrow, hbk⟩ := hrel
                by_cases e : k < R.length
                · as_aux_lemma =>
                    have ck : (k : Int) < (R.length : Int) := by omega
                    have ck0 : (0 : Int) ≤ (k : Int) := by omega
                    obtain ⟨gt, rfl, hgt, hgo, _⟩ := HSH.out (by omega)
                    have hgtc : gt < wc.heap.size := by omega
                    have hx0 : wr.cell? ⟨gt, k * 2, none⟩ = some (.int .i64 ((R[k]).1 : Int)) := by
                      refine (hbk.cell (p := ⟨gt, k * 2, none⟩) hgtc).trans ?_
                      rw [HRow.out.cellAt (k * 2) (by omega)]
                      have h1 := (takCells_at R e).1
                      have h2 : k * 2 < (takCells R).length := by rw [takCells_len]; omega
                      simpa [h2] using h1
                    have hy0 : wr.cell? ⟨gt, k * 2 + 1, none⟩ = some (.int .i64 ((R[k]).2 : Int)) := by
                      refine (hbk.cell (p := ⟨gt, k * 2 + 1, none⟩) hgtc).trans ?_
                      rw [HRow.out.cellAt (k * 2 + 1) (by omega)]
                      have h1 := (takCells_at R e).2
                      have h2 : k * 2 + 1 < (takCells R).length := by rw [takCells_len]; omega
                      simpa [h2] using h1
                    have hblkr := (hbk.block g hglc).trans hbc.out
                    have hg2 : wr.cell? ⟨g, 2, none⟩ = some (.int .i64 z2) := by simp [World.cell?, hblkr]
                    have hg3 : wr.cell? ⟨g, 3, none⟩ = some (.int .i64 z3) := by simp [World.cell?, hblkr]
                    have HST := Lib.hid (gone_step (x := z3) (o := z2) e)
                    clear hblkr
                    obtain ⟨t1, ht1'⟩ : ∃ t1, (R[k]).1 = t1 := ⟨_, rfl⟩
                    obtain ⟨t2, ht2'⟩ : ∃ t2, (R[k]).2 = t2 := ⟨_, rfl⟩
                    rw [ht1'] at hx0 HST
                    rw [ht2'] at hy0 HST
                    clear ht1' ht2'
                    have hpe := fun w' => pair_eq' (t1 : Int) (t2 : Int) z3 z2 w'
                    have hcs : (((t1 : Int) == z3) = false ∧ (decide ((t1 : Int) = z3) && decide ((t2 : Int) = z2)) = false) ∨ (((t1 : Int) == z3) = true ∧ ((t2 : Int) == z2) = false ∧ (decide ((t1 : Int) = z3) && decide ((t2 : Int) = z2)) = false) ∨ (((t1 : Int) == z3) = true ∧ ((t2 : Int) == z2) = true ∧ (decide ((t1 : Int) = z3) && decide ((t2 : Int) = z2)) = true) := by
                      by_cases h1 : (t1 : Int) = z3
                      · by_cases h2 : (t2 : Int) = z2
                        · simp [h1, h2]
                        · simp [h1, h2]
                      · simp [h1]
                    have HCS := Lib.hid hcs
                    clear hcs
                    rcases HCS.out with ⟨q1, q3⟩ | ⟨q1, q2, q3⟩ | ⟨q1, q2, q3⟩
                    case inl | inr.inl =>
                      have Q3 := Lib.hid q3
                      have HROW := Lib.hid hrow
                      clear q3 hrow
                      go_wp2_with fail
                      go_quiet (fail)
                      have hrowq : (wr.drewN nq).ownsRow wc.heap.size 51 2 u23 (gone (R.take k) z3 z2).length (takCells (gone (R.take k) z3 z2)) := ownsRow_same HROW.out fun _ _ => rfl
                      have hbq : Below wc.heap.size wc (wr.drewN nq) := hbk.trans (drewN_below _ _ _)
                      have hx0q : (wr.drewN nq).cell? ⟨gt, k * 2, none⟩ = some (.int .i64 (t1 : Int)) := hx0
                      have hy0q : (wr.drewN nq).cell? ⟨gt, k * 2 + 1, none⟩ = some (.int .i64 (t2 : Int)) := hy0
                      generalize wr.drewN nq = wq at *
                      have hszq := hbq.size
                      have hgl := gone_len (R.take k) z3 z2
                      rw [List.length_take] at hgl
                      clear hx0 hy0 hg2 hg3 hpe
                      go_wp2_with (first
                        | (at_builtin; refine wpList_append_own _ rfl _ _ 50 rfl wc.heap.size 51 i0 _ 2 16 Try.underlying50 hi hz0 hz1 hzb rfl (by decide) _ _ _ rfl (hrowq.alloc _) ⟨wq.heap.size, 0, none⟩ 1 1 [.int .i64 (t1 : Int), .int .i64 (t2 : Int)] rfl rfl (World.news_of_block (cs := #[.int .i64 (t1 : Int), .int .i64 (t2 : Int)]) (t := 51) (fr := (0, 0)) (heap_alloc_new wq _)) (by simp [Value.oneCell']) (by unfold maxLen; omega) (by omega) (by simp; omega) ?_; intro v5 w5 hown5 hg5 hnil5))
                      have HO5 := Lib.hid hown5
                      have hb5 := (hbq.alloc (by omega) _).grown hg5 (by simp; omega) (fun x hx => (hrowq.lt x hx).1)
                      clear hown5 hg5 hnil5 hrowq hx0q hy0q
                      go_wp2_with fail
                      go_roundw
                      case rel => exact ⟨k + 1, by go_num, by omega, by rw [HST.out, if_neg (by rw [Q3.out]; decide), List.length_append, takCells_app]; exact HO5.out, hb5⟩
                      case measure => simp [intOf]; omega
                    case inr.inr =>
                      have Q3 := Lib.hid q3
                      have HROW := Lib.hid hrow
                      clear q3 hrow
                      go_wp2_with fail
                      go_quiet (fail)
                      go_wp2_with fail
                      go_roundw
                      case rel => exact ⟨k + 1, by go_num, by omega, by rw [HST.out, if_pos Q3.out]; exact ownsRow_same HROW.out fun _ _ => rfl, hbk.trans (drewN_below _ _ _)⟩
                      case measure => simp [intOf]; omega
                · have ck : ¬ (k : Int) < (R.length : Int) := by omega
                  obtain rfl : k = R.length := by omega
                  rw [List.take_length] at hrow
                  have HROW := Lib.hid hrow
                  clear hrow
                  go_wp2_with fail
                  go_meet
                  exact ⟨tt', gone R z3 z2, F', T', by have := gone_len R z3 z2; omega, HP.out.newRow ⟨hord.1, by omega⟩ hbk HROW.out HSPL.out (gone_nodup HTA.out.rnd) (fun t ht => HTA.out.rlt t (gone_sub t ht)), (hbk.block g hglc).trans hbc.out, (hba.trans HKC.out).trans (hbk.mono (by omega))⟩
            -- END C
        case rest =>
          -- CUT R
          as_aux_lemma =>
            obtain ⟨tt, R, F, T, hRi1, hT, hblk, hb⟩ := hcut
            have hord := hT.ord
            have hglc : g < wc.heap.size := (Array.getElem?_eq_some_iff.1 hblk).1
            have hg2' : wc.cell? ⟨g, 2, none⟩ = some (.int .i64 z2) := by simp [World.cell?, hblk]
            have hall := hall_any hT.heap (by omega) z2
            unfold HAllPost at hall
            have HALL := Lib.hid hall
            have HT := Lib.hid hT
            have HBK2 := Lib.hid hblk
            clear hT hblk hall hg0 hg1 hg2 hg3
            go_wp2_with fail
            refine HALL.out.mono ?_
            rintro e wl ⟨va, rfl, hrow, hbl⟩
            obtain ⟨oal, lcap, rfl, hshl⟩ := own_shape hrow
            have hwl2 := hbl.size
            have HSHL := Lib.hid hshl
            have HTL := Lib.hid (HT.out.below hbl)
            have HBKL := Lib.hid ((hbl.block g hglc).trans HBK2.out)
            have hbwl : Below B7 w9 wl := hb.trans (hbl.mono (by omega))
            have hgll : g < wl.heap.size := by omega
            clear hg2' hrow hshl hbl hb
            go_wp2_with fail
            go_loopw [26] (fun vn wr' => HALRel wl c vn wr') (fun vn _ => c - (intOf vn).toNat)
            case atStart => exact ⟨0, rfl, Nat.zero_le _, Below.refl _ _⟩
            case round =>
              obtain ⟨n, rfl, hnc, hbn⟩ := hrel
              have hTn := HTL.out.below hbn
              have hbw : Below B7 w9 wr := hbwl.trans (hbn.mono (by omega))
              have hblkn := (hbn.block g hgll).trans HBKL.out
              have hB0 : b0 < B7 ∧ bm < B7 := by omega
              have k0 := (hbw.cell (p := ⟨b0, 0, none⟩) hB0.1).trans HKM.out.1
              by_cases e : n < c
              · as_aux_lemma =>
                  have cn : (n : Int) < (c : Int) := by omega
                  have cn0 : (0 : Int) ≤ (n : Int) := by omega
                  obtain ⟨gl, rfl, _, hgl3, hcl⟩ := HSHL.out (by omega)
                  have hcell : wr.cell? ⟨gl, n, none⟩ = some (.bool (mayF (F n) m0 z2)) := (hbn.cell (p := ⟨gl, n, none⟩) hgl3).trans ((hcl n e).trans (by simp [e]))
                  have hg2 : wr.cell? ⟨g, 2, none⟩ = some (.int .i64 z2) := by simp [World.cell?, hblkn]
                  have m0c := (hbw.cell (p := ⟨bm, 0, none⟩) hB0.2).trans HKM.out.2.2.1
                  have m1c := (hbw.cell (p := ⟨bm, 1, none⟩) hB0.2).trans HKM.out.2.2.2.1
                  have m2c := (hbw.cell (p := ⟨bm, 2, none⟩) hB0.2).trans HKM.out.2.2.2.2
                  have hr2 := hTn.rh.c2
                  obtain ⟨gr, rcap, rfl, hptr⟩ := hTn.rh.ptr e
                  have hmn := hTn.mns n e
                  have h1 := hfree_yes hTn.heap n e
                  have h2 := fun m => (hTn.rh.drewN m).free hTn.heap.inv e
                  have h3 := fun (w' : World) (hb : Below wr.heap.size wr w') => rmay_all (hTn.rh.below hb) hTn.heap.inv n e z2
                  unfold RMayPost at h3
                  have H4 := Lib.hid (fun (w' : World) (hb : Below wr.heap.size wr w') => may_yes (hTn.below hb).heap n e z2)
                  have H5 := Lib.hid (fun (w' : World) (hb : Below wr.heap.size wr w') => poor_yes (hTn.below hb).heap n e)
                  have H6 := Lib.hid (fun (w' : World) (hb : Below wr.heap.size wr w') => rich_yes (hTn.below hb).heap n e)
                  unfold MayPost at H4
                  obtain ⟨sf, hsf⟩ : ∃ sf, Bu.sumF (F n) 11 = sf := ⟨_, rfl⟩
                  obtain ⟨bv, hbv⟩ : ∃ bv, mayF (F n) m0 z2 = bv := ⟨_, rfl⟩
                  obtain ⟨bp, hbp⟩ : ∃ bp, decide ((sf : Int) < m1) = bp := ⟨_, rfl⟩
                  obtain ⟨br, hbr⟩ : ∃ br, decide (m2 < (sf : Int)) = br := ⟨_, rfl⟩
                  rw [hsf] at hmn h1 h2 H5 H6
                  rw [hbv] at h3 H4 hcell
                  rw [hbp] at H5
                  rw [hbr] at H6
                  have hm1 : decide ((sf : Int) < m0) = false := decide_eq_false (by omega)
                  have H1 := Lib.hid h1
                  have H2 := Lib.hid h2
                  have H3 := Lib.hid h3
                  clear h1 h2 h3 hsf hbv hcl
                  go_wp2_with fail
                  refine H1.out.mono ?_
                  rintro e wq ⟨rfl, rfl⟩
                  go_wp2_with fail
                  have hgln : gl < wr.heap.size := by have := hbn.size; omega
                  have hgn : g < wr.heap.size := by have := hbn.size; omega
                  have hBn : b0 < wr.heap.size ∧ bm < wr.heap.size := by have := hbn.size; omega
                  have hrn : C1 < wr.heap.size := World.block_lt_of_cell? wr _ hr2
                  have hgrn : gr < wr.heap.size := World.block_lt_of_cell? wr _ hptr
                  have CC := Lib.hid (fun (w' : World) (hb : Below wr.heap.size wr w') => And.intro ((hb.cell (p := ⟨b0, 0, none⟩) hBn.1).trans k0) (And.intro ((hb.cell (p := ⟨bm, 0, none⟩) hBn.2).trans m0c) (And.intro ((hb.cell (p := ⟨bm, 1, none⟩) hBn.2).trans m1c) (And.intro ((hb.cell (p := ⟨bm, 2, none⟩) hBn.2).trans m2c) (And.intro ((hb.cell (p := ⟨g, 2, none⟩) hgn).trans hg2) (And.intro ((hb.cell (p := ⟨gl, n, none⟩) hgln).trans hcell) (And.intro ((hb.cell (p := ⟨C1, 2, none⟩) hrn).trans hr2) ((hb.cell (p := ⟨gr, n, none⟩) hgrn).trans hptr))))))))
                  change Code.wp _ (Code.region _ (List.toArray (_ :: _ :: _ :: _ :: _ :: _ :: _ :: _ :: _ :: _ :: _ :: _ :: _ :: _ :: _ :: _ :: _ :: _ :: _ :: _ :: _ :: _ :: _ :: _ :: _ :: _ :: _ :: _ :: _ :: _ :: _ :: _ :: _ :: _ :: _ :: _ :: _ :: _ :: _ :: _ :: _ :: _ :: _ :: _ :: _ :: _ :: _ :: _ :: _ :: _ :: _ :: _ :: _ :: _ :: _ :: _ :: _ :: _ :: _ :: _ :: _ :: _ :: _ :: _ :: _ :: _ :: _ :: _ :: _ :: _ :: _ :: List.nil)) _) _ _ _
                  go_region_held3 (fun u => u.cell? ⟨b0, 0, none⟩ = some (.int .i64 (c : Int)) ∧ u.cell? ⟨bm, 0, none⟩ = some (.int .i64 m0) ∧ u.cell? ⟨bm, 1, none⟩ = some (.int .i64 m1) ∧ u.cell? ⟨bm, 2, none⟩ = some (.int .i64 m2) ∧ u.cell? ⟨g, 2, none⟩ = some (.int .i64 z2) ∧ u.cell? ⟨gl, n, none⟩ = some (.bool bv) ∧ u.cell? ⟨C1, 2, none⟩ = some (.slice (some ⟨gr, 0, none⟩) c rcap) ∧ u.cell? ⟨gr, n, none⟩ = some (.pointer (some ⟨pp n, 0, none⟩)))
                    (first | (go_split_ands; refine ⟨?_, ?_, ?_, ?_, ?_, ?_, ?_, ?_⟩ <;> assumption) | go_keep)
                    (first
                      | (go_at_call 40; refine (H2.out 1).mono ?_; rintro e w2 ⟨rfl, hw2⟩; have HB2 := Lib.hid (show Below wr.heap.size wr w2 by rw [← hw2]; exact drewN_below _ _ _); obtain ⟨x1, x2, x3, x4, x5, x6, x7, x8⟩ := CC.out _ HB2.out; clear hw2)
                      | (go_at_call 66; refine (H3.out _ HB2.out).mono ?_; rintro e w3 ⟨rfl, hb3⟩; have HB3 := Lib.hid (HB2.out.trans (hb3.mono HB2.out.size)); obtain ⟨y1, y2, y3, y4, y5, y6, y7, y8⟩ := CC.out _ HB3.out; clear hb3)
                      | (go_at_call 53; refine (H4.out _ HB3.out).mono ?_; rintro e w4 ⟨rfl, q4, hw4⟩; have HB4 := Lib.hid (show Below wr.heap.size wr w4 by rw [hw4]; exact HB3.out.trans (drewN_below _ _ _)); obtain ⟨v1, v2, v3, v4, v5, v6, v7, v8⟩ := CC.out _ HB4.out; clear hw4)
                      | (go_at_call 60; refine (H5.out _ HB4.out).mono ?_; rintro e wq ⟨rfl, rfl⟩)
                      | (go_at_call 61; refine (H6.out _ HB4.out).mono ?_; rintro e wq ⟨rfl, rfl⟩))
                  go_wp2_with fail
                  go_roundw
                  case rel => exact ⟨n + 1, by go_num, by omega, hbn.trans (HB4.out.mono hbn.size)⟩
                  case measure => simp [intOf]; omega
              · have cn : ¬ (n : Int) < (c : Int) := by omega
                obtain rfl : n = c := by omega
                have HTN := Lib.hid hTn
                clear hTn hblkn
                go_wp2_with fail
                go_roundw
                case rel => exact ⟨i + 1, tt, R, F, T, by go_num, by omega, hRi1, HTN.out, hbw⟩
                case measure => simp [intOf]; omega
          -- END R
      · -- CUT E
        have hcase : (¬ (i : Int) < (len : Int)) ∨ ((i : Int) < (len : Int) ∧ ¬ (i : Int) < 24) := by omega
        clear e HT
        have hB0 : b0 < B7 ∧ bm < B7 := by omega
        have k0 := (hb.cell (p := ⟨b0, 0, none⟩) hB0.1).trans HKM.out.1
        have m0c := (hb.cell (p := ⟨bm, 0, none⟩) hB0.2).trans HKM.out.2.2.1
        have m1c := (hb.cell (p := ⟨bm, 1, none⟩) hB0.2).trans HKM.out.2.2.2.1
        have m2c := (hb.cell (p := ⟨bm, 2, none⟩) hB0.2).trans HKM.out.2.2.2.2
        obtain ⟨oa, tcap, rfl, htcap, hsh⟩ := own_shape2 hT.row
        have hord := hT.ord
        have HF := Lib.hid (hfree_no hT.heap (c : Int) (.inr (Int.le_refl _)))
        have hw := fun m => hwhole_any (hT.heap.drewN m) (by omega)
        unfold HWholePost at hw
        obtain ⟨bw, hbw⟩ : ∃ bw, wholeH F each c = bw := ⟨_, rfl⟩
        have hlw : ((R.length : Int) == 0) = bw := by rw [← hbw]; exact hT.whole
        rw [hbw] at hw
        have HW := Lib.hid hw
        have HTH := Lib.hid hT
        have hmq2 : ∀ w : World, (Op.equalIn 10000 82 (.agg #[.int .i64 m0, .int .i64 m1, .int .i64 m2]) (.agg #[.int .i64 m0, .int .i64 m1, .int .i64 m2])).run Try.prog w = .ok true w := fun w => by rw [marks_eq]; simp
        have hBr : b0 < wr.heap.size ∧ bm < wr.heap.size := by omega
        clear hsh hw hbw hT
        rcases hcase with c1 | ⟨c1, c2⟩
        all_goals
          as_aux_lemma =>
            go_wp2_with fail
            refine HF.out.mono ?_
            rintro e wq ⟨rfl, rfl⟩
            go_wp2_with fail
            go_region_held3 (fun w' => w'.cell? ⟨b0, 0, none⟩ = some (.int .i64 (c : Int)) ∧ w'.cell? ⟨bm, 0, none⟩ = some (.int .i64 m0) ∧ w'.cell? ⟨bm, 1, none⟩ = some (.int .i64 m1) ∧ w'.cell? ⟨bm, 2, none⟩ = some (.int .i64 m2))
              (first | (go_split_ands; refine ⟨?_, ?_, ?_, ?_⟩ <;> assumption) | go_keep)
              (first
                | (go_at_call 57; refine (HW.out 1).mono ?_; rintro e w2 ⟨rfl, q2, hw2⟩; have hb2 : Below wr.heap.size wr w2 := (by rw [hw2]; exact (drewN_below _ _ _).trans (drewN_below _ _ _)); have HB2 := Lib.hid hb2; have k02 := (HB2.out.cell (p := ⟨b0, 0, none⟩) hBr.1).trans k0; have m02 := (HB2.out.cell (p := ⟨bm, 0, none⟩) hBr.2).trans m0c; have m12 := (HB2.out.cell (p := ⟨bm, 1, none⟩) hBr.2).trans m1c; have m22 := (HB2.out.cell (p := ⟨bm, 2, none⟩) hBr.2).trans m2c; clear hw2 hb2)
                | (go_at_call 62; refine (hmarks_any (HTH.out.below HB2.out).heap).mono ?_; rintro e w3 ⟨rfl, hb3⟩; have HB3 := Lib.hid (HB2.out.trans (hb3.mono HB2.out.size)); have k03 := (HB3.out.cell (p := ⟨b0, 0, none⟩) hBr.1).trans k0; have m03 := (HB3.out.cell (p := ⟨bm, 0, none⟩) hBr.2).trans m0c; have m13 := (HB3.out.cell (p := ⟨bm, 1, none⟩) hBr.2).trans m1c; have m23 := (HB3.out.cell (p := ⟨bm, 2, none⟩) hBr.2).trans m2c; clear hb3)
                | (go_at_call 60; refine (poor_no (HTH.out.below HB3.out).heap (-1) (.inl (by decide))).mono ?_; rintro e wq ⟨rfl, rfl⟩)
                | (go_at_call 61; refine (rich_no (HTH.out.below HB3.out).heap (c : Int) (.inr (Int.le_refl _))).mono ?_; rintro e wq ⟨rfl, rfl⟩)
                | (go_at_call 53; refine (may_no (HTH.out.below HB3.out).heap (c : Int) 0 (.inr (Int.le_refl _))).mono ?_; rintro e w4 ⟨rfl, q4, hw4⟩; have hb4 : Below wr.heap.size wr w4 := (by rw [hw4]; exact HB3.out.trans (drewN_below _ _ _)); have HB4 := Lib.hid hb4; have k04 := (HB4.out.cell (p := ⟨b0, 0, none⟩) hBr.1).trans k0; have m04 := (HB4.out.cell (p := ⟨bm, 0, none⟩) hBr.2).trans m0c; have m14 := (HB4.out.cell (p := ⟨bm, 1, none⟩) hBr.2).trans m1c; have m24 := (HB4.out.cell (p := ⟨bm, 2, none⟩) hBr.2).trans m2c; clear hw4 hb4))
            go_wp2_with fail
            go_ret
            exact ⟨rfl, (HB10.out.trans (hb.mono hwB)).trans (HB4.out.mono (by omega))⟩
        -- END E
  · have k0' := (hb8.cell (p := ⟨b0, 0, none⟩) hl7.1).trans k0
    have k1' := (hb8.cell (p := ⟨b0, 1, none⟩) hl7.1).trans k1
    have m0' := (hb8.cell (p := ⟨bm, 0, none⟩) hl7.2).trans m0c
    have m1' := (hb8.cell (p := ⟨bm, 1, none⟩) hl7.2).trans m1c
    have m2' := (hb8.cell (p := ⟨bm, 2, none⟩) hl7.2).trans m2c
    have hb9 := hb07.trans (hb8.mono hb07.size)
    clear k0 k1 m0c m1c m2c hb8 hb07
    by_cases g1 : m0 < 0
    · go_wp2_with fail
      go_ret
      exact ⟨rfl, hb9⟩
    · by_cases g2 : m1 < m0
      · go_wp2_with fail
        go_ret
        exact ⟨rfl, hb9⟩
      · by_cases g3 : m2 < m1
        · go_wp2_with fail
          go_ret
          exact ⟨rfl, hb9⟩
        · have g4 : (each : Int) < m2 := by omega
          go_wp2_with fail
          go_ret
          exact ⟨rfl, hb9⟩
end Go.Proofs.Ytikahcbkeempdaa
