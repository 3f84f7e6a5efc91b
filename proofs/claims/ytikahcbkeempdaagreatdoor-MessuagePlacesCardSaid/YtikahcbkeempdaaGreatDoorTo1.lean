/- grid: Turned walked; topo: counts, table, matrix, Check walked. -/
import Derived.Test.YtikahcbkeempdaaGreatDoorTo0
import Derived.Deep.RegionHeld3
namespace Go.Proofs.YtikahcbkeempdaaGreatDoor
open Go.RowKit Go.Maps

theorem divAt {n i x : Nat} (h : x < n) : (i * n + x) / n = i := by rw [Nat.mul_comm, Nat.mul_add_div (by omega), Nat.div_eq_of_lt h]; omega
theorem modAt {n i x : Nat} (h : x < n) : (i * n + x) % n = x := by rw [Nat.mul_comm, Nat.mul_add_mod, Nat.mod_eq_of_lt h]
/-- What Turned has done when k places are turned. -/
def turnedTo (n k : Nat) (f f' : Nat → Nat) : Prop := ∀ i, i < k → f' (i % n * n + i / n) = f i
theorem turnedTo.step {n k : Nat} {f f' : Nat → Nat} (h : turnedTo n k f f') (hk : k < n * n) : turnedTo n (k + 1) f (fun y => if y = k % n * n + k / n then f k else f' y) := by
  intro i hi
  show (if i % n * n + i / n = k % n * n + k / n then f k else f' (i % n * n + i / n)) = f i
  by_cases e : i = k
  · subst e; rw [if_pos rfl]
  · rw [if_neg ?_]
    · exact h i (by omega)
    · intro e2
      have d1 : i / n < n := Nat.div_lt_of_lt_mul (by omega)
      have d2 : k / n < n := Nat.div_lt_of_lt_mul hk
      have m1 : (i % n * n + i / n) / n = i % n := divAt d1
      have m2 : (k % n * n + k / n) / n = k % n := divAt d2
      have r1 : (i % n * n + i / n) % n = i / n := modAt d1
      have r2 : (k % n * n + k / n) % n = k / n := modAt d2
      rw [e2, m2] at m1
      rw [e2, r2] at r1
      have := Nat.div_add_mod i n
      have := Nat.div_add_mod k n
      rw [m1, r1] at *
      omega
def TurnRel (w : World) (n gp ab : Nat) (f : Nat → Nat) (vi : Value) (wr : World) : Prop :=
  ∃ (i : Nat) (f' : Nat → Nat), vi = .int .i64 (i : Int) ∧ i ≤ n * n ∧ turnedTo n i f f' ∧ GridAt wr gp ab n f ∧ GridAt wr (w.heap.size + 1) w.heap.size n f' ∧ Below w.heap.size w wr
def TurnPost (w : World) (n : Nat) (f : Nat → Nat) (e : Ending) (w' : World) : Prop :=
  e = .returned (.pointer (some ⟨w.heap.size + 1, 0, none⟩)) ∧ Below w.heap.size w w' ∧ ∃ f', GridAt w' (w.heap.size + 1) w.heap.size n f' ∧ turnedTo n (n * n) f f'

section
variable {w w' : World} {gp ab n : Nat} {f : Nat → Nat}
set_option maxRecDepth 100000 in
set_option maxHeartbeats 1000000 in
theorem gturned_any (h : GridAt w gp ab n f) (h1 : 1 ≤ n) (hn : n ≤ 6) : Calls Tryz.prog 46 #[.pointer (some ⟨gp, 0, none⟩)] w (TurnPost w n f) := by
  have c0 := h.c0
  have c1 := h.c1
  have c2 := h.c2
  have hm : n * n ≤ 36 := Nat.mul_le_mul hn hn
  have hmk := fun w => mk_ints (n * n) (by omega) w
  obtain ⟨N, hN⟩ : ∃ N, n * n = N := ⟨_, rfl⟩
  rw [hN] at c2 hmk hm
  have H := Lib.hid h
  have HN := Lib.hid hN
  clear h hN
  go_enter Tryz.func46, Tryz.ntmps46
  go_wp2_with fail
  have n0 := World.new_ne w _ c0
  have n1 := World.new_ne w _ c1
  have n2 := World.new_ne w _ c2
  go_region_held3 (fun u => u.cell? ⟨gp, 0, none⟩ = some (.int .i64 (n : Int)) ∧ u.cell? ⟨gp, 1, none⟩ = some (.int .i64 (n : Int)) ∧ u.cell? ⟨gp, 2, none⟩ = some (.slice (some ⟨ab, 0, none⟩) N N)) (go_keep) (fail)
  go_upto_region 4 with (fail)
  obtain ⟨w1, hw1⟩ : ∃ w1, ((w.alloc (.cells (gridCells N fun _ => 0).toArray 3)).alloc (.cells #[.int .i64 (n : Int), .int .i64 (n : Int), .slice (some ⟨w.heap.size, 0, none⟩) N N] 109)).drew = w1 := ⟨_, rfl⟩
  have hb1 : Below w.heap.size w w1 := by rw [← hw1]; exact (((Below.refl _ _).alloc (Nat.le_refl _) _).alloc (by simp) _).trans (drewN_below _ 1 _)
  have hG1 := H.out.below hb1
  have hG2 : GridAt w1 (w.heap.size + 1) w.heap.size n (fun _ => 0) := by
    rw [← hw1]
    refine ⟨?_, ?_, by omega⟩
    · have := heap_alloc_new (w.alloc (.cells (gridCells N (fun _ => 0)).toArray 3)) (.cells #[.int .i64 (n : Int), .int .i64 (n : Int), .slice (some ⟨w.heap.size, 0, none⟩) N N] 109)
      rw [World.size_alloc] at this
      rw [HN.out]
      exact this
    · rw [HN.out]
      exact (Below.heap_alloc _ _ _ (by simp)).trans (heap_alloc_new w _)
  rw [hw1]
  have c2 := hG1.c2
  rw [HN.out] at c2
  have HG := Lib.hid (And.intro hG1 hG2)
  clear hw1 c0 c1 hmk hG1 hG2 n0 n1 n2
  go_wp2_with fail
  go_loopw [29] (fun vi wr => TurnRel w n gp ab f vi wr) (fun vi _ => N - (intOf vi).toNat)
  case atStart => exact ⟨0, _, rfl, Nat.zero_le _, (fun i hi => absurd hi (by omega)), HG.out.1, HG.out.2, hb1⟩
  case round =>
    clear HG hb1 c2
    obtain ⟨i, f', rfl, hi, ht, hg1, hg2, hb⟩ := hrel
    rw [HN.out] at hi
    by_cases e : i < N
    · have ci : (i : Int) < (N : Int) := by omega
      have ci0 : (0 : Int) ≤ (i : Int) := by omega
      have hx := hg1.at (i := i) (by rw [HN.out]; exact e)
      have p0 := hg1.c0
      have p1 := hg1.c1
      have q2 := hg2.c2
      rw [HN.out] at q2
      have hin : i < n * n := by rw [HN.out]; exact e
      have hst := ht.step hin
      obtain ⟨I, hI⟩ : ∃ I, i % n * n + i / n = I := ⟨_, rfl⟩
      have hIN : I < N := by
        have d1 : i / n < n := Nat.div_lt_of_lt_mul hin
        have m1 : i % n < n := Nat.mod_lt _ (by omega)
        have : (i % n + 1) * n ≤ n * n := Nat.mul_le_mul_right _ (by omega)
        rw [Nat.add_mul, Nat.one_mul] at this
        have := HN.out
        omega
      rw [hI] at hst
      have hfr := hg2.fr I
      have hcI := hg2.at (i := I) (by rw [HN.out]; exact hIN)
      have e0 : ((n : Int) == 0) = false := by rw [beq_eq_false_iff_ne]; omega
      have e1 : ¬ (n : Int) = 0 := by omega
      have e2 : ¬ n = 0 := by omega
      obtain ⟨q, hq⟩ : ∃ q, i / n = q := ⟨_, rfl⟩
      obtain ⟨r, hr⟩ : ∃ r, i % n = r := ⟨_, rfl⟩
      have hqi : (i : Int).tdiv (n : Int) = (q : Int) := by rw [Int.tdiv_eq_ediv_of_nonneg (by omega), ← Int.natCast_ediv, hq]
      have hri : (i : Int).tmod (n : Int) = (r : Int) := by rw [Int.tmod_eq_emod_of_nonneg (by omega), ← Int.natCast_emod, hr]
      rw [hq, hr] at hI
      have hr6 : r < n := by rw [← hr]; exact Nat.mod_lt _ (by omega)
      have hq6 : q ≤ 36 := by rw [← hq]; exact Nat.le_trans (Nat.div_le_self _ _) (by omega)
      have hrn : r * n ≤ 6 * 6 := Nat.mul_le_mul (by omega) hn
      have w1' : IntKind.i64.wrap ((r : Int) * (n : Int)) = ((r * n : Nat) : Int) := wrap_mul (by omega)
      have w2' : IntKind.i64.wrap (((r * n : Nat) : Int) + (q : Int)) = (I : Int) := by rw [wrap_add (by omega), hI]
      generalize r * n = P at w1' w2' hI hrn
      have wq' : IntKind.i64.wrap (q : Int) = (q : Int) := IntWalk.i64_in _ (by omega)
      have wr' : IntKind.i64.wrap (r : Int) = (r : Int) := IntWalk.i64_in _ (by omega)
      have i0 : (0 : Int) ≤ (I : Int) := by omega
      have i1 : (I : Int) < (N : Int) := by omega
      obtain ⟨x, hx'⟩ : ∃ x, f i = x := ⟨_, rfl⟩
      rw [hx'] at hx hst
      have HST := Lib.hid hst
      have HG := Lib.hid (And.intro hg1 hg2)
      have HB := Lib.hid hb
      have hne : gp ≠ w.heap.size := by have := H.out.lt; omega
      have HNE := Lib.hid hne
      clear hst hg1 hg2 hb ht hI hq hr hx' hne
      go_wp2_with fail
      go_still_tail 24, (by kernel_rfl)
      change wpList _ _ _ _ _ wr.drew
      go_wp2_with fail
      go_roundw
      case rel =>
        have g1 := HG.out.1.drewN 1
        have g2 := (HG.out.2.drewN 1).set I x
        exact ⟨i + 1, _, by go_num, by rw [HN.out]; omega, HST.out, ⟨(Below.heap_setCell _ _ _ _ HNE.out).trans g1.blk, (Below.heap_setCell _ _ _ _ (by have := H.out.lt; show ab ≠ w.heap.size; omega)).trans g1.all, g1.ne⟩, g2, (HB.out.trans (drewN_below _ 1 _)).setCell (p := ⟨w.heap.size, I, none⟩) (Nat.le_refl _) _⟩
      case measure => simp [intOf]; omega
    · have ci : ¬ (i : Int) < (N : Int) := by omega
      have hiN : i = n * n := by have := HN.out; omega
      rw [hiN] at ht
      have HT := Lib.hid ht
      have HG := Lib.hid hg2
      clear ht hg1 hg2 hiN
      go_wp2_with fail
      go_ret
      exact ⟨rfl, hb, f', HG.out, HT.out⟩
end
end Go.Proofs.YtikahcbkeempdaaGreatDoor
