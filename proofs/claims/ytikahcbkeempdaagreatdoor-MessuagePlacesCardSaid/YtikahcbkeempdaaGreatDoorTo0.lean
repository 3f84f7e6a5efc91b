/- grid: New, at, Put, Same, Turned walked. -/
import Derived.Test.YtikahcbkeempdaaGreatDoorPl0
import Derived.Test.YtikahcbkeempdaaGreatDoorShelf3
import Derived.Deep.QuietTactic
import Derived.BigQuiet
import Derived.StillTailTactics
namespace Go.Proofs.YtikahcbkeempdaaGreatDoor
open Go.RowKit Go.Maps

def gridCells (m : Nat) (f : Nat → Nat) : List Value := (List.range m).map fun i => Value.int .i64 (f i : Int)
theorem gridCells_set (m : Nat) (f : Nat → Nat) {x v : Nat} : (gridCells m f).toArray.setIfInBounds x (.int .i64 (v : Int)) = (gridCells m (fun y => if y = x then v else f y)).toArray := by
  apply Array.ext
  · simp [gridCells]
  · intro i h1 h2
    rw [Array.getElem_setIfInBounds (by simpa [gridCells] using h1)]
    by_cases e : x = i
    · subst e; simp [gridCells]
    · simp [gridCells, e, Ne.symm e]

/-- Block gp is a table of n rows and columns; its numbers, f, are block ab. -/
structure GridAt (w : World) (gp ab n : Nat) (f : Nat → Nat) : Prop where
  blk : w.heap[gp]? = some (.cells #[.int .i64 (n : Int), .int .i64 (n : Int), .slice (some ⟨ab, 0, none⟩) (n * n) (n * n)] 109 (0, 0))
  all : w.heap[ab]? = some (.cells (gridCells (n * n) f).toArray 3 (0, 0))
  ne : gp ≠ ab

section
variable {w w' : World} {gp ab n : Nat} {f : Nat → Nat}
theorem GridAt.c0 (h : GridAt w gp ab n f) : w.cell? ⟨gp, 0, none⟩ = some (.int .i64 (n : Int)) := by simp [World.cell?, h.blk]
theorem GridAt.c1 (h : GridAt w gp ab n f) : w.cell? ⟨gp, 1, none⟩ = some (.int .i64 (n : Int)) := by simp [World.cell?, h.blk]
theorem GridAt.c2 (h : GridAt w gp ab n f) : w.cell? ⟨gp, 2, none⟩ = some (.slice (some ⟨ab, 0, none⟩) (n * n) (n * n)) := by simp [World.cell?, h.blk]
theorem GridAt.at (h : GridAt w gp ab n f) {i : Nat} (hi : i < n * n) : w.cell? ⟨ab, i, none⟩ = some (.int .i64 (f i : Int)) := by simp [World.cell?, h.all, gridCells, hi]
theorem GridAt.fr (h : GridAt w gp ab n f) (i : Nat) : w.frozen? ⟨ab, i, none⟩ = false := by simp [World.frozen?, h.all]
theorem GridAt.lt (h : GridAt w gp ab n f) : gp < w.heap.size ∧ ab < w.heap.size := ⟨(Array.getElem?_eq_some_iff.1 h.blk).1, (Array.getElem?_eq_some_iff.1 h.all).1⟩
theorem GridAt.below (h : GridAt w gp ab n f) (b : Below w.heap.size w w') : GridAt w' gp ab n f := ⟨(b.block _ h.lt.1).trans h.blk, (b.block _ h.lt.2).trans h.all, h.ne⟩
theorem GridAt.drewN (h : GridAt w gp ab n f) (m : Nat) : GridAt (w.drewN m) gp ab n f := h.below (drewN_below _ _ _)
theorem GridAt.set (h : GridAt w gp ab n f) (x v : Nat) : GridAt (w.setCell ⟨ab, x, none⟩ (.int .i64 (v : Int))) gp ab n (fun y => if y = x then v else f y) := by
  refine ⟨(Below.heap_setCell _ _ _ _ h.ne).trans h.blk, ?_, h.ne⟩
  simp only [World.setCell, Array.getElem?_modify, h.all, if_true, Option.map_some]
  rw [← gridCells_set]
  simp
theorem GridAt.congr (h : GridAt w gp ab n f) {f' : Nat → Nat} (e : ∀ i, i < n * n → f i = f' i) : GridAt w gp ab n f' := by
  refine ⟨h.blk, ?_, h.ne⟩
  have : gridCells (n * n) f' = gridCells (n * n) f := by
    unfold gridCells
    exact List.map_congr_left fun x hx => by rw [e x (List.mem_range.1 hx)]
  rw [this]; exact h.all

theorem mk_ints (m : Nat) (h2 : m ≤ 1024) (w : World) : (Instr.makeSlice 23 (.int .i64 (m : Int)) (.int .i64 (m : Int))).run Tryz.prog w = .ok (.slice (some ⟨w.heap.size, 0, none⟩) m m) (w.alloc (.cells (gridCells m (fun _ => 0)).toArray 3)) := by
  obtain ⟨i0, hi, hz0, hz1, hz2⟩ := info_parts infoI
  have hmk := run_makeSlice (P := Tryz.prog) (w := w) 23 3 i0 (.int .i64 0) Tryz.underlying23 hi hz0
  have hmk := hmk .i64 .i64 m m (by omega) (by omega) (by rw [hz1]; omega) (by rw [hz2]; omega) (by omega)
  have hcl : madeCells (Value.int .i64 0).cells ((m : Int).toNat * i0.size) = (gridCells m (fun _ => 0)).toArray := by
    rw [hz1, Nat.mul_one, Int.toNat_natCast]
    apply Array.ext
    · simp [madeCells, gridCells]
    · intro i g1 g2
      simp [madeCells, gridCells, Value.cells, Nat.mod_one]
  rw [hcl, Int.toNat_natCast] at hmk
  exact hmk

theorem wrap_mul {a b : Nat} (h : a * b ≤ 1024) : IntKind.i64.wrap ((a : Int) * (b : Int)) = ((a * b : Nat) : Int) := by rw [← Int.natCast_mul]; exact IntWalk.i64_in _ (by omega)
theorem wrap_add {a b : Nat} (h : a + b ≤ 1024) : IntKind.i64.wrap ((a : Int) + (b : Int)) = ((a + b : Nat) : Int) := by rw [← Int.natCast_add]; exact IntWalk.i64_in _ (by omega)

set_option maxHeartbeats 1000000 in
theorem gnew_any (n : Nat) (hn : n ≤ 6) (w : World) : Calls Tryz.prog 56 #[.int .i64 (n : Int), .int .i64 (n : Int)] w fun e w' => e = .returned (.tuple #[.pointer (some ⟨w.heap.size + 1, 0, none⟩), .int .i64 0]) ∧ GridAt w' (w.heap.size + 1) w.heap.size n (fun _ => 0) ∧ Below w.heap.size w w' := by
  have c0 : ¬ (n : Int) < 0 := by omega
  have c64 : ¬ (64 : Int) < (n : Int) := by omega
  have hm : n * n ≤ 36 := Nat.mul_le_mul hn hn
  have hw := wrap_mul (a := n) (b := n) (by omega)
  have hmk := fun w => mk_ints (n * n) (by omega) w
  obtain ⟨N, hN⟩ : ∃ N, n * n = N := ⟨_, rfl⟩
  have H : ∀ (c : Nat), GridAt ((w.alloc (.cells (gridCells N (fun _ => 0)).toArray 3)).alloc (.cells #[.int .i64 (n : Int), .int .i64 (n : Int), .slice (some ⟨w.heap.size, 0, none⟩) N N] 109)) (w.heap.size + 1) w.heap.size n (fun _ => 0) := fun _ => by
    refine ⟨?_, ?_, by omega⟩
    · have := heap_alloc_new (w.alloc (.cells (gridCells N (fun _ => 0)).toArray 3)) (.cells #[.int .i64 (n : Int), .int .i64 (n : Int), .slice (some ⟨w.heap.size, 0, none⟩) N N] 109)
      rw [World.size_alloc] at this
      rw [hN]
      exact this
    · rw [hN]
      exact (Below.heap_alloc _ _ _ (by simp)).trans (heap_alloc_new w _)
  rw [hN] at hw hmk
  have HH := Lib.hid H
  clear H hN
  go_enter Tryz.func56, Tryz.ntmps56
  go_wp2_with fail
  go_ret2
  exact ⟨rfl, HH.out 0, ((Below.refl _ _).alloc (Nat.le_refl _) _).alloc (by simp) _⟩

set_option maxHeartbeats 1000000 in
theorem gat_any (h : GridAt w gp ab n f) (hn : n ≤ 6) (a b : Nat) (ha : a < n) (hb : b < n) : Calls Tryz.prog 68 #[.pointer (some ⟨gp, 0, none⟩), .int .i64 (a : Int), .int .i64 (b : Int)] w fun e w' => e = .returned (.tuple #[.int .i64 ((a * n + b : Nat) : Int), .int .i64 0]) ∧ w = w' := by
  have h0 := h.c0
  have h1 := h.c1
  have a0 : ¬ (a : Int) < 0 := by omega
  have a1 : ¬ (n : Int) ≤ (a : Int) := by omega
  have b0 : ¬ (b : Int) < 0 := by omega
  have b1 : ¬ (n : Int) ≤ (b : Int) := by omega
  have hm : a * n ≤ 6 * 6 := Nat.mul_le_mul (by omega) hn
  have hw := wrap_mul (a := a) (b := n) (by omega)
  have hw2 := wrap_add (a := a * n) (b := b) (by omega)
  clear h
  go_enter Tryz.func68, Tryz.ntmps68
  go_wp2_with fail
  go_ret2
  exact ⟨rfl, rfl⟩

set_option maxHeartbeats 1000000 in
theorem gput_any (h : GridAt w gp ab n f) (hn : n ≤ 6) (a b x : Nat) (ha : a < n) (hb : b < n) : Calls Tryz.prog 57 #[.pointer (some ⟨gp, 0, none⟩), .int .i64 (a : Int), .int .i64 (b : Int), .int .i64 (x : Int)] w fun e w' => e = .returned (.int .i64 0) ∧ w' = w.setCell ⟨ab, a * n + b, none⟩ (.int .i64 (x : Int)) := by
  have h2 := h.c2
  have hlt : a * n + b < n * n := by
    have : (a + 1) * n ≤ n * n := Nat.mul_le_mul_right _ (by omega)
    rw [Nat.add_mul, Nat.one_mul] at this
    omega
  have hf := h.fr (a * n + b)
  have hc := h.at hlt
  have HA := Lib.hid (gat_any h hn a b ha hb)
  obtain ⟨I, hI⟩ : ∃ I, a * n + b = I := ⟨_, rfl⟩
  obtain ⟨N, hN⟩ : ∃ N, n * n = N := ⟨_, rfl⟩
  rw [hI] at HA hf hc hlt
  rw [hN] at h2 hlt
  rw [hI]
  have i1 : (I : Int) < (N : Int) := by omega
  have i0 : (0 : Int) ≤ (I : Int) := by omega
  clear h hI hN
  go_enter Tryz.func57, Tryz.ntmps57
  go_wp2_with fail
  refine HA.out.mono ?_
  rintro e w1 ⟨rfl, rfl⟩
  go_wp2_with fail
  go_ret
  exact ⟨rfl, rfl⟩

set_option maxHeartbeats 1000000 in
theorem gsame_any {g1 a1 g2 a2 : Nat} {f' : Nat → Nat} (h : GridAt w g1 a1 n f) (h' : GridAt w g2 a2 n f') (hn : n ≤ 6) (he : ∀ i, i < n * n → f i = f' i) :
    Calls Tryz.prog 45 #[.pointer (some ⟨g1, 0, none⟩), .pointer (some ⟨g2, 0, none⟩)] w fun e w' => e = .returned (.bool true) ∧ ∃ q, w' = w.drewN q := by
  have p0 := h.c0
  have p1 := h.c1
  have p2 := h.c2
  have q0 := h'.c0
  have q1 := h'.c1
  have q2 := h'.c2
  have hm : n * n ≤ 36 := Nat.mul_le_mul hn hn
  have hE := fun m => Tryz.slices_Equal_int a1 0 (n * n) (n * n) a2 0 (n * n) (n * n) ((List.range (n * n)).map fun i => ((f i : Nat) : Int)) ((List.range (n * n)).map fun i => ((f' i : Nat) : Int)) (w.drewN m) (by simp) (by simp) (by omega) (by omega)
    (fun j hj => by
      have hj' : j < n * n := by simpa using hj
      rw [Nat.zero_add]
      exact ((h.drewN m).at hj').trans (by simp [hj']))
    (fun j hj => by
      have hj' : j < n * n := by simpa using hj
      rw [Nat.zero_add]
      exact ((h'.drewN m).at hj').trans (by simp [hj']))
  have hl : ((List.range (n * n)).map fun i => ((f i : Nat) : Int)) = ((List.range (n * n)).map fun i => ((f' i : Nat) : Int)) := List.map_congr_left fun i hi => by rw [he i (List.mem_range.1 hi)]
  rw [hl] at hE
  simp only [beq_self_eq_true] at hE
  obtain ⟨N, hN⟩ : ∃ N, n * n = N := ⟨_, rfl⟩
  rw [hN] at p2 q2 hE
  have HE := Lib.hid hE
  clear hE hl h h' he hN hm
  go_enter Tryz.func45, Tryz.ntmps45
  go_wp2_with fail
  go_quiet ((go_at_call 58; exact Calls.quiet_of (HE.out _)))
  go_wp2_with fail
  go_ret
  exact ⟨rfl, _, rfl⟩
end
end Go.Proofs.YtikahcbkeempdaaGreatDoor
