/- For BuddyWhole: a buddy, a row of marks and a slice of the runs taken. -/
import Derived.Test.YtikahcbkeempdaaTwin
import Derived.Test.YtikahcbkeempdaaLwLow
import Derived.Test.YtikahcbkeempdaaRows0
namespace Go.Proofs.Ytikahcbkeempdaa
open Go.RowKit Go.Maps

structure WhAt (w : World) (b n ub C : Nat) (v : Value) (U : Nat → Bool) (F : Nat → List Nat) (T S : List (Nat × Nat)) : Prop where
  bud : Bud w b n F T
  usd : w.heap[ub]? = some (.cells (usedCells n U).toArray 4 (0, 0))
  tak : w.ownsRow C 51 2 v S.length (takCells S)
  lt : b + 12 < ub ∧ ub < C ∧ C ≤ w.heap.size

theorem WhAt.below {w w' : World} {b n ub C : Nat} {v U F T S} (h : WhAt w b n ub C v U F T S) (k : Below w.heap.size w w') : WhAt w' b n ub C v U F T S :=
  ⟨h.bud.same fun i _ hi => k.block i (by have := h.lt; omega), (k.block ub (by have := h.lt; omega)).trans h.usd, ownsRow_same h.tak fun g hg => k.block g (h.tak.lt g hg).2, h.lt.1, h.lt.2.1, Nat.le_trans h.lt.2.2 k.size⟩
theorem WhAt.cu {w : World} {b n ub C : Nat} {v U F T S} (h : WhAt w b n ub C v U F T S) {x : Nat} (hx : x < n) : w.cell? ⟨ub, x, none⟩ = some (.bool (U x)) := by
  simp [World.cell?, h.usd, usedCells, hx]
theorem WhAt.fu {w : World} {b n ub C : Nat} {v U F T S} (h : WhAt w b n ub C v U F T S) (o : Nat) : w.frozen? ⟨ub, o, none⟩ = false := by simp [World.frozen?, h.usd]
theorem WhAt.setUsed {w : World} {b n ub C : Nat} {v U F T S} (h : WhAt w b n ub C v U F T S) (x : Nat) (bv : Bool) : WhAt (w.setCell ⟨ub, x, none⟩ (.bool bv)) b n ub C v (fun y => if y = x then bv else U y) F T S := by
  obtain ⟨l1, l2, l3⟩ := h.lt
  refine ⟨h.bud.same fun i h1 h2 => Below.heap_setCell _ _ _ _ (by show i ≠ ub; omega), ?_, ownsRow_same h.tak fun g hg => Below.heap_setCell _ _ _ _ (by show g ≠ ub; have := (h.tak.lt g hg).1; omega), l1, l2, by simpa [World.setCell] using l3⟩
  simp only [World.setCell, Array.getElem?_modify, h.usd, if_true, Option.map_some]
  rw [← usedCells_set]
  simp
theorem WhAt.congr {w : World} {b n ub C : Nat} {v U U' F T S} (h : WhAt w b n ub C v U F T S) (e : ∀ x, x < n → U x = U' x) : WhAt w b n ub C v U' F T S := by
  refine ⟨h.bud, ?_, h.tak, h.lt⟩
  have : usedCells n U' = usedCells n U := by
    unfold usedCells
    exact List.map_congr_left fun x hx => by rw [e x (List.mem_range.1 hx)]
  rw [this]; exact h.usd
theorem WhAt.kept {w w' : World} {b n ub C : Nat} {v U F F' T T' S} (h : WhAt w b n ub C v U F T S) (hB : Bud w' b n F' T') (k : Kept b (b + 13) w w') : WhAt w' b n ub C v U F' T' S := by
  obtain ⟨l1, l2, l3⟩ := h.lt
  exact ⟨hB, (k.block ub (by omega) (by omega)).trans h.usd, ownsRow_same h.tak fun g hg => k.block g (h.tak.lt g hg).2 (by have := (h.tak.lt g hg).1; omega), l1, l2, Nat.le_trans l3 k.size⟩
theorem WhAt.app {w w' : World} {b n ub C : Nat} {v v' U F T S S'} {o : Obj} (h : WhAt w b n ub C v U F T S) (hg : (w.alloc o).grownBy w' v.ownBlock) (hown : w'.ownsRow C 51 2 v' S'.length (takCells S')) : WhAt w' b n ub C v' U F T S' := by
  obtain ⟨l1, l2, l3⟩ := h.lt
  have hb : ∀ i, i < C → w'.heap[i]? = w.heap[i]? := fun i hi => (hg.block i (by simp; omega) fun e => by have := (h.tak.lt i e.symm).1; omega).trans (Below.heap_alloc _ _ _ (by omega))
  exact ⟨h.bud.same fun i _ hi => hb i (by omega), (hb ub l2).trans h.usd, hown, l1, l2, by have := hg.size; simp at this; omega⟩
theorem WhAt.appBelow {w w' : World} {b n ub C B : Nat} {v U F T S} {o : Obj} (h : WhAt w b n ub C v U F T S) (hg : (w.alloc o).grownBy w' v.ownBlock) (hB : B ≤ C) : Below B w w' :=
  ⟨hg.os, hg.tape, hg.output, by have := hg.size; simp at this; omega, fun i hi => (hg.block i (by simp; have := h.lt; omega) fun e => by have := (h.tak.lt i e.symm).1; omega).trans (Below.heap_alloc _ _ _ (by have := h.lt; omega))⟩

theorem WhAt.newS {w w' : World} {b n ub C : Nat} {v v' U F T S S'} (h : WhAt w b n ub C v U F T S) (hB : Below w.heap.size w w') (hown : w'.ownsRow w.heap.size 51 2 v' S'.length (takCells S')) : WhAt w' b n ub C v' U F T S' := by
  obtain ⟨l1, l2, l3⟩ := h.lt
  exact ⟨h.bud.same fun i _ hi => hB.block i (by omega), (hB.block ub (by omega)).trans h.usd, hown.mono l3, l1, l2, Nat.le_trans l3 hB.size⟩

theorem mk_bools (n : Nat) (h2 : n ≤ 1024) (w : World) : (Instr.makeSlice 49 (.int .i64 (n : Int)) (.int .i64 (n : Int))).run Try.prog w = .ok (.slice (some ⟨w.heap.size, 0, none⟩) n n) (w.alloc (.cells (usedCells n (Bu.used [])).toArray 4)) := by
  obtain ⟨i0, hi, hz0, hz1, hz2⟩ := info_parts infoB
  have hmk := run_makeSlice (P := Try.prog) (w := w) 49 4 i0 (.bool false) Try.underlying49 hi hz0
  have hmk := hmk .i64 .i64 n n (by omega) (by omega) (by rw [hz1]; omega) (by rw [hz2]; omega) (by omega)
  have hcl : madeCells (Value.bool false).cells ((n : Int).toNat * i0.size) = (usedCells n (Bu.used [])).toArray := by
    rw [hz1, Nat.mul_one, Int.toNat_natCast]
    apply Array.ext
    · simp [madeCells, usedCells]
    · intro i g1 g2
      simp [madeCells, usedCells, Value.cells, Bu.used, Nat.mod_one]
  rw [hcl, Int.toNat_natCast] at hmk
  exact hmk

end Go.Proofs.Ytikahcbkeempdaa
