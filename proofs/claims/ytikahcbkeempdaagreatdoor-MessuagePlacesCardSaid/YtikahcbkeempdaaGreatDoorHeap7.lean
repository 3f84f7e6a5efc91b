/- messuagelaw09: heaps. -/
import Derived.Test.YtikahcbkeempdaaGreatDoorHeap6
namespace Go.Proofs.YtikahcbkeempdaaGreatDoor
open Go.RowKit Go.Maps

theorem HeapAt.congr {w : World} {hp each c : Nat} {mn lo hi : Int} {nv : Value} {bb : Nat → Nat} {F F' : Nat → Nat → List Nat} {T T' : Nat → List (Nat × Nat)} (h : HeapAt w hp each mn lo hi c nv bb F T) (hF : ∀ j, j < c → F j = F' j) (hT : ∀ j, j < c → T j = T' j) :
    HeapAt w hp each mn lo hi c nv bb F' T' :=
  ⟨h.blk, h.own, fun j hj => by rw [← hF j hj, ← hT j hj]; exact h.bud j hj, fun j hj => by rw [← hF j hj, ← hT j hj]; exact h.inv j hj, h.off, h.apart, h.nvp⟩

theorem HNewPost.ok {w : World} {each : Nat} {mn lo hi : Int} {c : Nat} {e : Ending} {w' : World} (h : HNewPost w each mn lo hi c e w') (hm : 0 ≤ mn ∧ mn ≤ lo ∧ lo ≤ hi ∧ hi ≤ (each : Int)) : HNewOk w each mn lo hi c e w' := by
  rcases h with ⟨_, h⟩ | ⟨h, _⟩
  · exact h
  · exact absurd hm h
theorem HNewPost.bad {w : World} {each : Nat} {mn lo hi : Int} {c : Nat} {e : Ending} {w' : World} (h : HNewPost w each mn lo hi c e w') (hm : ¬ (0 ≤ mn ∧ mn ≤ lo ∧ lo ≤ hi ∧ hi ≤ (each : Int))) : e = .returned (.tuple #[.pointer none, .int .i64 1]) ∧ Below w.heap.size w w' := by
  rcases h with ⟨h, _⟩ | ⟨_, h⟩
  · exact absurd h hm
  · exact h

theorem marks_high (a b c : Int) : ∀ w : World, (Instr.field 36 (.agg #[.int .i64 a, .int .i64 b, .int .i64 c]) 2).run Tryz.prog w = .ok (.int .i64 c) w := fun _ => by kernel_rfl


end Go.Proofs.YtikahcbkeempdaaGreatDoor
