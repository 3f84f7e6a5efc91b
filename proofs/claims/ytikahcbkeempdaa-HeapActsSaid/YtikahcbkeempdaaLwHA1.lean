/- HeapActs: the cut behind a round's switch. -/
import Derived.Test.YtikahcbkeempdaaLwHA0
import Derived.Deep.RegionHeld3
import Derived.Deep.CutRange
import Derived.Deep.CutBlock
import Derived.Deep.MidRow
namespace Go.Proofs.Ytikahcbkeempdaa
open Go.RowKit Go.Maps

def HACut (w : World) (B7 hp each : Nat) (mn lo hi : Int) (c : Nat) (nv : Value) (bb : Nat → Nat) (rp : Nat) (rv : Value) (pp uu : Nat → Nat) (C1 C2 g i : Nat) (act : Obj) (v : Value) (wr : World) : Prop :=
  ∃ (tt : Nat → Value) (R : List (Nat × Nat)) (F : Nat → Nat → List Nat) (T : Nat → List (Nat × Nat)), R.length ≤ i + 1 ∧ TH wr hp each mn lo hi c nv bb rp rv pp uu C1 C2 tt v R F T ∧ wr.heap[g]? = some act ∧ Below B7 w wr

/-- The block that bears the number k. -/
def findBk (k : Nat) : Code → Option Code
  | .block i c => if i = k then some (.block i c) else findBk k c
  | .loop c => findBk k c
  | .seq a b => match findBk k a with
    | some c => some c
    | none => findBk k b
  | .scope c => findBk k c
  | .cond _ a b => match findBk k a with
    | some c => some c
    | none => findBk k b
  | _ => none
noncomputable def bk2 : Code := ((Try.f15.body.bind (findBk 2)).getD .skip)
end Go.Proofs.Ytikahcbkeempdaa
