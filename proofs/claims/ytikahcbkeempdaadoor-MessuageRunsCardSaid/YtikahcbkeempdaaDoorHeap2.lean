/- heap: Free, Poor, Rich, Take walked. -/
import Derived.Test.YtikahcbkeempdaaDoorHeap1
namespace Go.Proofs.YtikahcbkeempdaaDoor
open Go.RowKit Go.Maps


section
variable {w : World} {hp each c : Nat} {mn lo hi : Int} {nv : Value} {bb : Nat → Nat} {F : Nat → Nat → List Nat} {T : Nat → List (Nat × Nat)}



end

end Go.Proofs.YtikahcbkeempdaaDoor
