/- Slices that came in: of whole numbers, and of structs of whole numbers: where their cells lie. -/
import Derived.Test.YtikahcbkeempdaaMaps
namespace Go.Proofs.Ytikahcbkeempdaa
open Go.RowKit

/-- A slice that came in, of elements of sz cells: if it is not empty, where its cells lie: the number at cell j of element i is z i j. -/
def RowsAt (w : World) (a : Option Addr) (len sz : Nat) (z : Nat → Nat → Int) : Prop :=
  0 < len → ∃ b off, a = some ⟨b, off, none⟩ ∧ b < w.heap.size ∧ ∀ i, i < len → ∀ j, j < sz → w.cell? ⟨b, off + i * sz + j, none⟩ = some (.int .i64 (z i j)) ∧ (Lit.int .i64 (z i j)).wf = true

def IntsAt (w : World) (a : Option Addr) (len : Nat) (z : Nat → Int) : Prop :=
  0 < len → ∃ b off, a = some ⟨b, off, none⟩ ∧ b < w.heap.size ∧ ∀ i, i < len → w.cell? ⟨b, off + i, none⟩ = some (.int .i64 (z i)) ∧ (Lit.int .i64 (z i)).wf = true

end Go.Proofs.Ytikahcbkeempdaa
