/- Slices that came in, as the walks want them. -/
import Derived.Test.YtikahcbkeempdaaLwTexts
import Derived.ProofKit
import Derived.OpenShut
import Derived.Deep.MidRow
namespace Go.Proofs.Ytikahcbkeempdaa
open Go.RowKit Go.ChangeShapes Go.WideShapes

theorem strsAt_of {w : World} {a : Addr} {len : Nat} {ss : List ByteArray} (hl : len ≤ ss.length) (hcell : ∀ i, i < ss.length → w.cell? (a.add i) = some (.string (ss.getD i ByteArray.empty))) : StrsAt w (some a) len (ss.take len) := by
  refine ⟨by simp; omega, fun h0 => ?_⟩
  obtain ⟨b, off, spot⟩ := a
  have h1 := hcell 0 (by omega)
  have hspot : spot = none := by simpa [Addr.add] using World.cell?_spot h1
  subst hspot
  refine ⟨b, off, rfl, World.block_lt_of_cell? w _ ((Addr.add_mid b off 0) ▸ h1), fun i hi => ?_⟩
  have := hcell i (by omega)
  have e : (ss.take len).getD i ByteArray.empty = ss.getD i ByteArray.empty := by simp [List.getD, hi]
  rw [e, ← Addr.add_mid]
  exact this

end Go.Proofs.Ytikahcbkeempdaa
