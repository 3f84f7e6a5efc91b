/- Slices that came in: the length lies in the capacity; a shorter slice; a grown world. -/
import Derived.Test.YtikahcbkeempdaaRows1
namespace Go.Proofs.Ytikahcbkeempdaa
open Go.RowKit Go.ChangeShapes Go.WideShapes Go.Deep

theorem open_cap {H : Type} {enc : TypeId × Value → H} {P : Program} {w : World} {base : Nat} {spare : Nat → Bool} {held : Bool} {t e : TypeId} {oa : Option Addr} {len cap : Nat} {D : DataW H} {p : List MemPlace} (ht : P.underlying t = some (.slice e))
    (h : ∃ fuel, DataW.trod enc P w base spare held fuel t [.slice oa len cap] = some (D, p)) : len ≤ cap ∧ cap ≤ 9223372036854775807 ∧ (oa = none → cap = 0) := by
  obtain ⟨fuel, hf⟩ := h
  rcases open_slice ht hf with ⟨hcs, _⟩ | ⟨a, len', cap', m, n, D, Pl, hcs, _, hl, hm, _⟩
  · simp only [List.cons.injEq, Value.slice.injEq, and_true] at hcs
    obtain ⟨rfl, rfl, rfl⟩ := hcs
    exact ⟨Nat.le_refl _, by omega, fun _ => rfl⟩
  · simp only [List.cons.injEq, Value.slice.injEq, and_true] at hcs
    obtain ⟨rfl, rfl, rfl⟩ := hcs
    exact ⟨hl, by unfold maxLen at hm; omega, fun h => by cases h⟩

theorem RowsAtK.short {w : World} {a : Option Addr} {len m : Nat} {ks : List Bool} {z : Nat → Nat → Int} (h : RowsAtK w a len ks z) (hm : m ≤ len) : RowsAtK w a m ks z := fun h0 => by
  obtain ⟨b, off, e, hb, hc⟩ := h (by omega)
  exact ⟨b, off, e, hb, fun i hi => hc i (by omega)⟩
theorem RowsAtK.below {w w' : World} {a : Option Addr} {len : Nat} {ks : List Bool} {z : Nat → Nat → Int} (h : RowsAtK w a len ks z) (k : Below w.heap.size w w') : RowsAtK w' a len ks z := fun h0 => by
  obtain ⟨b, off, e, hb, hc⟩ := h h0
  exact ⟨b, off, e, Nat.lt_of_lt_of_le hb k.size, fun i hi j hj => ⟨(k.cell (p := ⟨b, off + i * ks.length + j, none⟩) hb).trans (hc i hi j hj).1, (hc i hi j hj).2⟩⟩

end Go.Proofs.Ytikahcbkeempdaa
