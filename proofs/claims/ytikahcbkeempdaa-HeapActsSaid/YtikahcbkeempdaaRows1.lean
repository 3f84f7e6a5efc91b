/- Slices that came in, opened: whole numbers; structs of whole numbers (and a bool). -/
import Derived.Test.YtikahcbkeempdaaRows0
import Derived.ProofKit
import Derived.OpenShut
import Derived.Deep.Slices
import Derived.Deep.MidRow
namespace Go.Proofs.Ytikahcbkeempdaa
open Go.RowKit Go.ChangeShapes Go.WideShapes Go.Deep

section
variable {H : Type} {enc : TypeId × Value → H} {P : Program} {w : World} {base : Nat} {spare : Nat → Bool} {held : Bool}

/-- What lies in a cell: a whole number, or a bool told by a number. -/
def cv (isInt : Bool) (x : Int) : Value := if isInt then .int .i64 x else .bool (decide (x = 1))

def RowsAtK (w : World) (a : Option Addr) (len : Nat) (ks : List Bool) (z : Nat → Nat → Int) : Prop :=
  0 < len → ∃ b off, a = some ⟨b, off, none⟩ ∧ b < w.heap.size ∧ ∀ i, i < len → ∀ j, j < ks.length → w.cell? ⟨b, off + i * ks.length + j, none⟩ = some (cv (ks.getD j true) (z i j)) ∧ (ks.getD j true = true → (Lit.int .i64 (z i j)).wf = true)

theorem open_rows {t e : TypeId} {fs : Array Field} {ks : List Bool} {fuel : Nat} {oa : Option Addr} {len cap : Nat} {x : DataW H × List MemPlace} (ht : P.underlying t = some (.slice e)) (he : P.underlying e = some (.struct fs)) (hks : fs.size = ks.length) (hpos : 0 < ks.length) (hC : P.cellsOf e = ks.length)
    (hf : ∀ j f, fs[j]? = some f → f.offset = j ∧ P.cellsOf f.type = 1 ∧ (if ks.getD j true then P.underlying f.type = some (.int .i64) else P.underlying f.type = some .bool))
    (h : DataW.trod enc P w base (fun _ => true) held fuel t [.slice oa len cap] = some x) : len ≤ maxLen ∧ ∃ z, RowsAtK w oa len ks z := by
  rcases open_slice ht h with ⟨hcs, _⟩ | ⟨a, len', cap', m, n, D, Pl, hcs, _, hl, hm, hmm, _, hx⟩
  · simp only [List.cons.injEq, Value.slice.injEq, and_true] at hcs
    obtain ⟨rfl, rfl, rfl⟩ := hcs
    exact ⟨by unfold maxLen; omega, fun _ _ => 0, fun h => absurd h (by omega)⟩
  · simp only [List.cons.injEq, Value.slice.injEq, and_true] at hcs
    obtain ⟨rfl, rfl, rfl⟩ := hcs
    simp only [if_true] at hmm
    have hall : ∀ i, i < len → ∀ j, j < ks.length → ∃ y : Int, w.cell? (a.add (i * ks.length + j)) = some (cv (ks.getD j true) y) ∧ (ks.getD j true = true → (Lit.int .i64 y).wf = true) := by
      intro i hi j hj
      obtain ⟨cs', hc, htr⟩ := hx i (by omega)
      obtain ⟨xs, k, _, _, hlen, hxl, hfs⟩ := DataW.trod_struct he htr
      have hjf : j < fs.size := by omega
      have hfj : fs[j]? = some fs[j] := by simp [hjf]
      obtain ⟨o1, o2, o3⟩ := hf j _ hfj
      have hr := hfs j _ hfj
      rw [o1, o2] at hr
      obtain ⟨_, hcl, hcell⟩ := World.cells?_some hc
      have hjc : j < cs'.length := by omega
      have htk : (cs'.drop j).take 1 = [cs'[j]] := by rw [List.drop_eq_getElem_cons hjc]; rfl
      have hxj : xs[j]? = some (xs[j]'(by omega)) := by simp [show j < xs.length by omega]
      rw [htk, hxj] at hr
      have hadd : (a.add (i * P.cellsOf e)).add j = a.add (i * ks.length + j) := by rw [hC]; unfold Addr.add; split <;> split <;> (try split) <;> simp_all <;> omega
      have hcj := hcell j (by omega)
      rw [hadd] at hcj
      simp only [hjc, List.getElem?_eq_getElem] at hcj
      cases hk : ks.getD j true with
      | true =>
        rw [hk, if_pos rfl] at o3
        obtain ⟨y, hy, _, hw⟩ := DataW.trod_int o3 hr
        refine ⟨y, ?_, fun _ => hw⟩
        rw [hcj]
        simp only [List.cons.injEq, and_true] at hy
        rw [hy]; rfl
      | false =>
        rw [hk] at o3
        simp only [Bool.false_eq_true, if_false] at o3
        obtain ⟨y, hy, _⟩ := DataW.trod_bool o3 hr
        refine ⟨if y then 1 else 0, ?_, fun h => by cases h⟩
        rw [hcj]
        simp only [List.cons.injEq, and_true] at hy
        rw [hy]
        cases y <;> rfl
    refine ⟨by omega, fun i j => if h : i < len ∧ j < ks.length then (hall i h.1 j h.2).choose else 0, fun h0 => ?_⟩
    obtain ⟨b, off, spot⟩ := a
    obtain ⟨y0, hy0, _⟩ := hall 0 h0 0 hpos
    have hy0' : w.cell? ⟨b, off, spot⟩ = some (cv (ks.getD 0 true) y0) := by simpa [Addr.add] using hy0
    have hspot : spot = none := by simpa using World.cell?_spot hy0'
    subst hspot
    refine ⟨b, off, rfl, World.block_lt_of_cell? w _ hy0', fun i hi j hj => ?_⟩
    have hsp := (hall i hi j hj).choose_spec
    simp only [hi, hj, and_self, dite_true]
    rw [Nat.add_assoc, ← Addr.add_mid]
    exact hsp

theorem open_intsAt {t e : TypeId} {fuel : Nat} {oa : Option Addr} {len cap : Nat} {x : DataW H × List MemPlace} (ht : P.underlying t = some (.slice e)) (he : P.underlying e = some (.int .i64)) (hC : P.cellsOf e = 1)
    (h : DataW.trod enc P w base (fun _ => true) held fuel t [.slice oa len cap] = some x) : len ≤ maxLen ∧ ∃ z, IntsAt w oa len z := by
  rcases open_ints ht he hC h with ⟨hcs, _⟩ | ⟨a, l, c, zs, hcs, _, hl, hm, hz, _, hcell, hwz⟩
  · simp only [List.cons.injEq, Value.slice.injEq, and_true] at hcs
    obtain ⟨rfl, rfl, rfl⟩ := hcs
    exact ⟨by unfold maxLen; omega, fun _ => 0, fun h => absurd h (by omega)⟩
  · simp only [List.cons.injEq, Value.slice.injEq, and_true] at hcs
    obtain ⟨rfl, rfl, rfl⟩ := hcs
    simp only [if_true] at hz
    refine ⟨by omega, fun i => zs.getD i 0, fun h0 => ?_⟩
    obtain ⟨b, off, spot⟩ := a
    have h1 := hcell 0 (by omega)
    have h1' : w.cell? ⟨b, off, spot⟩ = some (.int .i64 (zs.getD 0 0)) := by simpa [Addr.add] using h1
    have hspot : spot = none := by simpa using World.cell?_spot h1'
    subst hspot
    refine ⟨b, off, rfl, World.block_lt_of_cell? w _ h1', fun i hi => ⟨?_, hwz _ ?_⟩⟩
    · rw [← Addr.add_mid]; exact hcell i (by omega)
    · simp [List.getD, show i < zs.length by omega]
end

theorem rowsAt_of {w : World} {oa : Option Addr} {len : Nat} {z : Nat → Nat → Int} {ks : List Bool} (hks : ∀ j, ks.getD j true = true) (h : RowsAtK w oa len ks z) : RowsAt w oa len ks.length z := fun h0 => by
  obtain ⟨b, off, e, hb, hc⟩ := h h0
  refine ⟨b, off, e, hb, fun i hi j hj => ?_⟩
  have := hc i hi j hj
  rw [hks j] at this
  exact ⟨this.1, this.2 rfl⟩

end Go.Proofs.Ytikahcbkeempdaa
