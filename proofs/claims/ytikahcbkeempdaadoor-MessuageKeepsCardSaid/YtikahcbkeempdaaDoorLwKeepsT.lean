/- The class table from what is laid; the walk of MessuageKeeps from it. -/
import Derived.Test.YtikahcbkeempdaaDoorRows
import Derived.Test.YtikahcbkeempdaaDoorLwKeeps
import Derived.FnData
import Derived.OpenShut
import Derived.ChangeArms
namespace Go.Proofs.YtikahcbkeempdaaDoor
open Go.RowKit Go.Maps

theorem classTab_of {W : World} (h : laidMet Tryd.prog Rows.messuageKeepsRow.laid W) : ClassTab W := by
  obtain ⟨ps, ⟨g, t, cs, fuel, p, q, hg, ht, hv, hd, _, hps⟩, _, hall⟩ := h
  obtain rfl := Option.some.inj ((show Tryd.prog.globalNamed "messuage/class.rows" = some 0 by kernel_rfl).symm.trans hg)
  obtain rfl := Option.some.inj ((show (Tryd.prog.globals[0]?).map (·.type) = some 76 by kernel_rfl).symm.trans ht)
  have c75 : Tryd.prog.cellsOf 75 = 2 := by kernel_rfl
  have c76 : Tryd.prog.cellsOf 76 = 8 := by kernel_rfl
  have c3 : Tryd.prog.cellsOf 3 = 1 := by kernel_rfl
  obtain ⟨xs, m, _, ex, hcl, hl, hel⟩ := DataW.trod_array Tryd.underlying76 hd
  rw [c76] at hcl
  rw [c75] at hel
  have e3 := (DataW.agg.inj (Prod.mk.inj ex).1)
  have hone : ∀ (i : Nat) (a b : Int), i < 4 → ((xs.map (·.1))[i]? = some (.agg [.lit (.int .i64 a), .lit (.int .i64 b)])) → cs.toList[i * 2]? = some (.int .i64 a) ∧ cs.toList[i * 2 + 1]? = some (.int .i64 b) := by
    intro i a b hi hx
    have hE := hel i hi
    rw [List.getElem?_map] at hx
    obtain ⟨y, hy, hy1⟩ := Option.map_eq_some_iff.1 hx
    rw [hy] at hE
    obtain ⟨zs, n, _, ez, hcl2, hl2, hel2⟩ := DataW.trod_struct Tryd.underlying75 hE
    have ez1 : DataW.agg (zs.map (·.1)) = .agg [.lit (.int .i64 a), .lit (.int .i64 b)] := by rw [← hy1, ez]
    have ez2 := DataW.agg.inj ez1
    have f0 := hel2 0 _ rfl
    have f1 := hel2 1 _ rfl
    replace f0 : DataW.trod (fun _ => ()) Tryd.prog W 0 (fun _ => true) false n 3 ((((cs.toList.drop (i * 2)).take 2).drop 0).take (Tryd.prog.cellsOf 3)) = zs[0]? := f0
    replace f1 : DataW.trod (fun _ => ()) Tryd.prog W 0 (fun _ => true) false n 3 ((((cs.toList.drop (i * 2)).take 2).drop 1).take (Tryd.prog.cellsOf 3)) = zs[1]? := f1
    rw [c3] at f0 f1
    have g0 : (zs.map (·.1))[0]? = some (.lit (.int .i64 a)) := by rw [ez2]; rfl
    have g1 : (zs.map (·.1))[1]? = some (.lit (.int .i64 b)) := by rw [ez2]; rfl
    rw [List.getElem?_map] at g0 g1
    obtain ⟨y0, hy0, hy01⟩ := Option.map_eq_some_iff.1 g0
    obtain ⟨y1, hy1', hy11⟩ := Option.map_eq_some_iff.1 g1
    rw [hy0] at f0
    rw [hy1'] at f1
    obtain ⟨n0, a0, b0, _⟩ := DataW.trod_int Tryd.underlying3 f0
    obtain ⟨n1, a1, b1, _⟩ := DataW.trod_int Tryd.underlying3 f1
    rw [b0] at hy01
    rw [b1] at hy11
    simp only [DataW.lit.injEq, Lit.int.injEq, true_and] at hy01 hy11
    subst hy01 hy11
    have k0 : ((((cs.toList.drop (i * 2)).take 2).drop 0).take 1)[0]? = some (.int .i64 n0) := by rw [a0]; rfl
    have k1 : ((((cs.toList.drop (i * 2)).take 2).drop 1).take 1)[0]? = some (.int .i64 n1) := by rw [a1]; rfl
    simp at k0 k1
    exact ⟨by simpa using k0, by simpa using k1⟩
  have h0 := hone 0 8 0 (by decide) (by rw [← e3]; rfl)
  have h1 := hone 1 16 0 (by decide) (by rw [← e3]; rfl)
  have h2 := hone 2 32 1 (by decide) (by rw [← e3]; rfl)
  have h3 := hone 3 64 2 (by decide) (by rw [← e3]; rfl)
  have hcs : cs = tabCells := by
    apply Array.ext'
    apply List.ext_getElem?
    intro j
    by_cases hj : j < 8
    · have : j = 0 ∨ j = 1 ∨ j = 2 ∨ j = 3 ∨ j = 4 ∨ j = 5 ∨ j = 6 ∨ j = 7 := by omega
      rcases this with rfl | rfl | rfl | rfl | rfl | rfl | rfl | rfl
      · exact h0.1
      · exact h0.2
      · exact h1.1
      · exact h1.2
      · exact h2.1
      · exact h2.2
      · exact h3.1
      · exact h3.2
    · rw [List.getElem?_eq_none (by omega), List.getElem?_eq_none (by simp [tabCells]; omega)]
  obtain ⟨c, t, hb⟩ := (hall 0 0 (by rw [hps]; simp [MemPlace.row, hcs, tabCells])).1
  have hv' := World.var?_cell hg hv
  refine ⟨t, ?_⟩
  rw [hb]
  have : c = tabCells := by
    rw [← hcs]
    apply Array.ext'
    apply List.ext_getElem?
    intro j
    have hj := hv' j
    simp only [World.cell?, hb] at hj
    simpa using hj
  rw [this]

theorem messuageKeeps_walkL (s : Int) (a : Option Addr) (len cap : Nat) (z : Nat → Int) (w : World) (hz : IntsAt w a len z) (hmax : len ≤ 9223372036854775807) (hL : laidMet Tryd.prog Rows.messuageKeepsRow.laid w) :
    Calls Tryd.prog 3 #[.int .i64 s, .slice a len cap] w fun e w' => e = .returned (.bool true) ∧ Below w.heap.size w w' :=
  messuageKeeps_walk s a len cap z w hz hmax (classTab_of hL)
end Go.Proofs.YtikahcbkeempdaaDoor
