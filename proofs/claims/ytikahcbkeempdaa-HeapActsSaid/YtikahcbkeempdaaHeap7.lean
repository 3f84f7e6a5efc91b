/- messuagelaw09: heaps. -/
import Derived.Test.YtikahcbkeempdaaHeap6
namespace Go.Proofs.Ytikahcbkeempdaa
open Go.RowKit Go.Maps

theorem HeapAt.congr {w : World} {hp each c : Nat} {mn lo hi : Int} {nv : Value} {bb : Nat → Nat} {F F' : Nat → Nat → List Nat} {T T' : Nat → List (Nat × Nat)} (h : HeapAt w hp each mn lo hi c nv bb F T) (hF : ∀ j, j < c → F j = F' j) (hT : ∀ j, j < c → T j = T' j) :
    HeapAt w hp each mn lo hi c nv bb F' T' :=
  ⟨h.blk, h.own, fun j hj => by rw [← hF j hj, ← hT j hj]; exact h.bud j hj, fun j hj => by rw [← hF j hj, ← hT j hj]; exact h.inv j hj, h.off, h.apart, h.nvp⟩

theorem HNewPost.ok {w : World} {each : Nat} {mn lo hi : Int} {c : Nat} {e : Ending} {w' : World} (h : HNewPost w each mn lo hi c e w') (hm : 0 ≤ mn ∧ mn ≤ lo ∧ lo ≤ hi ∧ hi ≤ (each : Int)) : HNewOk w each mn lo hi c e w' := by
  rcases h with ⟨_, h⟩ | ⟨h, _⟩
  · exact h
  · exact absurd hm h
theorem HNewPost.bad {w : World} {each : Nat} {mn lo hi : Int} {c : Nat} {e : Ending} {w' : World} (h : HNewPost w each mn lo hi c e w') (hm : ¬ (0 ≤ mn ∧ mn ≤ lo ∧ lo ≤ hi ∧ hi ≤ (each : Int))) : e = .returned (.tuple #[.pointer none, .int .i64 1]) ∧ Below w.heap.size w w' := by
  rcases h with ⟨h, _⟩ | ⟨_, h⟩
  · exact absurd h hm
  · exact h

theorem marks_high (a b c : Int) : ∀ w : World, (Instr.field 82 (.agg #[.int .i64 a, .int .i64 b, .int .i64 c]) 2).run Try.prog w = .ok (.int .i64 c) w := fun _ => by kernel_rfl

set_option maxRecDepth 100000 in
set_option maxHeartbeats 1000000 in
theorem heaps_any (w : World) : Calls Try.prog 52 #[] w fun e w' => e = .returned (.bool true) ∧ Below w.heap.size w w' := by
  have m1 : mayF (Bu.newF 4) 1 ((1 : Nat) : Int) = true := by decide +kernel
  have m2 : mayF (Bu.takeF (Bu.newF 4) 2 1 0) 1 ((1 : Nat) : Int) = false := by decide +kernel
  have m3 : mayF (Bu.takeF (Bu.newF 4) 2 1 0) 1 ((0 : Nat) : Int) = true := by decide +kernel
  have M := Lib.hid (And.intro m1 (And.intro m2 m3))
  clear m1 m2 m3
  go_enter Try.func52, Try.ntmps52
  go_wp2_with fail
  refine (hnew_any 2 4 2 1 1 2 _ (by omega) (by omega) (by omega) rfl).mono ?_
  rintro e w1 hpost
  obtain ⟨hp, nv, bb, rfl, hH1, hS, hb1⟩ := hpost.ok (by omega)
  clear hpost
  have HT := Lib.hid (htake_ok hH1 (by omega) 1 (by omega) 1 (by omega) M.out.1 (kk := 2) (x := 0) rfl)
  go_wp2_with fail
  refine HT.out.mono ?_
  rintro e w2 ⟨rfl, hk2, hH2⟩
  have hH2' := hH2.congr (F' := fun j => if j = 1 then Bu.takeF (Bu.newF 4) 2 1 0 else Bu.newF 4) (T' := fun j => if j = 1 then [(0, 1)] else []) (fun j _ => rfl) (fun j _ => rfl)
  have hb2 := hb1.trans (hk2.below (hS.bb 1 (by omega)).1 hb1.size)
  have y1 := may_yes hH2' 1 (by omega) ((1 : Nat) : Int)
  rw [if_pos rfl, M.out.2.1] at y1
  have Y1 := Lib.hid y1
  have H2 := Lib.hid hH2'
  clear y1 hH2 hH2' hk2 hb1 hH1 HT
  go_wp2_with fail
  refine Y1.out.mono ?_
  rintro e w3 ⟨rfl, k3, hw3⟩
  have hH3 : HeapAt w3 hp 4 1 1 2 2 nv bb (fun j => if j = 1 then Bu.takeF (Bu.newF 4) 2 1 0 else Bu.newF 4) (fun j => if j = 1 then [(0, 1)] else []) := by rw [hw3]; exact H2.out.drewN k3
  have hb3 : Below w.heap.size w w3 := by rw [hw3]; exact hb2.trans (drewN_below _ _ _)
  have y2 := may_yes hH3 1 (by omega) ((0 : Nat) : Int)
  rw [if_pos rfl, M.out.2.2] at y2
  have Y2 := Lib.hid y2
  have H3 := Lib.hid hH3
  clear y2 hH3 hw3 Y1 H2 hb2
  go_wp2_with fail
  refine Y2.out.mono ?_
  rintro e w4 ⟨rfl, k4, hw4⟩
  have hH4 : HeapAt w4 hp 4 1 1 2 2 nv bb (fun j => if j = 1 then Bu.takeF (Bu.newF 4) 2 1 0 else Bu.newF 4) (fun j => if j = 1 then [(0, 1)] else []) := by rw [hw4]; exact H3.out.drewN k4
  have hb4 : Below w.heap.size w w4 := by rw [hw4]; exact hb3.trans (drewN_below _ _ _)
  have y3 := may_yes hH4 0 (by omega) ((1 : Nat) : Int)
  rw [if_neg (by decide), M.out.1] at y3
  have Y3 := Lib.hid y3
  have H4 := Lib.hid hH4
  clear y3 hH4 hw4 Y2 H3 hb3
  go_wp2_with fail
  refine Y3.out.mono ?_
  rintro e w5 ⟨rfl, k5, hw5⟩
  have hH5 : HeapAt w5 hp 4 1 1 2 2 nv bb (fun j => if j = 1 then Bu.takeF (Bu.newF 4) 2 1 0 else Bu.newF 4) (fun j => if j = 1 then [(0, 1)] else []) := by rw [hw5]; exact H4.out.drewN k5
  have hb5 : Below w.heap.size w w5 := by rw [hw5]; exact hb4.trans (drewN_below _ _ _)
  have H5 := Lib.hid (hmarks_any hH5)
  clear hH5 hw5 Y3 H4 hb4
  go_wp2_with fail
  refine H5.out.mono ?_
  rintro e w6 ⟨rfl, hb6⟩
  have hfd := marks_high 1 1 2
  go_wp2_with fail
  go_ret
  exact ⟨rfl, hb5.trans (hb6.mono hb5.size)⟩

end Go.Proofs.Ytikahcbkeempdaa
