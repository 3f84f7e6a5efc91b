/- messuagetop: halves. -/
import Derived.Test.YtikahcbkeempdaaGreatDoorStands
import Derived.Test.YtikahcbkeempdaaGreatDoorBuddy
import Derived.Test.YtikahcbkeempdaaGreatDoorRows0
namespace Go.Proofs.YtikahcbkeempdaaGreatDoor
open Go.RowKit Go.Maps

set_option maxRecDepth 100000 in
set_option maxHeartbeats 1000000 in
theorem halvesT_any (w : World) : Calls Tryz.prog 8 #[] w fun e w' => e = .returned (.bool true) ∧ Below w.heap.size w w' := by
  have I0 := Bu.inv_new (n := 4) (N := 2) (by decide) rfl
  have I1 := I0.take_pick (o := 0) (k := 2) (a := 0) rfl
  have e1 : Bu.sumF (Bu.takeF (Bu.newF 4) 2 0 0) 11 = 3 := rfl
  have E := Lib.hid e1
  clear e1
  go_enter Tryz.func8, Tryz.ntmps8
  go_wp2_with fail
  refine (new_ok 4 2 (by omega) rfl _).mono ?_
  rintro e w1 ⟨rfl, hB1, hb1⟩
  go_wp2_with fail
  refine (take_pick hB1 I0 0 (k := 2) (a := 0) rfl).mono ?_
  rintro e w2 ⟨rfl, hB2, hk2⟩
  have hb2 := hb1.trans (hk2.below (Nat.le_refl _) (hb1.size))
  have hf := free_inv hB2 I1
  rw [E.out] at hf
  have HF := Lib.hid hf
  clear hf
  go_wp2_with fail
  refine HF.out.mono ?_
  rintro e w3 ⟨rfl, rfl⟩
  go_wp2_with fail
  go_ret
  exact ⟨rfl, hb2⟩

end Go.Proofs.YtikahcbkeempdaaGreatDoor
