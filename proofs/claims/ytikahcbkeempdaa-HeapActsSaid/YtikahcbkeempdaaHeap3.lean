/- heap: Take, Give, Whole, Marks walked. -/
import Derived.Test.YtikahcbkeempdaaHeap2
import Derived.Deep.RegionHeld3
namespace Go.Proofs.Ytikahcbkeempdaa
open Go.RowKit Go.Maps

set_option maxHeartbeats 400000 in
theorem htake_nil (n o : Int) (w : World) : Calls Try.prog 54 #[.pointer none, .int .i64 n, .int .i64 o] w fun e w' => e = .returned (.tuple #[.int .i64 0, .int .i64 1]) ∧ w = w' := by
  go_enter Try.func54, Try.ntmps54
  go_wp2_with fail
  refine (node_nil n _).mono ?_
  rintro e w1 ⟨rfl, rfl⟩
  go_wp2_with fail
  go_ret2
  exact ⟨rfl, rfl⟩

section
variable {w : World} {hp each c : Nat} {mn lo hi : Int} {nv : Value} {bb : Nat → Nat} {F : Nat → Nat → List Nat} {T : Nat → List (Nat × Nat)}

set_option maxHeartbeats 400000 in
theorem htake_no (h : HeapAt w hp each mn lo hi c nv bb F T) (n o : Int) (hn : n < 0 ∨ (c : Int) ≤ n) :
    Calls Try.prog 54 #[.pointer (some ⟨hp, 0, none⟩), .int .i64 n, .int .i64 o] w fun e w' => e = .returned (.tuple #[.int .i64 0, .int .i64 10]) ∧ w = w' := by
  have HN := Lib.hid (node_no h n hn)
  clear h hn
  go_enter Try.func54, Try.ntmps54
  go_wp2_with fail
  refine HN.out.mono ?_
  rintro e w1 ⟨rfl, rfl⟩
  go_wp2_with fail
  go_ret2
  exact ⟨rfl, rfl⟩

set_option maxHeartbeats 400000 in
theorem htake_arg (h : HeapAt w hp each mn lo hi c nv bb F T) (i : Nat) (hi' : i < c) (o : Int) (ho : o < 0 ∨ 10 < o) :
    Calls Try.prog 54 #[.pointer (some ⟨hp, 0, none⟩), .int .i64 (i : Int), .int .i64 o] w fun e w' => e = .returned (.tuple #[.int .i64 0, .int .i64 1]) ∧ w = w' := by
  have HN := Lib.hid (node_yes h i hi')
  clear h
  rcases ho with ho | ho
  all_goals
    go_enter Try.func54, Try.ntmps54
    go_wp2_with fail
    refine HN.out.mono ?_
    rintro e w1 ⟨rfl, rfl⟩
    go_wp2_with fail
    go_ret2
    exact ⟨rfl, rfl⟩

set_option maxHeartbeats 400000 in
theorem htake_nomem (h : HeapAt w hp each mn lo hi c nv bb F T) (i : Nat) (hi' : i < c) (o : Nat) (ho : o ≤ 10) (hm : mayF (F i) mn o = false) :
    Calls Try.prog 54 #[.pointer (some ⟨hp, 0, none⟩), .int .i64 (i : Int), .int .i64 (o : Int)] w fun e w' => e = .returned (.tuple #[.int .i64 0, .int .i64 5]) ∧ ∃ m, w' = w.drewN m := by
  have HN := Lib.hid (node_yes h i hi')
  have hmy := may_yes h i hi' (o : Int)
  rw [hm] at hmy
  have HM := Lib.hid hmy
  have o0 : ¬ (o : Int) < 0 := by omega
  have o1 : ¬ (10 : Int) < (o : Int) := by omega
  clear h hmy hm
  go_enter Try.func54, Try.ntmps54
  go_wp2_with fail
  refine HN.out.mono ?_
  rintro e w1 ⟨rfl, rfl⟩
  go_wp2_with fail
  refine HM.out.mono ?_
  rintro e w1 ⟨rfl, m, rfl⟩
  go_wp2_with fail
  go_ret2
  exact ⟨rfl, m, rfl⟩

def HTakePost (w : World) (hp each : Nat) (mn lo hi : Int) (c : Nat) (nv : Value) (bb : Nat → Nat) (F : Nat → Nat → List Nat) (T : Nat → List (Nat × Nat)) (i kk x o : Nat) (e : Ending) (w' : World) : Prop :=
  e = .returned (.tuple #[.int .i64 ((i * each + x : Nat) : Int), .int .i64 0]) ∧ Kept (bb i) (bb i + 13) w w' ∧
    HeapAt w' hp each mn lo hi c nv bb (fun j => if j = i then Bu.takeF (F i) kk o x else F j) (fun j => if j = i then T i ++ [(x, o)] else T j)

set_option maxHeartbeats 400000 in
theorem htake_ok (h : HeapAt w hp each mn lo hi c nv bb F T) (hc : c ≤ 8) (i : Nat) (hi' : i < c) (o : Nat) (ho : o ≤ 10) (hm : mayF (F i) mn o = true) {kk x : Nat} (hp' : Bu.pick (F i) o = some (kk, x)) :
    Calls Try.prog 54 #[.pointer (some ⟨hp, 0, none⟩), .int .i64 (i : Int), .int .i64 (o : Int)] w (HTakePost w hp each mn lo hi c nv bb F T i kk x o) := by
  have HN := Lib.hid (node_yes h i hi')
  have hmy := may_yes h i hi' (o : Int)
  rw [hm] at hmy
  have HM := Lib.hid hmy
  have o0 : ¬ (o : Int) < 0 := by omega
  have o1 : ¬ (10 : Int) < (o : Int) := by omega
  have I' := (h.inv i hi').take_pick hp'
  have hin := (I'.taken (x, o) (by simp)).2.2
  have hnl := I'.n_le
  have hxl : x ≤ 1024 := Nat.le_trans (Nat.le_add_right x (2 ^ o)) (Nat.le_trans hin hnl)
  have HT := Lib.hid (fun m => take_pick ((h.bud i hi').drewN m) (h.inv i hi') o hp')
  have H := Lib.hid h
  have HI := Lib.hid I'
  have hmul : i * each ≤ 8 * 1024 := Nat.mul_le_mul (by omega) hnl
  have w1' : IntKind.i64.wrap ((i : Int) * (each : Int)) = ((i * each : Nat) : Int) := by rw [← Int.natCast_mul]; exact IntWalk.i64_in _ (by omega)
  have w2' : IntKind.i64.wrap (((i * each : Nat) : Int) + (x : Int)) = ((i * each + x : Nat) : Int) := by rw [IntWalk.i64_in _ (by omega)]; omega
  clear h hmy hm hp' I' hin
  go_enter Try.func54, Try.ntmps54
  go_wp2_with fail
  refine HN.out.mono ?_
  rintro e w1 ⟨rfl, rfl⟩
  go_wp2_with fail
  refine HM.out.mono ?_
  rintro e w1 ⟨rfl, m, rfl⟩
  go_wp2_with fail
  refine (HT.out m).mono ?_
  rintro e w2 ⟨rfl, hB2, hk2⟩
  have h2 := (H.out.drewN m).turn hi' hB2 HI.out hk2
  have hc0 := h2.c0
  have H2 := Lib.hid h2
  clear h2
  go_wp2_with fail
  go_ret2
  exact ⟨rfl, ((Kept.refl _ _ _).drewN m).trans hk2, H2.out⟩
end

end Go.Proofs.Ytikahcbkeempdaa
