/- heap: Free, Poor, Rich, Take walked. -/
import Derived.Test.YtikahcbkeempdaaHeap1
namespace Go.Proofs.Ytikahcbkeempdaa
open Go.RowKit Go.Maps

set_option maxHeartbeats 400000 in
theorem hfree_nil (n : Int) (w : World) : Calls Try.prog 55 #[.pointer none, .int .i64 n] w fun e w' => e = .returned (.tuple #[.int .i64 0, .int .i64 1]) ∧ w = w' := by
  go_enter Try.func55, Try.ntmps55
  go_wp2
  go_ret2
  exact ⟨rfl, rfl⟩

section
variable {w : World} {hp each c : Nat} {mn lo hi : Int} {nv : Value} {bb : Nat → Nat} {F : Nat → Nat → List Nat} {T : Nat → List (Nat × Nat)}

set_option maxHeartbeats 400000 in
theorem hfree_no (h : HeapAt w hp each mn lo hi c nv bb F T) (n : Int) (hn : n < 0 ∨ (c : Int) ≤ n) :
    Calls Try.prog 55 #[.pointer (some ⟨hp, 0, none⟩), .int .i64 n] w fun e w' => e = .returned (.tuple #[.int .i64 0, .int .i64 10]) ∧ w = w' := by
  have HN := Lib.hid (node_no h n hn)
  clear h hn
  go_enter Try.func55, Try.ntmps55
  go_wp2_with fail
  refine HN.out.mono ?_
  rintro e w1 ⟨rfl, rfl⟩
  go_wp2_with fail
  go_ret2
  exact ⟨rfl, rfl⟩

set_option maxHeartbeats 400000 in
theorem hfree_yes (h : HeapAt w hp each mn lo hi c nv bb F T) (i : Nat) (hi' : i < c) :
    Calls Try.prog 55 #[.pointer (some ⟨hp, 0, none⟩), .int .i64 (i : Int)] w fun e w' => e = .returned (.tuple #[.int .i64 (Bu.sumF (F i) 11 : Int), .int .i64 0]) ∧ w = w' := by
  have HN := Lib.hid (node_yes h i hi')
  have HF := Lib.hid (free_inv (h.bud i hi') (h.inv i hi'))
  have h4 := h.c4
  obtain ⟨oa, cap, rfl, hsh⟩ := h.shape
  obtain ⟨g, rfl, _, _, hc⟩ := hsh (by omega)
  have hci := hc i hi'
  have c2 : (i : Int) < (c : Int) := by omega
  have c3 : (0 : Int) ≤ (i : Int) := by omega
  clear hc h hsh
  go_enter Try.func55, Try.ntmps55
  go_wp2_with fail
  refine HN.out.mono ?_
  rintro e w1 ⟨rfl, rfl⟩
  go_wp2_with fail
  refine HF.out.mono ?_
  rintro e w1 ⟨rfl, rfl⟩
  go_wp2_with fail
  go_ret2
  exact ⟨rfl, rfl⟩

set_option maxHeartbeats 400000 in
theorem poor_yes (h : HeapAt w hp each mn lo hi c nv bb F T) (i : Nat) (hi' : i < c) :
    Calls Try.prog 60 #[.pointer (some ⟨hp, 0, none⟩), .int .i64 (i : Int)] w fun e w' => e = .returned (.bool (decide ((Bu.sumF (F i) 11 : Int) < lo))) ∧ w = w' := by
  have HN := Lib.hid (hfree_yes h i hi')
  have h2 := h.c2
  clear h
  go_enter Try.func60, Try.ntmps60
  go_wp2_with fail
  refine HN.out.mono ?_
  rintro e w1 ⟨rfl, rfl⟩
  go_wp2_with fail
  go_ret
  exact ⟨rfl, rfl⟩
set_option maxHeartbeats 400000 in
theorem rich_yes (h : HeapAt w hp each mn lo hi c nv bb F T) (i : Nat) (hi' : i < c) :
    Calls Try.prog 61 #[.pointer (some ⟨hp, 0, none⟩), .int .i64 (i : Int)] w fun e w' => e = .returned (.bool (decide (hi < (Bu.sumF (F i) 11 : Int)))) ∧ w = w' := by
  have HN := Lib.hid (hfree_yes h i hi')
  have h3 := h.c3
  clear h
  go_enter Try.func61, Try.ntmps61
  go_wp2_with fail
  refine HN.out.mono ?_
  rintro e w1 ⟨rfl, rfl⟩
  go_wp2_with fail
  go_ret
  exact ⟨rfl, rfl⟩
set_option maxHeartbeats 400000 in
theorem poor_no (h : HeapAt w hp each mn lo hi c nv bb F T) (n : Int) (hn : n < 0 ∨ (c : Int) ≤ n) :
    Calls Try.prog 60 #[.pointer (some ⟨hp, 0, none⟩), .int .i64 n] w fun e w' => e = .returned (.bool false) ∧ w = w' := by
  have HN := Lib.hid (hfree_no h n hn)
  clear h hn
  go_enter Try.func60, Try.ntmps60
  go_wp2_with fail
  refine HN.out.mono ?_
  rintro e w1 ⟨rfl, rfl⟩
  go_wp2_with fail
  go_ret
  exact ⟨rfl, rfl⟩
set_option maxHeartbeats 400000 in
theorem rich_no (h : HeapAt w hp each mn lo hi c nv bb F T) (n : Int) (hn : n < 0 ∨ (c : Int) ≤ n) :
    Calls Try.prog 61 #[.pointer (some ⟨hp, 0, none⟩), .int .i64 n] w fun e w' => e = .returned (.bool false) ∧ w = w' := by
  have HN := Lib.hid (hfree_no h n hn)
  clear h hn
  go_enter Try.func61, Try.ntmps61
  go_wp2_with fail
  refine HN.out.mono ?_
  rintro e w1 ⟨rfl, rfl⟩
  go_wp2_with fail
  go_ret
  exact ⟨rfl, rfl⟩
end

end Go.Proofs.Ytikahcbkeempdaa
