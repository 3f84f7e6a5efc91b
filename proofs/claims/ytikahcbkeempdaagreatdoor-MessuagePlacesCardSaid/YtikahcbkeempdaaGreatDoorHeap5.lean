/- heap: All, Whole, Marks walked. -/
import Derived.Test.YtikahcbkeempdaaGreatDoorHeap3
namespace Go.Proofs.YtikahcbkeempdaaGreatDoor
open Go.RowKit Go.Maps

def AllRel (w : World) (F : Nat → Nat → List Nat) (mn o : Int) (c : Nat) (vi v : Value) (wr : World) : Prop :=
  ∃ i : Nat, vi = .int .i64 (i : Int) ∧ i ≤ c ∧ wr.ownsRow w.heap.size 4 1 v i ((List.range i).map fun j => .bool (mayF (F j) mn o)) ∧ Below w.heap.size w wr

set_option maxHeartbeats 400000 in
theorem hall_nil (o : Int) (w : World) : Calls Tryz.prog 11 #[.pointer none, .int .i64 o] w fun e w' => e = .returned (.slice none 0 0) ∧ w = w' := by
  go_enter Tryz.func11, Tryz.ntmps11
  go_wp2_with fail
  go_ret
  exact ⟨rfl, rfl⟩

def HAllPost (w : World) (F : Nat → Nat → List Nat) (mn o : Int) (c : Nat) (e : Ending) (w' : World) : Prop :=
  ∃ v, e = .returned v ∧ w'.ownsRow w.heap.size 4 1 v c ((List.range c).map fun j => .bool (mayF (F j) mn o)) ∧ Below w.heap.size w w'

section
variable {w : World} {hp each c : Nat} {mn lo hi : Int} {nv : Value} {bb : Nat → Nat} {F : Nat → Nat → List Nat} {T : Nat → List (Nat × Nat)}

set_option maxRecDepth 100000 in
set_option maxHeartbeats 1000000 in
theorem hall_any (h : HeapAt w hp each mn lo hi c nv bb F T) (hc : c ≤ 8) (o : Int) :
    Calls Tryz.prog 11 #[.pointer (some ⟨hp, 0, none⟩), .int .i64 o] w (HAllPost w F mn o c) := by
  obtain ⟨i0, hi0, hz0, hz1, hz2⟩ := info_parts infoB
  have h4 := h.c4
  obtain ⟨oa, cap, rfl, _⟩ := h.shape
  have H := Lib.hid h
  clear h
  go_enter Tryz.func11, Tryz.ntmps11
  go_wp2_with fail
  go_loopw [14, 5] (fun vi v wr => AllRel w F mn o c vi v wr) (fun vi _ _ => c - (intOf vi).toNat)
  case atStart => exact ⟨0, rfl, Nat.zero_le _, World.ownsRow_nil _ _ _ _, Below.refl _ _⟩
  case round =>
    obtain ⟨i, rfl, hi', hrow, hb⟩ := hrel
    by_cases e : i < c
    · have ci : (i : Int) < (c : Int) := by omega
      have HM := Lib.hid (may_yes (H.out.below hb) i e o)
      obtain ⟨bv, hbv⟩ : ∃ bv, mayF (F i) mn o = bv := ⟨_, rfl⟩
      rw [hbv] at HM
      have HBV := Lib.hid hbv
      clear hbv h4
      go_wp2_with fail
      refine HM.out.mono ?_
      rintro e w2 ⟨rfl, m, hw2⟩
      have hrow2 : w2.ownsRow w.heap.size 4 1 u5 i ((List.range i).map fun j => .bool (mayF (F j) mn o)) := by rw [hw2]; exact ownsRow_same hrow fun _ _ => rfl
      have hb2 : Below w.heap.size w w2 := by rw [hw2]; exact hb.trans (drewN_below _ _ _)
      clear hw2 hrow hb
      go_wp2_with (first
        | (at_builtin; refine wpList_append_own _ rfl _ _ 45 rfl w.heap.size 4 i0 (.bool false) 1 1 Tryz.underlying45 hi0 hz0 hz1 hz2 rfl (by decide) _ _ _ rfl (hrow2.alloc _) ⟨w2.heap.size, 0, none⟩ 1 1 [.bool bv] rfl rfl (cell_one_new _ _ _) (by simp [Value.oneCell']) (by unfold maxLen; omega) (by omega) (by have := hb2.size; simp; omega) ?_; intro v' w3 hown' hg3 hnil3; go_frame))
      go_roundw
      case rel =>
        refine ⟨i + 1, by go_num, by omega, ?_, (hb2.alloc hb2.size _).grown hg3 (by have := hb2.size; simp; omega) (fun j hj => (hrow2.lt j hj).1)⟩
        rw [List.range_succ, List.map_append, List.map_singleton, HBV.out]
        exact hown'
      case measure => simp [intOf]; omega
    · have ci : ¬ (i : Int) < (c : Int) := by omega
      obtain rfl : i = c := by omega
      go_wp2_with fail
      go_ret
      exact ⟨_, rfl, hrow, hb⟩

def WholeRel (w : World) (F : Nat → Nat → List Nat) (each c : Nat) (vi : Value) (wr : World) : Prop :=
  ∃ i m : Nat, vi = .int .i64 (i : Int) ∧ i ≤ c ∧ (∀ j, j < i → Bu.sumF (F j) 11 = each) ∧ wr = w.drewN m
def wholeH (F : Nat → Nat → List Nat) (each c : Nat) : Bool := (List.range c).all fun j => decide (Bu.sumF (F j) 11 = each)
theorem wholeH_true {F : Nat → Nat → List Nat} {each c : Nat} (h : ∀ j, j < c → Bu.sumF (F j) 11 = each) : wholeH F each c = true := by
  unfold wholeH
  rw [List.all_eq_true]
  exact fun j hj => by simpa using h j (List.mem_range.1 hj)
theorem wholeH_false {F : Nat → Nat → List Nat} {each c i : Nat} (hi : i < c) (h : ¬ Bu.sumF (F i) 11 = each) : wholeH F each c = false := by
  unfold wholeH
  rw [List.all_eq_false]
  exact ⟨i, List.mem_range.2 hi, by simpa using h⟩

def HWholePost (w : World) (F : Nat → Nat → List Nat) (each c : Nat) (e : Ending) (w' : World) : Prop :=
  e = .returned (.bool (wholeH F each c)) ∧ ∃ m, w' = w.drewN m




end

end Go.Proofs.YtikahcbkeempdaaGreatDoor
