/- heap: All, Whole, Marks walked. -/
import Derived.Test.YtikahcbkeempdaaDoorHeap4
namespace Go.Proofs.YtikahcbkeempdaaDoor
open Go.RowKit Go.Maps




section
variable {w : World} {hp each c : Nat} {mn lo hi : Int} {nv : Value} {bb : Nat → Nat} {F : Nat → Nat → List Nat} {T : Nat → List (Nat × Nat)}


def WholeRel (w : World) (F : Nat → Nat → List Nat) (each c : Nat) (vi : Value) (wr : World) : Prop :=
  ∃ i m : Nat, vi = .int .i64 (i : Int) ∧ i ≤ c ∧ (∀ j, j < i → Bu.sumF (F j) 11 = each) ∧ wr = w.drewN m
def wholeH (F : Nat → Nat → List Nat) (each c : Nat) : Bool := (List.range c).all fun j => decide (Bu.sumF (F j) 11 = each)
theorem wholeH_true {F : Nat → Nat → List Nat} {each c : Nat} (h : ∀ j, j < c → Bu.sumF (F j) 11 = each) : wholeH F each c = true := by
  unfold wholeH
  rw [List.all_eq_true]
  exact fun j hj => by simpa using h j (List.mem_range.1 hj)
theorem wholeH_false {F : Nat → Nat → List Nat} {each c i : Nat} (hi : i < c) (h : ¬ Bu.sumF (F i) 11 = each) : wholeH F each c = false := by
  unfold wholeH
  rw [List.all_eq_false]
  exact ⟨i, List.mem_range.2 hi, by simpa using h⟩

def HWholePost (w : World) (F : Nat → Nat → List Nat) (each c : Nat) (e : Ending) (w' : World) : Prop :=
  e = .returned (.bool (wholeH F each c)) ∧ ∃ m, w' = w.drewN m

set_option maxRecDepth 100000 in
set_option maxHeartbeats 1000000 in
theorem hwhole_any (h : HeapAt w hp each mn lo hi c nv bb F T) (hc : c ≤ 8) :
    Calls Tryd.prog 39 #[.pointer (some ⟨hp, 0, none⟩)] w (HWholePost w F each c) := by
  have h0 := h.c0
  have h4 := h.c4
  obtain ⟨oa, cap, rfl, hsh⟩ := h.shape
  have H := Lib.hid h
  clear h hsh
  go_enter Tryd.func39, Tryd.ntmps39
  go_wp2_with fail
  go_loopw [12] (fun vi wr => WholeRel w F each c vi wr) (fun vi _ => c - (intOf vi).toNat)
  case atStart => exact ⟨0, 0, rfl, Nat.zero_le _, (fun j hj => absurd hj (by omega)), rfl⟩
  case round =>
    obtain ⟨i, m, rfl, hi', hall, hwr⟩ := hrel
    have HA := Lib.hid hall
    have HR : HeapAt wr hp each mn lo hi c (.slice oa c cap) bb F T := by rw [hwr]; exact H.out.drewN m
    have h0 := HR.c0
    have hsh := HR.shape
    have HW := Lib.hid hwr
    have H := Lib.hid HR
    clear hall hwr HR
    by_cases e : i < c
    · have ci : (i : Int) < (c : Int) := by omega
      have c0 : (0 : Int) ≤ (i : Int) := by omega
      obtain ⟨oa', cap', hv, hsh⟩ := hsh
      obtain ⟨rfl, rfl⟩ : oa = oa' ∧ cap = cap' := by cases hv; exact ⟨rfl, rfl⟩
      obtain ⟨g, rfl, _, _, hcl⟩ := hsh (by omega)
      have hci := hcl i e
      clear hv
      have HF := Lib.hid (fun k => free_inv ((H.out.bud i e).drewN k) (H.out.inv i e))
      have hs := (H.out.inv i e).sum_le
      obtain ⟨sf, hsf⟩ : ∃ sf, Bu.sumF (F i) 11 = sf := ⟨_, rfl⟩
      rw [hsf] at HF hs
      have HSF := Lib.hid hsf
      clear hcl hsf
      by_cases es : sf = each
      · have hd : ((sf : Int) != (each : Int)) = false := by rw [es]; simp
        have ES := Lib.hid es
        clear es
        go_wp2_with fail
        go_quiet ((go_at_call 30; exact quiet_left (HF.out _)))
        go_wp2_with fail
        go_roundw
        case rel =>
          refine ⟨i + 1, m + nq, by go_num, by omega, fun j hj => ?_, by rw [HW.out, World.drewN_drewN]⟩
          by_cases ej : j = i
          · rw [ej, HSF.out, ES.out]
          · exact HA.out j (by omega)
        case measure => simp [intOf]; omega
      · have hd : ((sf : Int) != (each : Int)) = true := by simp; omega
        have ES := Lib.hid es
        clear es
        go_wp2_with fail
        go_quiet ((go_at_call 30; exact quiet_left (HF.out _)))
        go_wp2_with fail
        go_ret
        exact ⟨by rw [wholeH_false e (by rw [HSF.out]; exact ES.out)]; rfl, m + nq, by rw [HW.out, World.drewN_drewN]⟩
    · have ci : ¬ (i : Int) < (c : Int) := by omega
      go_wp2_with fail
      go_ret
      exact ⟨by rw [wholeH_true (each := each) (fun j hj => HA.out j (by omega))]; rfl, m, HW.out⟩

set_option maxHeartbeats 400000 in
theorem hwhole_nil (w : World) : Calls Tryd.prog 39 #[.pointer none] w fun e w' => e = .returned (.bool false) ∧ w = w' := by
  go_enter Tryd.func39, Tryd.ntmps39
  go_wp2_with fail
  go_ret
  exact ⟨rfl, rfl⟩


end

end Go.Proofs.YtikahcbkeempdaaDoor
