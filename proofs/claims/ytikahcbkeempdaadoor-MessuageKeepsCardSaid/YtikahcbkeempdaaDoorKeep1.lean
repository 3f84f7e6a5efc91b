/- Spans: taking and giving. -/
import Derived.Test.YtikahcbkeempdaaDoorKeep0
import Derived.Deep.Cut
import Derived.Deep.QuietTactic
import Derived.BigQuiet
import Derived.Deep.RegionHeld3
namespace Go.Proofs.YtikahcbkeempdaaDoor
open Go.RowKit Go.Maps

/-- The lowest bit that is not set. -/
def lowBit (m : Nat) : Nat := Lib.trailingZeros8 (255 - m)
theorem mask_not : ∀ m : Fin 256, bits .xor .u8 IntKind.u8.max (m.val : Int) = 255 - (m.val : Int) := by decide +kernel
theorem mask_take8 : ∀ m : Fin 256, m.val ≠ 255 → (lowBit m.val < 8 ∧ m.val.testBit (lowBit m.val) = false ∧ m.val + 2 ^ lowBit m.val < 256 ∧ Lib.onesCount (m.val + 2 ^ lowBit m.val) = Lib.onesCount m.val + 1 ∧
    (bits .or .u8 (m.val : Int) ((2 : Int) ^ lowBit m.val % 256) = ((m.val + 2 ^ lowBit m.val : Nat) : Int)) ∧
    (∀ j : Fin 8, (m.val + 2 ^ lowBit m.val).testBit j.val = (m.val.testBit j.val || (j.val == lowBit m.val)))) := by decide +kernel
theorem mask_take4 : ∀ m : Fin 16, m.val ≠ 15 → (lowBit m.val < 4 ∧ m.val + 2 ^ lowBit m.val < 16) := by decide +kernel
theorem mask_give8 : ∀ (m : Fin 256) (i : Fin 8), m.val.testBit i.val = true → (2 ^ i.val ≤ m.val ∧ (m.val - 2 ^ i.val).testBit i.val = false ∧ Lib.onesCount (m.val - 2 ^ i.val) + 1 = Lib.onesCount m.val ∧
    (bits .andNot .u8 (m.val : Int) ((2 : Int) ^ i.val % 256) = ((m.val - 2 ^ i.val : Nat) : Int)) ∧
    (∀ j : Fin 8, (m.val - 2 ^ i.val).testBit j.val = (m.val.testBit j.val && !(j.val == i.val)))) := by decide +kernel
theorem mask_ones : (∀ m : Fin 256, Lib.onesCount m.val ≤ 8) ∧ ∀ m : Fin 16, Lib.onesCount m.val ≤ 4 := by decide +kernel
theorem mask_has : ∀ (m : Fin 256) (i : Fin 8), (bits .and .u8 ((m.val : Int) / 2 ^ i.val) 1 == 1) = m.val.testBit i.val := by decide +kernel
theorem mask_full : lowBit 255 = 8 ∧ lowBit 15 = 4 := by decide +kernel

theorem keptSet (w : World) (sp j : Nat) (v : Value) : Kept sp (sp + 1) w (w.setCell ⟨sp, j, none⟩ v).drew := by
  have h : Kept sp (sp + 1) w (w.setCell ⟨sp, j, none⟩ v) := (Kept.refl _ _ _).setCell _ (.inl ⟨Nat.le_refl _, Nat.lt_succ_self _⟩)
  exact ⟨h.os, h.tape, h.output, h.size, h.block⟩

set_option maxHeartbeats 1000000 in
theorem spanTake_x {w : World} {sp k n m t : Nat} (h : SpanAt w sp k n m) (hm : m < 256) (ht : lowBit m = t) (htn : t < n) (hm' : m ≠ 255) :
    Calls Tryd.prog 12 #[.pointer (some ⟨sp, 0, none⟩)] w fun e w' => e = .returned (.tuple #[.int .i64 (t : Int), .int .i64 0]) ∧ SpanAt w' sp k n (m + 2 ^ t) ∧ Kept sp (sp + 1) w w' := by
  have h2 := h.c2
  have h3 := h.c3
  have hf := h.f3
  have hz := Tryd.bits_TrailingZeros8 (255 - (m : Int)) w (by omega) (by omega)
  rw [show (255 - (m : Int)).toNat = 255 - m by omega, show Lib.trailingZeros8 (255 - m) = t from ht] at hz
  rw [← mask_not ⟨m, hm⟩] at hz
  have hor := (mask_take8 ⟨m, hm⟩ hm').2.2.2.2.1
  simp only [ht] at hor
  have ht8 : t < 8 := by rw [← ht]; exact (mask_take8 ⟨m, hm⟩ hm').1
  have c1 : ¬ (n : Int) ≤ (t : Int) := by omega
  have H := Lib.hid h
  clear h ht
  go_enter Tryd.func12, Tryd.ntmps12
  go_wp2_with fail
  refine hz.mono ?_
  rintro e w' ⟨rfl, rfl⟩
  go_wp2_with fail
  go_region
  all_goals go_wp2_with fail
  all_goals go_ret2
  all_goals refine ⟨rfl, ?_, ?_⟩
  all_goals first
    | (have e := H.out.set (m + 2 ^ t); rw [show ((m + 2 ^ t : Nat) : Int) = (m : Int) + 2 ^ t by simp] at e; exact e.same rfl)
    | exact keptSet _ _ _ _

set_option maxHeartbeats 1000000 in
theorem spanTake_full {w : World} {sp k n m : Nat} (h : SpanAt w sp k n m) (hm : m < 256) (htn : n ≤ lowBit m) :
    Calls Tryd.prog 12 #[.pointer (some ⟨sp, 0, none⟩)] w fun e w' => e = .returned (.tuple #[.int .i64 0, .int .i64 14]) ∧ w = w' := by
  have h2 := h.c2
  have h3 := h.c3
  obtain ⟨t, ht⟩ : ∃ t, lowBit m = t := ⟨_, rfl⟩
  have hz := Tryd.bits_TrailingZeros8 (255 - (m : Int)) w (by omega) (by omega)
  rw [show (255 - (m : Int)).toNat = 255 - m by omega, show Lib.trailingZeros8 (255 - m) = t from ht] at hz
  rw [← mask_not ⟨m, hm⟩] at hz
  have c1 : (n : Int) ≤ (t : Int) := by omega
  clear h ht
  go_enter Tryd.func12, Tryd.ntmps12
  go_wp2_with fail
  refine hz.mono ?_
  rintro e w' ⟨rfl, rfl⟩
  go_wp2_with fail
  go_ret2
  exact ⟨rfl, rfl⟩

set_option maxHeartbeats 1000000 in
theorem spanUsed_any {w : World} {sp k n m : Nat} (h : SpanAt w sp k n m) (hm : m < 256) :
    Calls Tryd.prog 21 #[.pointer (some ⟨sp, 0, none⟩)] w fun e w' => e = .returned (.int .i64 (Lib.onesCount m : Int)) ∧ w = w' := by
  have h3 := h.c3
  have hz := Tryd.bits_OnesCount8 (m : Int) w (by omega) (by omega)
  rw [Int.toNat_natCast] at hz
  clear h
  go_enter Tryd.func21, Tryd.ntmps21
  go_wp2_with fail
  refine hz.mono ?_
  rintro e w' ⟨rfl, rfl⟩
  go_wp2_with fail
  go_ret
  exact ⟨rfl, rfl⟩

set_option maxHeartbeats 1000000 in
theorem spanHas_any {w : World} {sp k n m i : Nat} (h : SpanAt w sp k n m) (hm : m < 256) (hi : i < n) (hi8 : i < 8) :
    Calls Tryd.prog 19 #[.pointer (some ⟨sp, 0, none⟩), .int .i64 (i : Int)] w fun e w' => e = .returned (.bool (m.testBit i)) ∧ w = w' := by
  have h2 := h.c2
  have h3 := h.c3
  have c1 : (i : Int) < (n : Int) := by omega
  clear h
  go_enter Tryd.func19, Tryd.ntmps19
  go_wp2_with fail
  go_ret
  refine ⟨?_, rfl⟩
  exact congrArg (fun b => Ending.returned (Value.bool b)) (mask_has ⟨m, hm⟩ ⟨i, hi8⟩)

set_option maxHeartbeats 1000000 in
theorem spanGive_x {w : World} {sp k n m i : Nat} (h : SpanAt w sp k n m) (hm : m < 256) (hi : i < n) (hi8 : i < 8) (hb : m.testBit i = true) :
    Calls Tryd.prog 17 #[.pointer (some ⟨sp, 0, none⟩), .int .i64 (i : Int)] w fun e w' => e = .returned (.int .i64 0) ∧ SpanAt w' sp k n (m - 2 ^ i) ∧ Kept sp (sp + 1) w w' := by
  have h3 := h.c3
  have hf := h.f3
  have hh := spanHas_any h hm hi hi8
  rw [hb] at hh
  have hor := (mask_give8 ⟨m, hm⟩ ⟨i, hi8⟩ hb).2.2.2.1
  have H := Lib.hid h
  clear h
  go_enter Tryd.func17, Tryd.ntmps17
  go_wp2_with fail
  refine hh.mono ?_
  rintro e w' ⟨rfl, rfl⟩
  go_wp2_with fail
  go_region
  all_goals go_wp2_with fail
  all_goals go_ret
  all_goals refine ⟨rfl, ?_, ?_⟩
  all_goals first
    | exact (H.out.set _).same rfl
    | exact keptSet _ _ _ _
end Go.Proofs.YtikahcbkeempdaaDoor
