/- heap: Give, Whole walked. -/
import Derived.Test.YtikahcbkeempdaaHeap3
import Derived.StillTailTactics
namespace Go.Proofs.Ytikahcbkeempdaa
open Go.RowKit Go.Maps

set_option maxHeartbeats 400000 in
theorem hgive_nil (f o : Int) (w : World) : Calls Try.prog 56 #[.pointer none, .int .i64 f, .int .i64 o] w fun e w' => e = .returned (.int .i64 1) ∧ ∃ m, w' = w.drewN m := by
  go_enter Try.func56, Try.ntmps56
  go_wp2_with fail
  go_quiet (fail)
  go_wp2_with fail
  go_ret
  exact ⟨rfl, _, rfl⟩

section
variable {w : World} {hp each c : Nat} {mn lo hi : Int} {nv : Value} {bb : Nat → Nat} {F : Nat → Nat → List Nat} {T : Nat → List (Nat × Nat)}

set_option maxHeartbeats 1000000 in
theorem hgive_no (h : HeapAt w hp each mn lo hi c nv bb F T) (he : each ≤ 1024) (hc : c ≤ 8) (f o : Int) (hf : f < 0 ∨ ((each * c : Nat) : Int) ≤ f) :
    Calls Try.prog 56 #[.pointer (some ⟨hp, 0, none⟩), .int .i64 f, .int .i64 o] w fun e w' => e = .returned (.int .i64 1) ∧ ∃ m, w' = w.drewN m := by
  have h0 := h.c0
  have h4 := h.c4
  obtain ⟨oa, cap, rfl, _⟩ := h.shape
  have hmul : each * c ≤ 1024 * 8 := Nat.mul_le_mul he hc
  have w1' : IntKind.i64.wrap ((each : Int) * (c : Int)) = ((each * c : Nat) : Int) := by rw [← Int.natCast_mul]; exact IntWalk.i64_in _ (by omega)
  generalize each * c = M at *
  clear h
  by_cases hn : f < 0
  · have hd : decide (f < 0) = true := by simpa using hn
    go_enter Try.func56, Try.ntmps56
    go_wp2_with fail
    go_quiet (fail)
    go_wp2_with fail
    go_ret
    exact ⟨rfl, _, rfl⟩
  · have hd : decide (f < 0) = false := by simpa using hn
    have hd2 : decide ((M : Int) ≤ f) = true := by
      rw [decide_eq_true_eq]; omega
    go_enter Try.func56, Try.ntmps56
    go_wp2_with fail
    go_quiet (fail)
    go_wp2_with fail
    go_ret
    exact ⟨rfl, _, rfl⟩

set_option maxRecDepth 100000 in
set_option maxHeartbeats 1000000 in
theorem hgive_at (h : HeapAt w hp each mn lo hi c nv bb F T) (he : each ≤ 1024) (hc : c ≤ 8) (i a : Nat) (hi' : i < c) (ha : a < each) (o g : Int) (R : World → Prop)
    (K : ∀ m, Calls Try.prog 33 #[.pointer (some ⟨bb i + 1, 0, none⟩), .int .i64 (a : Int), .int .i64 o] (w.drewN m) fun e w' => e = .returned (.int .i64 g) ∧ R w') :
    Calls Try.prog 56 #[.pointer (some ⟨hp, 0, none⟩), .int .i64 ((i * each + a : Nat) : Int), .int .i64 o] w fun e w' => e = .returned (.int .i64 g) ∧ R w' := by
  have h0 := h.c0
  have h4 := h.c4
  obtain ⟨oa, cap, rfl, hsh⟩ := h.shape
  obtain ⟨gb, rfl, _, _, hcl⟩ := hsh (by omega)
  have hci := hcl i hi'
  have hmul : each * c ≤ 1024 * 8 := Nat.mul_le_mul he hc
  have hlt : i * each + a < each * c := by
    have h1 : (i + 1) * each ≤ c * each := Nat.mul_le_mul_right _ (by omega)
    rw [Nat.add_mul, Nat.one_mul] at h1
    rw [Nat.mul_comm each c]
    omega
  have w1' : IntKind.i64.wrap ((each : Int) * (c : Int)) = ((each * c : Nat) : Int) := by rw [← Int.natCast_mul]; exact IntWalk.i64_in _ (by omega)
  have hq : (i * each + a) / each = i := by
    rw [Nat.mul_comm, Nat.mul_add_div (by omega), Nat.div_eq_of_lt ha]; omega
  have hr : (i * each + a) % each = a := by
    rw [Nat.mul_comm, Nat.mul_add_mod, Nat.mod_eq_of_lt ha]
  obtain ⟨f, hf⟩ : ∃ f, i * each + a = f := ⟨_, rfl⟩
  rw [hf] at hq hr hlt ⊢
  have hqi : (f : Int).tdiv (each : Int) = (i : Int) := by
    rw [Int.tdiv_eq_ediv_of_nonneg (by omega), ← Int.natCast_ediv, hq]
  have hri : (f : Int).tmod (each : Int) = (a : Int) := by
    rw [Int.tmod_eq_emod_of_nonneg (by omega), ← Int.natCast_emod, hr]
  have e0 : ((each : Int) == 0) = false := by rw [beq_eq_false_iff_ne]; omega
  have e1 : ¬ (each : Int) = 0 := by omega
  have e2 : ¬ each = 0 := by omega
  have wi : IntKind.i64.wrap (i : Int) = (i : Int) := IntWalk.i64_in _ (by omega)
  have wa : IntKind.i64.wrap (a : Int) = (a : Int) := IntWalk.i64_in _ (by omega)
  have c2 : (i : Int) < (c : Int) := by omega
  have c3 : (0 : Int) ≤ (i : Int) := by omega
  generalize each * c = M at *
  have hd : decide ((f : Int) < 0) = false := by simp
  have hd2 : decide (M ≤ f) = false := by simp; omega
  have hd3 : decide ((M : Int) ≤ (f : Int)) = false := by simp; omega
  have HK := Lib.hid K
  clear h hsh hcl K hq hr hf hlt hmul
  go_enter Try.func56, Try.ntmps56
  go_wp2_with fail
  go_quiet (fail)
  go_wp2_with fail
  have K2 : Calls Try.prog 33 #[.pointer (some ⟨bb i + 1, 0, none⟩), .int .i64 (a : Int), .int .i64 o] (w.drewN nq).drew fun e w' => e = .returned (.int .i64 g) ∧ R w' := HK.out (nq + 1)
  have HK2 := Lib.hid K2
  have h0' : (w.drewN nq).cell? ⟨hp, 0, none⟩ = some (.int .i64 (each : Int)) := h0
  have h4' : (w.drewN nq).cell? ⟨hp, 4, none⟩ = some (.slice (some ⟨gb, 0, none⟩) c cap) := h4
  have hci' : (w.drewN nq).cell? ⟨gb, i, none⟩ = some (.pointer (some ⟨bb i + 1, 0, none⟩)) := hci
  clear K2 h0 h4 hci
  generalize w.drewN nq = wq at *
  go_still_tail 19, (by kernel_rfl)
  change wpList _ _ _ _ _ wq.drew
  go_wp2_with fail
  refine HK2.out.mono ?_
  rintro e w2 ⟨rfl, hR⟩
  go_wp2_with fail
  go_ret
  exact ⟨rfl, hR⟩

end
end Go.Proofs.Ytikahcbkeempdaa
