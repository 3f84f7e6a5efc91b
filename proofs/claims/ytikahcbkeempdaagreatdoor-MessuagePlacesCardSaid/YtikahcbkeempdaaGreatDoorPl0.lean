/- nodeset: All, Has, Count walked; policy: sets, Check, Permitted, Start of a Bind walked. -/
import Derived.Test.YtikahcbkeempdaaGreatDoorGen0
import Derived.Test.YtikahcbkeempdaaGreatDoorShelf2
namespace Go.Proofs.YtikahcbkeempdaaGreatDoor
open Go.RowKit Go.Maps

theorem pow_u8A : ∀ n ∈ List.range 8, ((2 : Int) ^ n - 1) % 256 = ((2 ^ n - 1 : Nat) : Int) := by decide
theorem pow_u8 (n : Nat) (hn : n ≤ 7) : ((2 : Int) ^ n - 1) % 256 = ((2 ^ n - 1 : Nat) : Int) := pow_u8A n (List.mem_range.2 (by omega))
theorem has_u8A : ∀ s ∈ List.range 64, ∀ j ∈ List.range 8, (bits BinOp.and IntKind.u8 ((s : Int) / 2 ^ j) 1 == 1) = s.testBit j := by decide +kernel
theorem has_u8 (s j : Nat) (hs : s < 64) (hj : j < 8) : (bits BinOp.and IntKind.u8 ((s : Int) / 2 ^ j) 1 == 1) = s.testBit j := has_u8A s (List.mem_range.2 hs) j (List.mem_range.2 hj)
theorem sets_u8A : ∀ n ∈ List.range 7, ∀ s ∈ List.range (2 ^ n), (bits BinOp.andNot IntKind.u8 (s : Int) ((2 ^ n - 1 : Nat) : Int) != 0) = false := by decide +kernel
theorem sets_u8 (n s : Nat) (hn : n ≤ 6) (hs : s < 2 ^ n) : (bits BinOp.andNot IntKind.u8 (s : Int) ((2 ^ n - 1 : Nat) : Int) != 0) = false := sets_u8A n (List.mem_range.2 (by omega)) s (List.mem_range.2 hs)
theorem and_u8A : ∀ n ∈ List.range 7, ∀ s ∈ List.range 256, bits BinOp.and IntKind.u8 (s : Int) ((2 ^ n - 1 : Nat) : Int) = ((s &&& (2 ^ n - 1) : Nat) : Int) := by decide +kernel
theorem and_u8 (n s : Nat) (hn : n ≤ 6) (hs : s < 256) : bits BinOp.and IntKind.u8 (s : Int) ((2 ^ n - 1 : Nat) : Int) = ((s &&& (2 ^ n - 1) : Nat) : Int) := and_u8A n (List.mem_range.2 (by omega)) s (List.mem_range.2 hs)
theorem ones_u8A : ∀ n ∈ List.range 7, ∀ s ∈ List.range (2 ^ n), Lib.onesCount s = ((((List.range n).filter (s.testBit ·)).length : Nat) : Int) := by decide +kernel
theorem ones_u8 (n s : Nat) (hn : n ≤ 6) (hs : s < 2 ^ n) : Lib.onesCount s = ((((List.range n).filter (s.testBit ·)).length : Nat) : Int) := ones_u8A n (List.mem_range.2 (by omega)) s (List.mem_range.2 hs)

set_option maxHeartbeats 400000 in
theorem nsall_any (n : Nat) (hn : n ≤ 7) (w : World) : Calls Tryz.prog 5 #[.int .i64 (n : Int)] w fun e w' => e = .returned (.tuple #[.int .u8 ((2 ^ n - 1 : Nat) : Int), .int .i64 0]) ∧ w = w' := by
  have h0 : ¬ (n : Int) < 0 := by omega
  have h8 : ¬ (8 : Int) < (n : Int) := by omega
  have hv := Lib.hid (pow_u8 n hn)
  go_enter Tryz.func5, Tryz.ntmps5
  go_wp2_with fail
  go_ret2
  exact ⟨by rw [hv.out]; rfl, rfl⟩
set_option maxHeartbeats 400000 in
theorem nsright_any (j : Nat) (hj : j < 8) (w : World) : Calls Tryz.prog 25 #[.int .i64 (j : Int)] w fun e w' => e = .returned (.bool true) ∧ w = w' := by
  have h0 : (0 : Int) ≤ (j : Int) := by omega
  have h8 : (j : Int) < 8 := by omega
  go_enter Tryz.func25, Tryz.ntmps25
  go_wp2_with fail
  go_ret
  exact ⟨rfl, rfl⟩
set_option maxHeartbeats 400000 in
theorem nshas_any (s j : Nat) (hs : s < 64) (hj : j < 8) (w : World) : Calls Tryz.prog 12 #[.int .u8 (s : Int), .int .i64 (j : Int)] w fun e w' => e = .returned (.bool (s.testBit j)) ∧ w = w' := by
  have h0 : (0 : Int) ≤ (j : Int) := by omega
  have h8 : (j : Int) < 8 := by omega
  have H := Lib.hid (has_u8 s j hs hj)
  go_enter Tryz.func12, Tryz.ntmps12
  go_wp2_with fail
  refine (nsright_any j hj _).mono ?_
  rintro e w1 ⟨rfl, rfl⟩
  go_wp2_with fail
  go_ret
  exact ⟨congrArg (fun b => Ending.returned (Value.bool b)) H.out, rfl⟩
set_option maxHeartbeats 400000 in
theorem nscount_any (s : Nat) (hs : s < 64) (w : World) : Calls Tryz.prog 9 #[.int .u8 (s : Int)] w fun e w' => e = .returned (.int .i64 (Lib.onesCount s)) ∧ w = w' := by
  have H := Lib.hid (Tryz.bits_OnesCount8 (s : Int) w (by omega) (by omega))
  go_enter Tryz.func9, Tryz.ntmps9
  go_wp2_with fail
  refine H.out.mono ?_
  rintro e w1 ⟨rfl, hw⟩
  subst hw
  go_wp2_with fail
  go_ret
  exact ⟨rfl, rfl⟩
set_option maxHeartbeats 400000 in
theorem plsets_any (n s : Nat) (hn : n ≤ 6) (hs : s < 2 ^ n) (h0 : 0 < s) (w : World) : Calls Tryz.prog 47 #[.int .u8 (s : Int), .int .i64 (n : Int)] w fun e w' => e = .returned (.int .i64 0) ∧ w = w' := by
  have hz : ¬ (s : Int) = 0 := by omega
  have hz2 : ((s : Int) == 0) = false := by rw [beq_eq_false_iff_ne]; exact hz
  have hu := sets_u8 n s hn hs
  go_enter Tryz.func47, Tryz.ntmps47
  go_wp2_with fail
  refine (nsall_any n (by omega) _).mono ?_
  rintro e w1 ⟨rfl, rfl⟩
  go_wp2_with fail
  go_ret
  exact ⟨rfl, rfl⟩

/-- The policy: Bind to the set s. -/
def bindP (s : Nat) : Value := .agg #[.int .i64 1, .int .u8 (s : Int), .int .i64 0]
set_option maxHeartbeats 1000000 in
theorem plcheck_any (n s : Nat) (h1 : 1 ≤ n) (hn : n ≤ 6) (hs : s < 2 ^ n) (h0 : 0 < s) (w : World) : Calls Tryz.prog 36 #[.agg #[.int .i64 1, .int .u8 (s : Int), .int .i64 0], .int .i64 (n : Int)] w fun e w' => e = .returned (.int .i64 0) ∧ Below w.heap.size w w' := by
  have c1 : ¬ (n : Int) < 1 := by omega
  have c2 : ¬ (8 : Int) < (n : Int) := by omega
  have HS := Lib.hid (fun w' => plsets_any n s hn hs h0 w')
  clear hs
  go_enter Tryz.func36, Tryz.ntmps36
  go_wp2_with fail
  refine (HS.out _).mono ?_
  rintro e w1 ⟨rfl, hw⟩
  subst hw
  go_wp2_with fail
  go_ret
  exact ⟨rfl, (Below.refl _ _).alloc (Nat.le_refl _) _⟩
set_option maxHeartbeats 1000000 in
theorem plperm_any (n s : Nat) (h1 : 1 ≤ n) (hn : n ≤ 6) (hs : s < 2 ^ n) (h0 : 0 < s) (w : World) : Calls Tryz.prog 21 #[.agg #[.int .i64 1, .int .u8 (s : Int), .int .i64 0], .int .i64 (n : Int)] w fun e w' => e = .returned (.tuple #[.int .u8 (s : Int), .int .i64 0]) ∧ Below w.heap.size w w' := by
  have HS := Lib.hid (fun w' => plcheck_any n s h1 hn hs h0 w')
  clear hs
  go_enter Tryz.func21, Tryz.ntmps21
  go_wp2_with fail
  refine (HS.out _).mono ?_
  rintro e w1 ⟨rfl, hb⟩
  have k0 := hb.cell (p := ⟨w.heap.size, 0, none⟩) (by simp)
  have k1 := hb.cell (p := ⟨w.heap.size, 1, none⟩) (by simp)
  have HB := Lib.hid hb
  clear hb
  go_wp2_with fail
  go_ret2
  exact ⟨rfl, ((Below.refl _ _).alloc (Nat.le_refl _) _).trans (HB.out.mono (by simp))⟩
set_option maxHeartbeats 1000000 in
theorem plstart_any (n s k : Nat) (c : Int) (h1 : 1 ≤ n) (hn : n ≤ 6) (hs : s < 2 ^ n) (h0 : 0 < s) (hk : k < n) (w : World) : Calls Tryz.prog 22 #[.agg #[.int .i64 1, .int .u8 (s : Int), .int .i64 0], .int .i64 (n : Int), .int .i64 (k : Int), .int .i64 c] w fun e w' => e = .returned (.tuple #[.int .i64 (k : Int), .int .i64 c, .int .i64 0]) ∧ Below w.heap.size w w' := by
  have HS := Lib.hid (fun w' => plcheck_any n s h1 hn hs h0 w')
  have c1 : ¬ (k : Int) < 0 := by omega
  have c2 : ¬ (n : Int) ≤ (k : Int) := by omega
  clear hs
  go_enter Tryz.func22, Tryz.ntmps22
  go_wp2_with fail
  refine (HS.out _).mono ?_
  rintro e w1 ⟨rfl, hb⟩
  have k0 := hb.cell (p := ⟨w.heap.size, 0, none⟩) (by simp)
  have HB := Lib.hid hb
  clear hb
  go_wp2_with fail
  refine bodyPost_ret (v := .tuple #[.int .i64 (k : Int), .int .i64 c, .int .i64 0]) (by simp [results, Tryz.results22, go_sem]) rfl ⟨rfl, ?_⟩
  exact ((Below.refl _ _).alloc (Nat.le_refl _) _).trans (HB.out.mono (by simp))
end Go.Proofs.YtikahcbkeempdaaGreatDoor
