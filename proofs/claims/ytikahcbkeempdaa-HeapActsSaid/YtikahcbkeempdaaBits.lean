/- Bits of small numbers: the buddy of a block, and the block that holds both. -/
import Derived.Test.YtikahcbkeempdaaBuStep
import Derived.WalkKit
namespace Go.Proofs.Ytikahcbkeempdaa
open Go.RowKit

theorem small_xor : ∀ x, x < 1025 → ∀ k, k < 11 → x % 2 ^ k = 0 → x ^^^ 2 ^ k = Bu.bud x k := by decide +kernel
theorem small_andNot : ∀ x, x < 1025 → ∀ k, k < 11 → x % 2 ^ k = 0 → x &&& (18446744073709551616 - 1 - 2 ^ k) = x / 2 ^ (k + 1) * 2 ^ (k + 1) := by decide +kernel

theorem castPow (k : Nat) : (2 : Int) ^ k = ((2 ^ k : Nat) : Int) := by rw [Int.natCast_pow]; rfl

theorem pow1024 {k : Nat} (hk : k ≤ 10) : 2 ^ k ≤ 1024 := Nat.pow_le_pow_right (n := 2) (by omega) hk

theorem bits_xor {x k : Nat} (hx : x ≤ 1024) (hk : k ≤ 10) (h : x % 2 ^ k = 0) : bits .xor .i64 (x : Int) (2 ^ k) = (Bu.bud x k : Int) := by
  have hp := pow1024 hk
  rw [← small_xor x (by omega) k (by omega) h, castPow]
  have h1 : x % 2 ^ 64 = x := Nat.mod_eq_of_lt (by omega)
  have h2 : 2 ^ k % 2 ^ 64 = 2 ^ k := Nat.mod_eq_of_lt (by omega)
  have hlt : x ^^^ 2 ^ k < 2 ^ 11 := Nat.xor_lt_two_pow (by omega) (by omega)
  simp only [bits, IntKind.bits, BitVec.ofInt_natCast]
  show IntKind.i64.wrap (((BitVec.ofNat 64 x ^^^ BitVec.ofNat 64 (2 ^ k)).toNat : Nat) : Int) = _
  rw [BitVec.toNat_xor, BitVec.toNat_ofNat, BitVec.toNat_ofNat, h1, h2]
  exact IntWalk.i64_in _ ⟨by omega, by omega⟩

theorem bits_andNot {x k : Nat} (hx : x ≤ 1024) (hk : k ≤ 10) (h : x % 2 ^ k = 0) : bits .andNot .i64 (x : Int) (2 ^ k) = ((x / 2 ^ (k + 1) * 2 ^ (k + 1) : Nat) : Int) := by
  have hp := pow1024 hk
  rw [← small_andNot x (by omega) k (by omega) h, castPow]
  have h1 : x % 2 ^ 64 = x := Nat.mod_eq_of_lt (by omega)
  have h2 : 2 ^ k % 2 ^ 64 = 2 ^ k := Nat.mod_eq_of_lt (by omega)
  have hle : x &&& (18446744073709551616 - 1 - 2 ^ k) ≤ x := Nat.and_le_left
  simp only [bits, IntKind.bits, BitVec.ofInt_natCast]
  show IntKind.i64.wrap (((BitVec.ofNat 64 x &&& ~~~ BitVec.ofNat 64 (2 ^ k)).toNat : Nat) : Int) = _
  rw [BitVec.toNat_and, BitVec.toNat_not, BitVec.toNat_ofNat, BitVec.toNat_ofNat, h1, h2, show 2 ^ 64 - 1 - 2 ^ k = 18446744073709551616 - 1 - 2 ^ k from rfl]
  exact IntWalk.i64_in _ ⟨by omega, by omega⟩

end Go.Proofs.Ytikahcbkeempdaa
