/- Free: how many frames are free. -/
import Derived.Test.YtikahcbkeempdaaBits
import Derived.Test.YtikahcbkeempdaaBud
import Derived.Deep.MidRow
namespace Go.Proofs.Ytikahcbkeempdaa
open Go.RowKit Go.Maps

def mapsL (b : Nat) : List Value := [.map (some (b + 2)), .map (some (b + 3)), .map (some (b + 4)), .map (some (b + 5)), .map (some (b + 6)), .map (some (b + 7)), .map (some (b + 8)), .map (some (b + 9)), .map (some (b + 10)), .map (some (b + 11)), .map (some (b + 12))]
theorem range_maps {w : World} {b n : Nat} {F T} (hB : Bud w b n F T) : w.rangeAt (b + 1) 1 (mapsL b) := by
  have := World.rangeAt_of_block hB.blk 1 11
  simpa [budCells, mapsL] using this
theorem info_maps : (Try.prog.info? 106).map (·.size) = some 11 := by kernel_rfl

theorem index_maps (b k : Nat) (hk : k ≤ 10) (w : World) : (Instr.index 106 (.agg (mapsL b).toArray) (.int .i64 (k : Int))).run Try.prog w = .ok (.map (some (b + 2 + k))) w := by
  have : k = 0 ∨ k = 1 ∨ k = 2 ∨ k = 3 ∨ k = 4 ∨ k = 5 ∨ k = 6 ∨ k = 7 ∨ k = 8 ∨ k = 9 ∨ k = 10 := by omega
  rcases this with rfl | rfl | rfl | rfl | rfl | rfl | rfl | rfl | rfl | rfl | rfl <;> (show _ = _; kernel_rfl)

set_option maxRecDepth 100000 in
set_option maxHeartbeats 1000000 in
theorem free_any {w : World} {b n : Nat} {F T} (hB : Bud w b n F T) (hs : Bu.sumF F 11 ≤ 1024) :
    Calls Try.prog 31 #[.pointer (some ⟨b + 1, 0, none⟩)] w fun e w' => e = .returned (.int .i64 (Bu.sumF F 11 : Int)) ∧ w = w' := by
  have hr := Lib.hid (range_maps hB)
  go_enter Try.func31, Try.ntmps31
  go_wp2_with (first
    | (refine wpList_load_mid rfl 106 _ rfl (b + 1) 1 rfl (mapsL b) _ hr.out Try.underlying106 rfl info_maps ?_)
    | go_in)
  go_loop [12, 3] (fun i s => ∃ k : Nat, k ≤ 11 ∧ i = .int .i64 (k : Int) ∧ s = .int .i64 (Bu.sumF F k : Int)) (fun i _ => 11 - (intOf i).toNat)
  case atStart => exact ⟨0, by omega, rfl, rfl⟩
  case round =>
    obtain ⟨k, hk, rfl, rfl⟩ := hrel
    by_cases e : k = 11
    · have hd : decide ((k : Int) < 11) = false := by simp; omega
      have E := Lib.hid e
      clear e
      go_wp2
      go_ret
      rw [E.out]
      exact ⟨rfl, rfl⟩
    · have hidx := index_maps b k (by omega) w
      have hlen := fun ty => (hB.sets k (by omega)).len ty
      have h1 := Bu.sumF_mono F (show k + 1 ≤ 11 by omega)
      have h2 : Bu.sumF F (k + 1) = Bu.sumF F k + (F k).length * 2 ^ k := rfl
      have hm : (((F k).length * 2 ^ k : Nat) : Int) = ((F k).length : Int) * 2 ^ k := by rw [Int.natCast_mul, Int.natCast_pow]; rfl
      have ew : IntKind.i64.wrap (((F k).length : Int) * 2 ^ k) = ((F k).length : Int) * 2 ^ k := IntWalk.i64_in _ (by omega)
      have ew2 : IntKind.i64.wrap ((Bu.sumF F k : Int) + ((F k).length : Int) * 2 ^ k) = (Bu.sumF F (k + 1) : Int) := by
        rw [h2, Int.natCast_add, hm]; exact IntWalk.i64_in _ (by omega)
      have e2 : (k : Int) < 11 := by omega
      clear h1 h2 hm
      go_wp2
      go_round
      case rel => exact ⟨k + 1, by omega, by go_num, rfl⟩
      case measure => simp [intOf]; omega


set_option maxHeartbeats 400000 in
theorem free_nil (w : World) :
    Calls Try.prog 31 #[.pointer none] w fun e w' => e = .returned (.int .i64 0) ∧ w = w' := by
  go_enter Try.func31, Try.ntmps31
  go_wp2
  go_ret
  exact ⟨rfl, rfl⟩

end Go.Proofs.Ytikahcbkeempdaa
