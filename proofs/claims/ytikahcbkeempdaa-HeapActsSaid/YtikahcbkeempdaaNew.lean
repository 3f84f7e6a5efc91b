/- New: so many frames, all free. -/
import Derived.Test.YtikahcbkeempdaaTake
import Derived.Test.YtikahcbkeempdaaBits
namespace Go.Proofs.Ytikahcbkeempdaa
open Go.RowKit Go.Maps
open Go.ChangeMaps (setBlock)

theorem small_pow : ∀ n, n < 1025 → 0 < n → n &&& (n - 1) = 0 → ∃ N, N < 11 ∧ n = 2 ^ N := by decide +kernel
theorem small_pow' : ∀ N, N < 11 → 2 ^ N &&& (2 ^ N - 1) = 0 := by decide +kernel

theorem bits_and_pred {n : Int} (h1 : 1 ≤ n) (h2 : n ≤ 1024) : bits .and .i64 n (n - 1) = ((n.toNat &&& (n.toNat - 1) : Nat) : Int) := by
  obtain ⟨m, rfl⟩ := Int.eq_ofNat_of_zero_le (show 0 ≤ n by omega)
  have e : (m : Int) - 1 = ((m - 1 : Nat) : Int) := by omega
  rw [e, Int.toNat_natCast]
  have h1 : m % 2 ^ 64 = m := Nat.mod_eq_of_lt (by omega)
  have h2 : (m - 1) % 2 ^ 64 = m - 1 := Nat.mod_eq_of_lt (by omega)
  have hle : m &&& (m - 1) ≤ m := Nat.and_le_left
  simp only [bits, IntKind.bits, BitVec.ofInt_natCast]
  show IntKind.i64.wrap (((BitVec.ofNat 64 m &&& BitVec.ofNat 64 (m - 1)).toNat : Nat) : Int) = _
  rw [BitVec.toNat_and, BitVec.toNat_ofNat, BitVec.toNat_ofNat, h1, h2]
  exact IntWalk.i64_in _ ⟨by omega, by omega⟩

set_option maxHeartbeats 400000 in
theorem new_no (n : Int) (w : World) (h : n < 1 ∨ 1024 < n ∨ (1 ≤ n ∧ n ≤ 1024 ∧ bits .and .i64 n (n - 1) ≠ 0)) :
    Calls Try.prog 28 #[.int .i64 n] w fun e w' => e = .returned (.tuple #[.pointer none, .int .i64 3]) ∧ w = w' := by
  rcases h with h | h | ⟨h1, h2, h3⟩
  · go_enter Try.func28, Try.ntmps28
    go_wp2
    go_ret2
    exact ⟨rfl, rfl⟩
  · go_enter Try.func28, Try.ntmps28
    go_wp2
    go_ret2
    exact ⟨rfl, rfl⟩
  · have hne : (bits .and .i64 n (n - 1) != 0) = true := by rw [bne_iff_ne]; exact h3
    clear h3
    go_enter Try.func28, Try.ntmps28
    go_wp2
    go_ret2
    exact ⟨rfl, rfl⟩

def pm (b k j : Nat) : Value := .map (if j < k then some (b + 2 + j) else none)
def partCells (b n k : Nat) : Array Value := #[.int .i64 (n : Int), pm b k 0, pm b k 1, pm b k 2, pm b k 3, pm b k 4, pm b k 5, pm b k 6, pm b k 7, pm b k 8, pm b k 9, pm b k 10, .map (some b)]

theorem part_cell {w : World} {b n k : Nat} (h : w.heap[b + 1]? = some (.cells (partCells b n k) 108 (0, 0))) (hk : k ≤ 10) : w.cell? ⟨b + 1, 1 + k, none⟩ = some (.map none) := by
  have : k = 0 ∨ k = 1 ∨ k = 2 ∨ k = 3 ∨ k = 4 ∨ k = 5 ∨ k = 6 ∨ k = 7 ∨ k = 8 ∨ k = 9 ∨ k = 10 := by omega
  rcases this with rfl | rfl | rfl | rfl | rfl | rfl | rfl | rfl | rfl | rfl | rfl <;> simp [World.cell?, h, partCells, pm]

theorem part_free {w : World} {b n k : Nat} (h : w.heap[b + 1]? = some (.cells (partCells b n k) 108 (0, 0))) (o : Nat) : w.frozen? ⟨b + 1, o, none⟩ = false := by
  simp [World.frozen?, h]

theorem part_set {w : World} {b n k : Nat} (h : w.heap[b + 1]? = some (.cells (partCells b n k) 108 (0, 0))) (hk : k ≤ 10) :
    (w.setCell ⟨b + 1, 1 + k, none⟩ (.map (some (b + 2 + k)))).heap[b + 1]? = some (.cells (partCells b n (k + 1)) 108 (0, 0)) := by
  have : k = 0 ∨ k = 1 ∨ k = 2 ∨ k = 3 ∨ k = 4 ∨ k = 5 ∨ k = 6 ∨ k = 7 ∨ k = 8 ∨ k = 9 ∨ k = 10 := by omega
  rcases this with rfl | rfl | rfl | rfl | rfl | rfl | rfl | rfl | rfl | rfl | rfl <;> simp [World.setCell, Array.getElem?_modify, h, partCells, pm]

theorem part_last (b n : Nat) : partCells b n 11 = budCells b n := by simp [partCells, budCells, pm]

def NewRel (w : World) (n : Nat) (i : Value) (wr : World) : Prop :=
  ∃ k : Nat, i = .int .i64 (k : Int) ∧ k ≤ 11 ∧ wr.heap.size = w.heap.size + 2 + k ∧ wr.heap[w.heap.size + 1]? = some (.cells (partCells w.heap.size n k) 108 (0, 0)) ∧
    (∀ j, j < k → SetMap wr (w.heap.size + 2 + j) (Bu.newF n j)) ∧ TakMap wr w.heap.size [] ∧ Below w.heap.size w wr

theorem new_rel_no {w wr : World} {n k : Nat} (hsz : wr.heap.size = w.heap.size + 2 + k) (hk : k ≤ 10) (hblk : wr.heap[w.heap.size + 1]? = some (.cells (partCells w.heap.size n k) 108 (0, 0)))
    (hsets : ∀ j, j < k → SetMap wr (w.heap.size + 2 + j) (Bu.newF n j)) (htak : TakMap wr w.heap.size []) (hnx : Below w.heap.size w wr) (hn : ¬ 2 ^ k = n) :
    NewRel w n (.int .i64 ((k : Int) + 1)) ((wr.alloc (.map #[] 0)).setCell ⟨w.heap.size + 1, 1 + k, none⟩ (.map (some (w.heap.size + 2 + k)))) := by
  have hother : ∀ i, i < wr.heap.size → i ≠ w.heap.size + 1 → ((wr.alloc (.map #[] 0)).setCell ⟨w.heap.size + 1, 1 + k, none⟩ (.map (some (w.heap.size + 2 + k)))).heap[i]? = wr.heap[i]? := fun i hi hne => by
    rw [Below.heap_setCell _ _ _ _ (by show i ≠ w.heap.size + 1; exact hne), Below.heap_alloc _ _ _ hi]
  have hset0 : SetMap ((wr.alloc (.map #[] 0)).setCell ⟨w.heap.size + 1, 1 + k, none⟩ (.map (some (w.heap.size + 2 + k)))) (w.heap.size + 2 + k) [] := by
    have := SetMap.made wr
    rw [hsz] at this
    exact this.same (Below.heap_setCell _ _ _ _ (by show _ ≠ w.heap.size + 1; omega))
  refine ⟨k + 1, by go_num, by omega, by simp [World.setCell, hsz]; omega, part_set ?_ hk, fun j hj => ?_, htak.same (hother _ (by omega) (by omega)), (hnx.alloc (by omega) _).setCell (by show _ ≤ w.heap.size + 1; omega) _⟩
  · rw [Below.heap_alloc _ _ _ (by omega)]; exact hblk
  · by_cases e : j = k
    · subst e
      have : Bu.newF n j = [] := by unfold Bu.newF; rw [if_neg hn]
      rw [this]; exact hset0
    · exact (hsets j (by omega)).same (hother _ (by omega) (by omega))

theorem new_rel_yes {w wr w3 : World} {n k : Nat} (hsz : wr.heap.size = w.heap.size + 2 + k) (hk : k ≤ 10) (hblk : wr.heap[w.heap.size + 1]? = some (.cells (partCells w.heap.size n k) 108 (0, 0)))
    (hsets : ∀ j, j < k → SetMap wr (w.heap.size + 2 + j) (Bu.newF n j)) (htak : TakMap wr w.heap.size []) (hnx : Below w.heap.size w wr) (hn : 2 ^ k = n)
    (hs3 : SetMap w3 (w.heap.size + 2 + k) (Bu.ins 0 [])) (ht3 : ((wr.alloc (.map #[] 0)).setCell ⟨w.heap.size + 1, 1 + k, none⟩ (.map (some (w.heap.size + 2 + k)))).mapTurned w3 (w.heap.size + 2 + k)) :
    NewRel w n (.int .i64 ((k : Int) + 1)) w3 := by
  have hsz1 : ((wr.alloc (.map #[] 0)).setCell ⟨w.heap.size + 1, 1 + k, none⟩ (.map (some (w.heap.size + 2 + k)))).heap.size = w.heap.size + 3 + k := by simp [World.setCell, hsz]; omega
  have hother : ∀ i, i < wr.heap.size → i ≠ w.heap.size + 1 → w3.heap[i]? = wr.heap[i]? := fun i hi hne => by
    rw [ht3.grown.block i (by omega) (fun e => by have := Option.some.inj e; omega), Below.heap_setCell _ _ _ _ (by show i ≠ w.heap.size + 1; exact hne), Below.heap_alloc _ _ _ hi]
  have hsz3 : w3.heap.size = w.heap.size + 3 + k := by
    obtain ⟨es, cl, es', cl', _, rfl⟩ := ht3
    simp [setBlock, hsz1]
  refine ⟨k + 1, by go_num, by omega, by omega, ?_, fun j hj => ?_, htak.same (hother _ (by omega) (by omega)), ?_⟩
  · rw [ht3.grown.block _ (by omega) (fun e => by have := Option.some.inj e; omega)]
    exact part_set (by rw [Below.heap_alloc _ _ _ (by omega)]; exact hblk) hk
  · by_cases e : j = k
    · subst e
      have : Bu.newF n j = [0] := by unfold Bu.newF; rw [if_pos hn]
      rw [this]; exact hs3
    · exact (hsets j (by omega)).same (hother _ (by omega) (by omega))
  · exact ((hnx.alloc (by omega) _).setCell (by show _ ≤ w.heap.size + 1; omega) _).grown ht3.grown (by omega) (fun j hj => by cases hj; omega)

set_option maxRecDepth 100000 in
set_option maxHeartbeats 1000000 in
theorem new_ok (n N : Nat) (hN : N ≤ 10) (hn : n = 2 ^ N) (w : World) :
    Calls Try.prog 28 #[.int .i64 (n : Int)] w fun e w' => e = .returned (.tuple #[.pointer (some ⟨w.heap.size + 1, 0, none⟩), .int .i64 0]) ∧ Bud w' w.heap.size n (Bu.newF n) [] ∧ Below w.heap.size w w' := by
  have hp := pow1024 hN
  have hp0 := Bu.pos2 N
  have hb : bits .and .i64 (n : Int) ((n : Int) - 1) = 0 := by
    rw [bits_and_pred (by omega) (by omega), Int.toNat_natCast, hn, small_pow' N (by omega)]; rfl
  have HN := Lib.hid hn
  have h1 : (1 : Int) ≤ n := by omega
  have h2 : (n : Int) ≤ 1024 := by omega
  have hmm := @run_makeMap Try.prog
  clear hn hp hp0
  go_enter Try.func28, Try.ntmps28
  go_wp2
  go_loopw [23] (fun i wr => NewRel w n i wr) (fun i _ => 11 - (intOf i).toNat)
  case atStart =>
    refine ⟨0, rfl, by omega, by simp, ?_, fun j h => by omega, ?_, ((Below.refl _ _).alloc (Nat.le_refl _) _).alloc (by simp) _⟩
    · have := heap_alloc_new (w.alloc (.map #[] 0)) (.cells (partCells w.heap.size n 0) 108)
      rw [World.size_alloc] at this
      exact this
    · exact (TakMap.made w).same (Below.heap_alloc _ _ _ (by simp))
  case round =>
    obtain ⟨k, rfl, hk, hsz, hblk, hsets, htak, hnx⟩ := hrel
    have HB := Lib.hid hblk
    have HS := Lib.hid hsets
    have HT := Lib.hid htak
    by_cases e : k = 11
    · subst e
      clear hblk hsets htak hsz hmm hb
      go_wp2
      go_ret2
      refine ⟨rfl, ⟨?_, fun j hj => HS.out j (by omega), HT.out⟩, hnx⟩
      rw [← part_last]; exact HB.out
    · have hblkA : (wr.alloc (.map #[] 0)).heap[w.heap.size + 1]? = some (.cells (partCells w.heap.size n k) 108 (0, 0)) := by rw [Below.heap_alloc _ _ _ (by omega)]; exact hblk
      have hc := part_cell hblkA (by omega)
      have hf := part_free hblkA (1 + k)
      clear hblkA
      have e1 : (k : Int) < 11 := by omega
      have e0 : (0 : Int) ≤ (k : Int) := by omega
      have ep := powI (k := k) (by omega)
      have ep1 : IntKind.i64.wrap ((2 : Int) ^ k) = 2 ^ k := IntWalk.i64_in _ (by omega)
      clear hblk hsets htak hb
      by_cases en : 2 ^ k = n
      · have eb : ((2 : Int) ^ k == (n : Int)) = true := by rw [castPow, en]; simp
        have EN := Lib.hid en
        clear en
        have hset0 : SetMap ((wr.alloc (.map #[] 0)).setCell ⟨w.heap.size + 1, 1 + k, none⟩ (.map (some (w.heap.size + 2 + k)))) (w.heap.size + 2 + k) [] := by
          have := SetMap.made wr
          rw [hsz] at this
          exact this.same (Below.heap_setCell _ _ _ _ (by show _ ≠ w.heap.size + 1; omega))
        have H0 := Lib.hid hset0
        have HSZ := Lib.hid hsz
        clear hset0
        go_wp2_with (first
          | (at_mapUpdate; refine wpList_set_put _ rfl _ _ _ rfl (w.heap.size + 2 + k) [] rfl H0.out (by decide) 0 (by decide) rfl rfl ?_; intro w3 hs3 ht3)
          | go_in)
        go_roundw
        case rel => exact new_rel_yes HSZ.out (by omega) HB.out HS.out HT.out hnx EN.out hs3 ht3
        case measure => simp [intOf]; omega
      · have eb : ((2 : Int) ^ k == (n : Int)) = false := by rw [castPow, beq_eq_false_iff_ne]; omega
        have EN := Lib.hid en
        have HSZ := Lib.hid hsz
        clear en
        go_wp2
        go_roundw
        case rel => exact new_rel_no HSZ.out (by omega) HB.out HS.out HT.out hnx EN.out
        case measure => simp [intOf]; omega

end Go.Proofs.Ytikahcbkeempdaa
