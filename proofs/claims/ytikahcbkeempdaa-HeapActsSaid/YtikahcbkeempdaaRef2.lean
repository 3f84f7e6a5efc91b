/- The reference's buddy: Free, set, New walked. -/
import Derived.Test.YtikahcbkeempdaaRef1
namespace Go.Proofs.Ytikahcbkeempdaa
open Go.RowKit

/-- Nothing but the blocks that S names and new ones has turned. -/
structure KeptF (S : Nat → Prop) (w w' : World) : Prop where
  os : w'.os = w.os
  tape : w'.tape = w.tape
  output : w'.output = w.output
  size : w.heap.size ≤ w'.heap.size
  block : ∀ i, i < w.heap.size → ¬ S i → w'.heap[i]? = w.heap[i]?

theorem KeptF.refl (S : Nat → Prop) (w : World) : KeptF S w w := ⟨rfl, rfl, rfl, Nat.le_refl _, fun _ _ _ => rfl⟩
theorem KeptF.trans {S : Nat → Prop} {a b c : World} (h : KeptF S a b) (k : KeptF S b c) : KeptF S a c :=
  ⟨k.os.trans h.os, k.tape.trans h.tape, k.output.trans h.output, Nat.le_trans h.size k.size, fun i hi hn => (k.block i (Nat.lt_of_lt_of_le hi h.size) hn).trans (h.block i hi hn)⟩
theorem KeptF.wider {S S' : Nat → Prop} {a b : World} (h : KeptF S a b) (hs : ∀ i, i < a.heap.size → S i → S' i) : KeptF S' a b :=
  ⟨h.os, h.tape, h.output, h.size, fun i hi hn => h.block i hi fun hs' => hn (hs i hi hs')⟩
theorem KeptF.of_below {a w : World} (h : Below a.heap.size a w) (S : Nat → Prop) : KeptF S a w := ⟨h.os, h.tape, h.output, h.size, fun k hk _ => h.block k hk⟩
theorem KeptF.below {S : Nat → Prop} {a w : World} (h : KeptF S a w) {B : Nat} (hB : B ≤ a.heap.size) (hS : ∀ i, S i → B ≤ i) : Below B a w :=
  ⟨h.os, h.tape, h.output, h.size, fun k hk => h.block k (by omega) fun hs => by have := hS k hs; omega⟩
theorem KeptF.drewN {S : Nat → Prop} {a w : World} (h : KeptF S a w) (n : Nat) : KeptF S a (w.drewN n) := h.trans ⟨rfl, rfl, rfl, Nat.le_refl _, fun _ _ _ => rfl⟩
theorem KeptF.setCell {S : Nat → Prop} {a w : World} (h : KeptF S a w) {p : Addr} (u : Value) (hp : S p.block ∨ a.heap.size ≤ p.block) : KeptF S a (w.setCell p u) :=
  ⟨h.os, h.tape, h.output, by simpa [World.setCell] using h.size, fun i hi hn => (Below.heap_setCell w p u i (by
    rcases hp with hp | hp
    · exact fun e => hn (e ▸ hp)
    · exact fun e => by omega)).trans (h.block i hi hn)⟩
theorem KeptF.alloc {S : Nat → Prop} {a w : World} (h : KeptF S a w) (o : Obj) : KeptF S a (w.alloc o) :=
  h.trans ⟨rfl, rfl, rfl, by simp, fun i hi _ => Below.heap_alloc w o i hi⟩
theorem KeptF.grown {S : Nat → Prop} {a w w' : World} {row : Option Nat} (h : KeptF S a w) (hg : w.grownBy w' row) (hr : ∀ k, row = some k → S k ∨ a.heap.size ≤ k) : KeptF S a w' :=
  ⟨hg.os.trans h.os, hg.tape.trans h.tape, hg.output.trans h.output, Nat.le_trans h.size hg.size, fun i hi hn => (hg.block i (Nat.lt_of_lt_of_le hi h.size) (fun e => by
    rcases hr i e.symm with h' | h'
    · exact hn h'
    · omega)).trans (h.block i hi hn)⟩
theorem KeptF.of_kept {lo hi : Nat} {a b : World} (h : Kept lo hi a b) : KeptF (fun i => lo ≤ i ∧ i < hi) a b := ⟨h.os, h.tape, h.output, h.size, h.block⟩

/-! ### Free -/
def freeTo (U : Nat → Bool) (i : Nat) : Nat := ((List.range i).filter fun x => !U x).length
theorem freeTo_yes {U : Nat → Bool} {i : Nat} (h : U i = false) : freeTo U (i + 1) = freeTo U i + 1 := by simp [freeTo, List.range_succ, h]
theorem freeTo_no {U : Nat → Bool} {i : Nat} (h : U i = true) : freeTo U (i + 1) = freeTo U i := by simp [freeTo, List.range_succ, h]
theorem freeTo_le (U : Nat → Bool) (i : Nat) : freeTo U i ≤ i := Nat.le_trans (List.length_filter_le _ _) (by simp)

set_option maxRecDepth 100000 in
set_option maxHeartbeats 1000000 in
theorem rFree_any {w : World} {n p u : Nat} {tv U T} (h : RefAt w n p u tv U T) (hn : n ≤ 1024) :
    Calls Try.prog 40 #[.pointer (some ⟨p, 0, none⟩)] w fun e w' => e = .returned (.int .i64 (freeTo U n : Int)) ∧ w = w' := by
  have hc0 := h.c0
  have H := Lib.hid h
  clear h
  go_enter Try.func40, Try.ntmps40
  go_wp2
  go_loop [4, 3] (fun i s => ∃ k : Nat, k ≤ n ∧ i = .int .i64 (k : Int) ∧ s = .int .i64 (freeTo U k : Int)) (fun i _ => n - (intOf i).toNat)
  case atStart => exact ⟨0, by omega, rfl, rfl⟩
  case round =>
    obtain ⟨k, hk, rfl, rfl⟩ := hrel
    have hle := freeTo_le U k
    by_cases e : k < n
    · have ck : (k : Int) < (n : Int) := by omega
      have hcu := H.out.cu e
      cases hU : U k with
      | true =>
        rw [hU] at hcu
        have hs := freeTo_no hU
        have HS := Lib.hid hs
        clear hs hU
        go_wp2
        go_round
        case rel => exact ⟨k + 1, by omega, by go_num, by rw [HS.out]⟩
        case measure => simp [intOf]; omega
      | false =>
        rw [hU] at hcu
        have hs := freeTo_yes hU
        have HS := Lib.hid hs
        clear hs hU
        go_wp2
        go_round
        case rel => exact ⟨k + 1, by omega, by go_num, by rw [HS.out]; go_num⟩
        case measure => simp [intOf]; omega
    · have ck : ¬ (k : Int) < (n : Int) := by omega
      obtain rfl : k = n := by omega
      go_wp2
      go_ret
      exact ⟨rfl, rfl⟩

/-! ### set -/
def setU (U : Nat → Bool) (a i : Nat) (b : Bool) (x : Nat) : Bool := if a ≤ x ∧ x < a + i then b else U x

theorem usedCells_set (n : Nat) (U : Nat → Bool) (x : Nat) (b : Bool) : (usedCells n U).toArray.setIfInBounds x (.bool b) = (usedCells n (fun y => if y = x then b else U y)).toArray := by
  apply Array.ext
  · simp [usedCells]
  · intro i h1 h2
    simp only [usedCells, Array.size_setIfInBounds, List.size_toArray, List.length_map, List.length_range] at h1
    rw [Array.getElem_setIfInBounds (by simpa [usedCells] using h1)]
    by_cases e : x = i
    · subst e; simp [usedCells]
    · simp [usedCells, e, Ne.symm e]

theorem RefAt.setUsed {w : World} {n p u : Nat} {tv U T} (h : RefAt w n p u tv U T) (x : Nat) (b : Bool) : RefAt (w.setCell ⟨u, x, none⟩ (.bool b)) n p u tv (fun y => if y = x then b else U y) T := by
  refine ⟨(Below.heap_setCell _ _ _ _ (by show p ≠ u; exact h.apart.2.2)).trans h.blk, ?_, ownsRow_same h.tak fun g hg => Below.heap_setCell _ _ _ _ (by show g ≠ u; exact fun e => h.apart.2.1 (e ▸ hg)), h.apart⟩
  simp only [World.setCell, Array.getElem?_modify, h.usd, if_true, Option.map_some]
  rw [← usedCells_set]
  simp

theorem RefAt.congr {w : World} {n p u : Nat} {tv U U' T} (h : RefAt w n p u tv U T) (e : ∀ x, x < n → U x = U' x) : RefAt w n p u tv U' T := by
  refine ⟨h.blk, ?_, h.tak, h.apart⟩
  have : usedCells n U' = usedCells n U := by
    unfold usedCells
    exact List.map_congr_left fun x hx => by rw [e x (List.mem_range.1 hx)]
  rw [this]; exact h.usd

def SetRel (w : World) (n p u a P : Nat) (tv : Value) (U : Nat → Bool) (T : List (Nat × Nat)) (b : Bool) (v : Value) (wr : World) : Prop :=
  ∃ i : Nat, v = .int .i64 ((a + i : Nat) : Int) ∧ i ≤ P ∧ RefAt wr n p u tv (setU U a i b) T ∧ KeptF (fun x => x = u) w wr ∧ wr.heap.size = w.heap.size

set_option maxRecDepth 100000 in
set_option maxHeartbeats 1000000 in
theorem rset_any {w : World} {n p u : Nat} {tv U T} (h : RefAt w n p u tv U T) (a k : Nat) (b : Bool) (hk : k ≤ 10) (hn : n ≤ 1024) (hin : a + 2 ^ k ≤ n) :
    Calls Try.prog 72 #[.pointer (some ⟨p, 0, none⟩), .int .i64 (a : Int), .int .i64 (k : Int), .bool b] w fun e w' => e = .returned (.tuple #[]) ∧ RefAt w' n p u tv (setU U a (2 ^ k) b) T ∧ KeptF (fun x => x = u) w w' ∧ w'.heap.size = w.heap.size := by
  obtain ⟨P, hP⟩ : ∃ P, 2 ^ k = P := ⟨_, rfl⟩
  have hPl : P ≤ 1024 := by rw [← hP]; exact pow1024 hk
  have hcp : (2 : Int) ^ k = (P : Int) := by rw [castPow, hP]
  rw [hP] at hin ⊢
  have H := Lib.hid h
  clear hP h
  go_enter Try.func72, Try.ntmps72
  go_wp2
  go_loopw [8] (fun v wr => SetRel w n p u a P tv U T b v wr) (fun v _ => a + P - (intOf v).toNat)
  case atStart => exact ⟨0, by go_num, Nat.zero_le _, H.out.congr (fun x _ => by unfold setU; rw [if_neg (by omega)]), KeptF.refl _ _, rfl⟩
  case round =>
    obtain ⟨i, rfl, hi, hR, hK, hsz⟩ := hrel
    have hc0 := hR.c0
    have HR := Lib.hid hR
    have HSZ := Lib.hid hsz
    by_cases e : i < P
    · have ci : (a : Int) + i < (a : Int) + P := by omega
      have hcu := hR.cu (x := a + i) (by omega)
      have hfu := hR.fu (a + i)
      clear hR hsz
      go_wp2
      go_roundw
      case rel =>
        refine ⟨i + 1, by go_num, by omega, (HR.out.setUsed (a + i) b).congr (fun x _ => ?_), hK.setCell _ (.inl rfl), by simpa [World.setCell] using HSZ.out⟩
        unfold setU
        by_cases e1 : x = a + i
        · rw [if_pos e1, if_pos (by omega)]
        · rw [if_neg e1]
          by_cases e2 : a ≤ x ∧ x < a + i
          · rw [if_pos e2, if_pos (by omega)]
          · rw [if_neg e2, if_neg (by omega)]
      case measure => simp [intOf]; omega
    · have ci : ¬ (a : Int) + i < (a : Int) + P := by omega
      obtain rfl : i = P := by omega
      clear hR hsz
      go_wp2
      go_end0
      exact ⟨rfl, HR.out, hK, HSZ.out⟩

end Go.Proofs.Ytikahcbkeempdaa
