/- heap: a heap in memory; node. -/
import Derived.Test.YtikahcbkeempdaaTwin
import Derived.Test.YtikahcbkeempdaaLwLow
namespace Go.Proofs.Ytikahcbkeempdaa
open Go.RowKit Go.Maps

def ptrs (bb : Nat → Nat) (c : Nat) : List Value := (List.range c).map fun i => .pointer (some ⟨bb i + 1, 0, none⟩)

/-- Block hp is a heap of c nodes of 'each' frames: node i's buddy lies at bb i. -/
structure HeapAt (w : World) (hp each : Nat) (mn lo hi : Int) (c : Nat) (nv : Value) (bb : Nat → Nat) (F : Nat → Nat → List Nat) (T : Nat → List (Nat × Nat)) : Prop where
  blk : w.heap[hp]? = some (.cells #[.int .i64 (each : Int), .int .i64 mn, .int .i64 lo, .int .i64 hi, nv] 117 (0, 0))
  own : w.ownsRow 0 44 1 nv c (ptrs bb c)
  bud : ∀ i, i < c → Bud w (bb i) each (F i) (T i)
  inv : ∀ i, i < c → Bu.Inv each (T i) (F i)
  off : ∀ i, i < c → (∀ x, (x = hp ∨ nv.ownBlock = some x) → ¬ (bb i ≤ x ∧ x < bb i + 13))
  apart : ∀ i j, i < c → j < c → i ≠ j → bb i + 13 ≤ bb j ∨ bb j + 13 ≤ bb i
  nvp : nv.ownBlock ≠ some hp

section
variable {w w' : World} {hp each c : Nat} {mn lo hi : Int} {nv : Value} {bb : Nat → Nat} {F : Nat → Nat → List Nat} {T : Nat → List (Nat × Nat)}
theorem HeapAt.c0 (h : HeapAt w hp each mn lo hi c nv bb F T) : w.cell? ⟨hp, 0, none⟩ = some (.int .i64 (each : Int)) := by simp [World.cell?, h.blk]
theorem HeapAt.c1 (h : HeapAt w hp each mn lo hi c nv bb F T) : w.cell? ⟨hp, 1, none⟩ = some (.int .i64 mn) := by simp [World.cell?, h.blk]
theorem HeapAt.c2 (h : HeapAt w hp each mn lo hi c nv bb F T) : w.cell? ⟨hp, 2, none⟩ = some (.int .i64 lo) := by simp [World.cell?, h.blk]
theorem HeapAt.c3 (h : HeapAt w hp each mn lo hi c nv bb F T) : w.cell? ⟨hp, 3, none⟩ = some (.int .i64 hi) := by simp [World.cell?, h.blk]
theorem HeapAt.c4 (h : HeapAt w hp each mn lo hi c nv bb F T) : w.cell? ⟨hp, 4, none⟩ = some nv := by simp [World.cell?, h.blk]
theorem HeapAt.lt (h : HeapAt w hp each mn lo hi c nv bb F T) : hp < w.heap.size := (Array.getElem?_eq_some_iff.1 h.blk).1
theorem HeapAt.below (h : HeapAt w hp each mn lo hi c nv bb F T) (b : Below w.heap.size w w') : HeapAt w' hp each mn lo hi c nv bb F T :=
  ⟨(b.block _ h.lt).trans h.blk, ownsRow_same h.own fun g hg => b.block _ (h.own.lt g hg).2, fun i hi => (h.bud i hi).same fun x _ hx => b.block x (by have := (h.bud i hi).lt; omega), h.inv, h.off, h.apart, h.nvp⟩
theorem HeapAt.drewN (h : HeapAt w hp each mn lo hi c nv bb F T) (m : Nat) : HeapAt (w.drewN m) hp each mn lo hi c nv bb F T := h.below (drewN_below _ _ _)

/-- One node's buddy has turned. -/
theorem HeapAt.turn (h : HeapAt w hp each mn lo hi c nv bb F T) {i : Nat} (hi' : i < c) {F' T'} (hB : Bud w' (bb i) each F' T') (I : Bu.Inv each T' F') (k : Kept (bb i) (bb i + 13) w w') :
    HeapAt w' hp each mn lo hi c nv bb (fun j => if j = i then F' else F j) (fun j => if j = i then T' else T j) := by
  refine ⟨(k.block hp h.lt (h.off i hi' hp (.inl rfl))).trans h.blk, ownsRow_same h.own fun g hg => k.block g (h.own.lt g hg).2 (h.off i hi' g (.inr hg)), fun j hj => ?_, fun j hj => ?_, h.off, h.apart, h.nvp⟩
  · by_cases e : j = i
    · subst e; simpa using hB
    · simp only [e, if_false]
      exact (h.bud j hj).kept k (by rcases h.apart j i hj hi' e with h1 | h1 <;> omega)
  · by_cases e : j = i
    · subst e; simpa using I
    · simp only [e, if_false]; exact h.inv j hj
theorem HeapAt.shape (h : HeapAt w hp each mn lo hi c nv bb F T) : ∃ oa cap, nv = .slice oa c cap ∧ (0 < c → ∃ g, oa = some ⟨g, 0, none⟩ ∧ g < w.heap.size ∧ nv.ownBlock = some g ∧ ∀ i, i < c → w.cell? ⟨g, i, none⟩ = some (.pointer (some ⟨bb i + 1, 0, none⟩))) := by
  have hown := h.own
  rcases hown.2 with ⟨rfl, rfl⟩ | ⟨g, cap, cur, rfl, hbase, hb, h1, h2, h3, h4⟩
  · exact ⟨none, 0, rfl, fun h => absurd h (by omega)⟩
  · refine ⟨_, cap, rfl, fun _ => ⟨g, rfl, (Array.getElem?_eq_some_iff.1 hb).1, rfl, fun i hi => ?_⟩⟩
    rw [hown.cellAt i (by omega)]
    simp [ptrs, hi]
end

set_option maxHeartbeats 400000 in
theorem node_nil (n : Int) (w : World) : Calls Try.prog 75 #[.pointer none, .int .i64 n] w fun e w' => e = .returned (.pointer none) ∧ w = w' := by
  go_enter Try.func75, Try.ntmps75
  go_wp2
  go_ret
  exact ⟨rfl, rfl⟩
set_option maxHeartbeats 400000 in
theorem node_yes {w : World} {hp each c : Nat} {mn lo hi : Int} {nv : Value} {bb : Nat → Nat} {F T} (h : HeapAt w hp each mn lo hi c nv bb F T) (i : Nat) (hi' : i < c) :
    Calls Try.prog 75 #[.pointer (some ⟨hp, 0, none⟩), .int .i64 (i : Int)] w fun e w' => e = .returned (.pointer (some ⟨bb i + 1, 0, none⟩)) ∧ w = w' := by
  have h4 := h.c4
  obtain ⟨oa, cap, rfl, hsh⟩ := h.shape
  obtain ⟨g, rfl, _, _, hc⟩ := hsh (by omega)
  have hci := hc i hi'
  have c1 : ¬ (c : Int) ≤ (i : Int) := by omega
  have c2 : (i : Int) < (c : Int) := by omega
  have c3 : (0 : Int) ≤ (i : Int) := by omega
  have c4 : ¬ (i : Int) < 0 := by omega
  clear hc h hsh
  go_enter Try.func75, Try.ntmps75
  go_wp2
  go_ret
  exact ⟨rfl, rfl⟩
set_option maxHeartbeats 400000 in
theorem node_no {w : World} {hp each c : Nat} {mn lo hi : Int} {nv : Value} {bb : Nat → Nat} {F T} (h : HeapAt w hp each mn lo hi c nv bb F T) (n : Int) (hn : n < 0 ∨ (c : Int) ≤ n) :
    Calls Try.prog 75 #[.pointer (some ⟨hp, 0, none⟩), .int .i64 n] w fun e w' => e = .returned (.pointer none) ∧ w = w' := by
  have h4 := h.c4
  obtain ⟨oa, cap, rfl, _⟩ := h.shape
  clear h
  rcases hn with hn | hn
  · go_enter Try.func75, Try.ntmps75
    go_wp2
    go_ret
    exact ⟨rfl, rfl⟩
  · by_cases h0 : n < 0
    · go_enter Try.func75, Try.ntmps75
      go_wp2
      go_ret
      exact ⟨rfl, rfl⟩
    · go_enter Try.func75, Try.ntmps75
      go_wp2
      go_ret
      exact ⟨rfl, rfl⟩

end Go.Proofs.Ytikahcbkeempdaa
