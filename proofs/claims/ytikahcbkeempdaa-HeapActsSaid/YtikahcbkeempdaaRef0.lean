/- The reference's buddy in memory; free, Runs, Free walked. -/
import Derived.Test.YtikahcbkeempdaaBuPick
import Derived.Test.YtikahcbkeempdaaBits
import Derived.Test.YtikahcbkeempdaaMaps
import Derived.Deep.QuietTactic
import Derived.BigQuiet
import Derived.Lib.Hide
namespace Go.Proofs.Ytikahcbkeempdaa
open Go.RowKit

def usedCells (n : Nat) (U : Nat → Bool) : List Value := (List.range n).map fun x => .bool (U x)
def takCells (T : List (Nat × Nat)) : List Value := T.flatMap fun t => [.int .i64 (t.1 : Int), .int .i64 (t.2 : Int)]

/-- Block p is a reference's buddy: block u says of each frame whether it is used; tv is the slice of the runs that are taken. -/
structure RefAt (w : World) (n p u : Nat) (tv : Value) (U : Nat → Bool) (T : List (Nat × Nat)) : Prop where
  blk : w.heap[p]? = some (.cells #[.slice (some ⟨u, 0, none⟩) n n, tv] 63 (0, 0))
  usd : w.heap[u]? = some (.cells (usedCells n U).toArray 4 (0, 0))
  tak : w.ownsRow 0 51 2 tv T.length (takCells T)
  apart : tv.ownBlock ≠ some p ∧ tv.ownBlock ≠ some u ∧ p ≠ u

theorem RefAt.c0 {w : World} {n p u : Nat} {tv U T} (h : RefAt w n p u tv U T) : w.cell? ⟨p, 0, none⟩ = some (.slice (some ⟨u, 0, none⟩) n n) := by simp [World.cell?, h.blk]
theorem RefAt.c1 {w : World} {n p u : Nat} {tv U T} (h : RefAt w n p u tv U T) : w.cell? ⟨p, 1, none⟩ = some tv := by simp [World.cell?, h.blk]
theorem RefAt.f1 {w : World} {n p u : Nat} {tv U T} (h : RefAt w n p u tv U T) (o : Nat) : w.frozen? ⟨p, o, none⟩ = false := by simp [World.frozen?, h.blk]
theorem RefAt.cu {w : World} {n p u : Nat} {tv U T} (h : RefAt w n p u tv U T) {x : Nat} (hx : x < n) : w.cell? ⟨u, x, none⟩ = some (.bool (U x)) := by
  simp [World.cell?, h.usd, usedCells, hx]
theorem RefAt.fu {w : World} {n p u : Nat} {tv U T} (h : RefAt w n p u tv U T) (o : Nat) : w.frozen? ⟨u, o, none⟩ = false := by simp [World.frozen?, h.usd]
theorem RefAt.lt {w : World} {n p u : Nat} {tv U T} (h : RefAt w n p u tv U T) : p < w.heap.size ∧ u < w.heap.size ∧ ∀ g, tv.ownBlock = some g → g < w.heap.size :=
  ⟨(Array.getElem?_eq_some_iff.1 h.blk).1, (Array.getElem?_eq_some_iff.1 h.usd).1, fun g hg => (h.tak.lt g hg).2⟩
theorem ownsRow_same {w w' : World} {base e sz n : Nat} {v : Value} {xs : List Value} (h : w.ownsRow base e sz v n xs) (k : ∀ g, v.ownBlock = some g → w'.heap[g]? = w.heap[g]?) : w'.ownsRow base e sz v n xs := by
  refine ⟨h.1, ?_⟩
  rcases h.2 with h2 | ⟨g, cap, cur, rfl, hg, hb, r⟩
  · exact .inl h2
  · exact .inr ⟨g, cap, cur, rfl, hg, (k g rfl).trans hb, r⟩
theorem RefAt.same {w w' : World} {n p u : Nat} {tv U T} (h : RefAt w n p u tv U T) (e1 : w'.heap[p]? = w.heap[p]?) (e2 : w'.heap[u]? = w.heap[u]?) (e3 : ∀ g, tv.ownBlock = some g → w'.heap[g]? = w.heap[g]?) : RefAt w' n p u tv U T :=
  ⟨e1.trans h.blk, e2.trans h.usd, ownsRow_same h.tak e3, h.apart⟩
theorem RefAt.drewN {w : World} {n p u : Nat} {tv U T} (h : RefAt w n p u tv U T) (m : Nat) : RefAt (w.drewN m) n p u tv U T := h.same rfl rfl fun _ _ => rfl
theorem RefAt.below {w w' : World} {n p u : Nat} {tv U T} (h : RefAt w n p u tv U T) (b : Below w.heap.size w w') : RefAt w' n p u tv U T :=
  h.same (b.block _ h.lt.1) (b.block _ h.lt.2.1) fun g hg => b.block _ (h.lt.2.2 g hg)

/-- Is the block of frames from a on free as a whole? -/
def blkU (n : Nat) (U : Nat → Bool) (a k : Nat) : Bool := decide (a + 2 ^ k ≤ n) && (List.range (2 ^ k)).all fun i => !U (a + i)
theorem blkU_blk (n : Nat) (T : List (Nat × Nat)) (q k : Nat) : blkU n (Bu.used T) (q * 2 ^ k) k = Bu.blk n T k q := by
  unfold blkU Bu.blk
  rw [Nat.add_mul, Nat.one_mul]

def FrRel (w : World) (a k : Nat) (U : Nat → Bool) (v : Value) (wr : World) : Prop :=
  ∃ i m : Nat, v = .int .i64 ((a + i : Nat) : Int) ∧ i ≤ 2 ^ k ∧ wr = w.drewN m ∧ (List.range i).all (fun j => !U (a + j)) = true

set_option maxRecDepth 100000 in
set_option maxHeartbeats 1000000 in
theorem rfree_any {w : World} {n p u : Nat} {tv U T} (h : RefAt w n p u tv U T) (a k : Nat) (hk : k ≤ 10) (ha : a ≤ 4096) (hn : n ≤ 1024) :
    Calls Try.prog 73 #[.pointer (some ⟨p, 0, none⟩), .int .i64 (a : Int), .int .i64 (k : Int)] w fun e w' => e = .returned (.bool (blkU n U a k)) ∧ ∃ m, w' = w.drewN m := by
  have hc0 := h.c0
  have e0 : (0 : Int) ≤ (k : Int) := by omega
  obtain ⟨P, hP⟩ : ∃ P, 2 ^ k = P := ⟨_, rfl⟩
  have hPl : P ≤ 1024 := by rw [← hP]; exact pow1024 hk
  have hcp : (2 : Int) ^ k = (P : Int) := by rw [castPow, hP]
  have ew : IntKind.i64.wrap (P : Int) = (P : Int) := IntWalk.i64_in _ (by omega)
  have ew2 : IntKind.i64.wrap ((a : Int) + P) = (a : Int) + P := IntWalk.i64_in _ (by omega)
  have HP := Lib.hid hP
  have H := Lib.hid h
  clear hP h
  by_cases hin : a + P ≤ n
  · have hd : decide ((n : Int) < (a : Int) + P) = false := by simp; omega
    have hlt : ¬ (n : Int) < (a : Int) + P := by omega
    go_enter Try.func73, Try.ntmps73
    go_wp2
    go_quiet (fail)
    go_wp2
    go_loopw [7] (fun v wr => FrRel w a k U v wr) (fun v _ => a + P - (intOf v).toNat)
    case atStart => exact ⟨0, _, by go_num, Nat.zero_le _, rfl, rfl⟩
    case round =>
      obtain ⟨i, m, rfl, hi, rfl, hall⟩ := hrel
      rw [HP.out] at hi
      have HA := Lib.hid hall
      clear hall
      by_cases e : i < P
      · have ci : (a : Int) + i < (a : Int) + P := by omega
        have hcu := H.out.cu (x := a + i) (by omega)
        cases hU : U (a + i) with
        | true =>
          rw [hU] at hcu
          have HU := Lib.hid hU
          clear hU
          go_wp2
          go_ret
          refine ⟨?_, _, rfl⟩
          have hf : blkU n U a k = false := by
            unfold blkU
            rw [Bool.and_eq_false_iff]
            right
            rw [List.all_eq_false]
            exact ⟨i, List.mem_range.2 (by rw [HP.out]; exact e), by rw [HU.out]; simp⟩
          rw [hf]
          rfl
        | false =>
          rw [hU] at hcu
          have HU := Lib.hid hU
          clear hU
          go_wp2
          go_roundw
          case rel => exact ⟨i + 1, m, by go_num, by rw [HP.out]; omega, rfl, by rw [List.range_succ, List.all_append, HA.out]; simp [HU.out]⟩
          case measure => simp [intOf]; omega
      · have ci : ¬ (a : Int) + i < (a : Int) + P := by omega
        obtain rfl : i = P := by omega
        go_wp2
        go_ret
        refine ⟨?_, _, rfl⟩
        have hf : blkU n U a k = true := by
          unfold blkU
          rw [HP.out, HA.out]
          simpa using hin
        rw [hf]
        rfl
  · have hd : decide ((n : Int) < (a : Int) + P) = true := by simp; omega
    have hlt : (n : Int) < (a : Int) + P := by omega
    have hf : blkU n U a k = false := by
      unfold blkU
      rw [HP.out]
      simp [hin]
    have HF := Lib.hid hf
    clear hf
    go_enter Try.func73, Try.ntmps73
    go_wp2
    go_quiet (fail)
    go_wp2
    go_ret
    rw [HF.out]
    exact ⟨rfl, _, rfl⟩

end Go.Proofs.Ytikahcbkeempdaa
