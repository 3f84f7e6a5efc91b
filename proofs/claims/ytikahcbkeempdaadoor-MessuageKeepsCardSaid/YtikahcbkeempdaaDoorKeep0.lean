/- Classes and spans: their functions walked. -/
import Derived.Test.YtikahcbkeempdaaDoorGen0
import Derived.Test.YtikahcbkeempdaaDoorShelf2
import Derived.OpenShut
import Derived.Deep.MidRow
import GoSem.ClaimJoined
namespace Go.Proofs.YtikahcbkeempdaaDoor
open Go.RowKit Go.Maps

def tabCells : Array Value := #[.int .i64 8, .int .i64 0, .int .i64 16, .int .i64 0, .int .i64 32, .int .i64 1, .int .i64 64, .int .i64 2]
def ClassTab (w : World) : Prop := ∃ t, w.heap[0]? = some (.cells tabCells t (0, 0))

theorem ClassTab.lt {w : World} (h : ClassTab w) : 0 < w.heap.size := let ⟨_, h⟩ := h; (Array.getElem?_eq_some_iff.1 h).1
theorem ClassTab.same {w w' : World} (h : ClassTab w) (e : w'.heap[0]? = w.heap[0]?) : ClassTab w' := let ⟨t, h⟩ := h; ⟨t, e.trans h⟩
theorem ClassTab.below {w w' : World} {B : Nat} (h : ClassTab w) (b : Below B w w') (hB : 0 < B) : ClassTab w' := h.same (b.block 0 hB)

def clsSize : Nat → Int | 0 => 8 | 1 => 16 | 2 => 32 | _ => 64
def clsOrd : Nat → Int | 0 => 0 | 1 => 0 | 2 => 1 | _ => 2
def clsCnt : Nat → Nat | 0 => 8 | _ => 4

theorem range_tab {w : World} {t : TypeId} (h : w.heap[0]? = some (.cells tabCells t (0, 0))) : w.rangeAt 0 0 tabCells.toList := by
  have := World.rangeAt_of_block h 0 8
  simpa [tabCells] using this
theorem info_tab : (Tryd.prog.info? 76).map (·.size) = some 8 := by kernel_rfl
theorem index_tab (w : World) :
    (Instr.index 76 (.agg tabCells) (.int .i64 0)).run Tryd.prog w = .ok (.agg #[.int .i64 8, .int .i64 0]) w ∧
    (Instr.index 76 (.agg tabCells) (.int .i64 1)).run Tryd.prog w = .ok (.agg #[.int .i64 16, .int .i64 0]) w ∧
    (Instr.index 76 (.agg tabCells) (.int .i64 2)).run Tryd.prog w = .ok (.agg #[.int .i64 32, .int .i64 1]) w ∧
    (Instr.index 76 (.agg tabCells) (.int .i64 3)).run Tryd.prog w = .ok (.agg #[.int .i64 64, .int .i64 2]) w := by
  refine ⟨?_, ?_, ?_, ?_⟩ <;> (show _ = _; kernel_rfl)


set_option maxHeartbeats 1000000 in
theorem of_any {w : World} (hT : ClassTab w) (k : Nat) (hk : k < 4) :
    Calls Tryd.prog 43 #[.int .i64 (k : Int)] w fun e w' => e = .returned (.tuple #[.agg #[.int .i64 (clsSize k), .int .i64 (clsOrd k)], .int .i64 0]) ∧ Below w.heap.size w w' := by
  have h0 := hT.lt
  have hs : ∀ o, ∃ t, (w.alloc o).heap[0]? = some (.cells tabCells t (0, 0)) := fun o => let ⟨t, h⟩ := hT; ⟨t, (Below.heap_alloc w o 0 h0).trans h⟩
  have hc : ∀ o j v, tabCells[j]? = some v → (w.alloc o).cell? ⟨0, j, none⟩ = some v := fun o j v hv => by
    obtain ⟨t, h⟩ := hs o
    rw [World.cell?]; simp only [h]; simpa using hv
  have HC := Lib.hid hc
  have : k = 0 ∨ k = 1 ∨ k = 2 ∨ k = 3 := by omega
  clear hT hs hc
  rcases this with rfl | rfl | rfl | rfl
  · have c1 : ∀ o, (w.alloc o).cell? ⟨0, 0, none⟩ = some (.int .i64 8) := fun o => HC.out o 0 _ rfl
    have c2 : ∀ o, (w.alloc o).cell? ⟨0, 1, none⟩ = some (.int .i64 0) := fun o => HC.out o 1 _ rfl
    go_enter Tryd.func43, Tryd.ntmps43
    go_wp2_with fail
    refine bodyPost_ret (v := .tuple #[.agg #[.int .i64 8, .int .i64 0], .int .i64 0]) (by simp [results, Tryd.results43, go_sem]) rfl ⟨rfl, ?_⟩
    exact (Below.refl _ _).alloc (Nat.le_refl _) _
  · have c1 : ∀ o, (w.alloc o).cell? ⟨0, 2, none⟩ = some (.int .i64 16) := fun o => HC.out o 2 _ rfl
    have c2 : ∀ o, (w.alloc o).cell? ⟨0, 3, none⟩ = some (.int .i64 0) := fun o => HC.out o 3 _ rfl
    go_enter Tryd.func43, Tryd.ntmps43
    go_wp2_with fail
    refine bodyPost_ret (v := .tuple #[.agg #[.int .i64 16, .int .i64 0], .int .i64 0]) (by simp [results, Tryd.results43, go_sem]) rfl ⟨rfl, ?_⟩
    exact (Below.refl _ _).alloc (Nat.le_refl _) _
  · have c1 : ∀ o, (w.alloc o).cell? ⟨0, 4, none⟩ = some (.int .i64 32) := fun o => HC.out o 4 _ rfl
    have c2 : ∀ o, (w.alloc o).cell? ⟨0, 5, none⟩ = some (.int .i64 1) := fun o => HC.out o 5 _ rfl
    go_enter Tryd.func43, Tryd.ntmps43
    go_wp2_with fail
    refine bodyPost_ret (v := .tuple #[.agg #[.int .i64 32, .int .i64 1], .int .i64 0]) (by simp [results, Tryd.results43, go_sem]) rfl ⟨rfl, ?_⟩
    exact (Below.refl _ _).alloc (Nat.le_refl _) _
  · have c1 : ∀ o, (w.alloc o).cell? ⟨0, 6, none⟩ = some (.int .i64 64) := fun o => HC.out o 6 _ rfl
    have c2 : ∀ o, (w.alloc o).cell? ⟨0, 7, none⟩ = some (.int .i64 2) := fun o => HC.out o 7 _ rfl
    go_enter Tryd.func43, Tryd.ntmps43
    go_wp2_with fail
    refine bodyPost_ret (v := .tuple #[.agg #[.int .i64 64, .int .i64 2], .int .i64 0]) (by simp [results, Tryd.results43, go_sem]) rfl ⟨rfl, ?_⟩
    exact (Below.refl _ _).alloc (Nat.le_refl _) _


set_option maxHeartbeats 1000000 in
theorem size_any {w : World} (hT : ClassTab w) (k : Nat) (hk : k < 4) :
    Calls Tryd.prog 42 #[.int .i64 (k : Int)] w fun e w' => e = .returned (.tuple #[.int .i64 (clsSize k), .int .i64 0]) ∧ Below w.heap.size w w' := by
  go_enter Tryd.func42, Tryd.ntmps42
  go_wp2_with fail
  refine (of_any hT k hk).mono ?_
  rintro e w1 ⟨rfl, hb⟩
  go_wp2_with fail
  go_ret2
  exact ⟨rfl, hb.alloc hb.size _⟩

set_option maxHeartbeats 1000000 in
theorem count_any {w : World} (hT : ClassTab w) (k : Nat) (hk : k < 4) :
    Calls Tryd.prog 10 #[.int .i64 (k : Int)] w fun e w' => e = .returned (.tuple #[.int .i64 (clsCnt k), .int .i64 0]) ∧ Below w.heap.size w w' := by
  have h := of_any hT k hk
  have : k = 0 ∨ k = 1 ∨ k = 2 ∨ k = 3 := by omega
  rcases this with rfl | rfl | rfl | rfl
  all_goals
    simp only [clsSize, clsOrd] at h
    go_enter Tryd.func10, Tryd.ntmps10
    go_wp2_with fail
    refine h.mono ?_
    rintro e w1 ⟨rfl, hb⟩
    go_wp2_with fail
    go_quiet (fail)
    go_wp2_with fail
    go_ret2
    exact ⟨rfl, (hb.alloc hb.size _).trans (drewN_below _ _ _)⟩

def OfRel (w : World) (vi : Value) (wr : World) : Prop := ∃ i : Nat, vi = .int .i64 (i : Int) ∧ i ≤ 3 ∧ Below w.heap.size w wr

def OfPost (w : World) (e : Ending) (w' : World) : Prop := ∃ k : Nat, k < 4 ∧ e = .returned (.tuple #[.int .i64 (k : Int), .int .i64 0]) ∧ Below w.heap.size w w'

set_option maxRecDepth 100000 in
set_option maxHeartbeats 2000000 in
theorem clsOf_any {w : World} (hT : ClassTab w) (n : Int) (h1 : 1 ≤ n) (h2 : n ≤ 64) : Calls Tryd.prog 6 #[.int .i64 n] w (OfPost w) := by
  obtain ⟨t, hH⟩ := hT
  have hr := Lib.hid (range_tab hH)
  have hn1 : ¬ n < 1 := by omega
  clear hH
  go_enter Tryd.func6, Tryd.ntmps6
  go_wp2_with (first
    | (refine wpList_load_mid rfl 76 _ rfl 0 0 rfl tabCells.toList _ hr.out Tryd.underlying76 rfl info_tab ?_)
    | go_in)
  go_loopw [9] (fun vi wr => OfRel w vi wr) (fun vi _ => 4 - (intOf vi).toNat)
  case atStart => exact ⟨0, rfl, by omega, Below.refl _ _⟩
  case round =>
    obtain ⟨i, rfl, hi, hb⟩ := hrel
    have ci : (i : Int) < 4 := by omega
    have : i = 0 ∨ i = 1 ∨ i = 2 ∨ i = 3 := by omega
    have hx := index_tab wr
    obtain ⟨x0, x1, x2, x3⟩ := hx
    rcases this with rfl | rfl | rfl | rfl
    · by_cases hc : n ≤ 8
      · go_wp2_with fail
        go_ret2
        exact ⟨0, by decide, rfl, hb.alloc hb.size _⟩
      · go_wp2_with fail
        go_roundw
        case rel => exact ⟨1, rfl, by decide, hb.alloc hb.size _⟩
        case measure => decide
    · by_cases hc : n ≤ 16
      · go_wp2_with fail
        go_ret2
        exact ⟨1, by decide, rfl, hb.alloc hb.size _⟩
      · go_wp2_with fail
        go_roundw
        case rel => exact ⟨2, rfl, by decide, hb.alloc hb.size _⟩
        case measure => decide
    · by_cases hc : n ≤ 32
      · go_wp2_with fail
        go_ret2
        exact ⟨2, by decide, rfl, hb.alloc hb.size _⟩
      · go_wp2_with fail
        go_roundw
        case rel => exact ⟨3, rfl, by decide, hb.alloc hb.size _⟩
        case measure => decide
    · go_wp2_with fail
      go_ret2
      exact ⟨3, by decide, rfl, hb.alloc hb.size _⟩

/-- Block sp is a span of class k with n objects and the mask m. -/
def SpanAt (w : World) (sp k n m : Nat) : Prop := w.heap[sp]? = some (.cells #[.int .i64 (k : Int), .int .i64 (clsSize k), .int .i64 (n : Int), .int .u8 (m : Int)] 78 (0, 0))

theorem SpanAt.lt {w : World} {sp k n m : Nat} (h : SpanAt w sp k n m) : sp < w.heap.size := (Array.getElem?_eq_some_iff.1 h).1
theorem SpanAt.same {w w' : World} {sp k n m : Nat} (h : SpanAt w sp k n m) (e : w'.heap[sp]? = w.heap[sp]?) : SpanAt w' sp k n m := e.trans h
theorem SpanAt.c2 {w : World} {sp k n m : Nat} (h : SpanAt w sp k n m) : w.cell? ⟨sp, 2, none⟩ = some (.int .i64 (n : Int)) := by unfold SpanAt at h; simp [World.cell?, h]
theorem SpanAt.c3 {w : World} {sp k n m : Nat} (h : SpanAt w sp k n m) : w.cell? ⟨sp, 3, none⟩ = some (.int .u8 (m : Int)) := by unfold SpanAt at h; simp [World.cell?, h]
theorem SpanAt.f3 {w : World} {sp k n m : Nat} (h : SpanAt w sp k n m) : w.frozen? ⟨sp, 3, none⟩ = false := by unfold SpanAt at h; simp [World.frozen?, h]
theorem SpanAt.set {w : World} {sp k n m : Nat} (h : SpanAt w sp k n m) (m' : Nat) : SpanAt (w.setCell ⟨sp, 3, none⟩ (.int .u8 (m' : Int))) sp k n m' := by
  have hl := h.lt
  unfold SpanAt at h ⊢
  show (w.heap.modify sp _)[sp]? = _
  rw [Array.getElem?_modify, if_pos rfl, h]
  simp

set_option maxHeartbeats 1000000 in
theorem spanNew_ok {w : World} (hT : ClassTab w) (k : Nat) (hk : k < 4) :
    Calls Tryd.prog 7 #[.int .i64 (k : Int)] w fun e w' => ∃ sp, e = .returned (.tuple #[.pointer (some ⟨sp, 0, none⟩), .int .i64 0]) ∧ SpanAt w' sp k (clsCnt k) 0 ∧ w.heap.size ≤ sp ∧ Below w.heap.size w w' := by
  have h1 := count_any hT k hk
  have hz := hT.lt
  go_enter Tryd.func7, Tryd.ntmps7
  go_wp2_with fail
  refine h1.mono ?_
  rintro e w1 ⟨rfl, hb1⟩
  have h2 := size_any (hT.below hb1 hz) k hk
  go_wp2_with fail
  refine h2.mono ?_
  rintro e w2 ⟨rfl, hb2⟩
  go_wp2_with fail
  go_ret2
  refine ⟨_, rfl, ?_, ?_, (hb1.trans (hb2.mono hb1.size)).alloc ?_ _⟩
  · exact heap_alloc_new w2 _
  · have := hb1.size; have := hb2.size; omega
  · have := hb1.size; have := hb2.size; omega

/-! ### plain facts about masks -/
def bitN (m i : Nat) : Bool := m.testBit i
end Go.Proofs.YtikahcbkeempdaaDoor
