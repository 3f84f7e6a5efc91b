/- frames: the store walked. -/
import Derived.Test.YtikahcbkeempdaaDoorGen0
import Derived.Laws.MakeOwn
import Derived.Laws.CopyOwn
import Derived.Deep.QuietTactic
import Derived.BigQuiet
namespace Go.Proofs.YtikahcbkeempdaaDoor
open Go.RowKit Go.Maps

/-- Block sb is a store of 64 frames in block fb, 16 for each node; X: frames and the bytes that they begin with. -/
structure StoreAt (w : World) (sb fb : Nat) (X : List (Nat × Nat)) : Prop where
  blk : w.heap[sb]? = some (.cells #[.int .i64 16, .slice (some ⟨fb, 0, none⟩) 64 64] 107 (0, 0))
  row : ∃ cs, w.heap[fb]? = some (.cells cs 133 (0, 0)) ∧ cs.size = 4096 ∧ ∀ t ∈ X, cs[t.1 * 64]? = some (.int .u8 (t.2 : Int))

section
variable {w w' : World} {sb fb : Nat} {X : List (Nat × Nat)}
theorem StoreAt.lt (h : StoreAt w sb fb X) : sb < w.heap.size ∧ fb < w.heap.size := by
  obtain ⟨cs, h1, _⟩ := h.row
  exact ⟨(Array.getElem?_eq_some_iff.1 h.blk).1, (Array.getElem?_eq_some_iff.1 h1).1⟩
theorem StoreAt.ne (h : StoreAt w sb fb X) : sb ≠ fb := by
  obtain ⟨cs, h1, h2, _⟩ := h.row
  intro e
  have := h.blk
  rw [e, h1] at this
  simp only [Option.some.injEq, Obj.cells.injEq] at this
  rw [this.1] at h2
  simp at h2
theorem StoreAt.same (h : StoreAt w sb fb X) (e1 : w'.heap[sb]? = w.heap[sb]?) (e2 : w'.heap[fb]? = w.heap[fb]?) : StoreAt w' sb fb X := by
  obtain ⟨cs, h1, h2⟩ := h.row
  exact ⟨e1.trans h.blk, cs, e2.trans h1, h2⟩
theorem StoreAt.c0 (h : StoreAt w sb fb X) : w.cell? ⟨sb, 0, none⟩ = some (.int .i64 16) := by simp [World.cell?, h.blk]
theorem StoreAt.c1 (h : StoreAt w sb fb X) : w.cell? ⟨sb, 1, none⟩ = some (.slice (some ⟨fb, 0, none⟩) 64 64) := by simp [World.cell?, h.blk]
theorem StoreAt.any (h : StoreAt w sb fb X) (f : Nat) (hf : f < 64) : ∃ v, w.cell? ⟨fb, f * 64, none⟩ = some v := by
  obtain ⟨cs, h1, h2, _⟩ := h.row
  refine ⟨cs[f * 64]'(by omega), ?_⟩
  simp only [World.cell?, h1]
  exact Array.getElem?_eq_getElem _
theorem StoreAt.cell (h : StoreAt w sb fb X) {t : Nat × Nat} (ht : t ∈ X) : w.cell? ⟨fb, t.1 * 64, none⟩ = some (.int .u8 (t.2 : Int)) := by
  obtain ⟨cs, h1, _, h3⟩ := h.row
  simp only [World.cell?, h1]
  exact h3 t ht
theorem StoreAt.free (h : StoreAt w sb fb X) (j : Nat) : w.frozen? ⟨fb, j, none⟩ = false := by
  obtain ⟨cs, h1, _⟩ := h.row
  simp [World.frozen?, h1]
theorem row_set {cs : Array Value} {off : Nat} (h : off < cs.size) (v : Value) : (cs.toList.take off ++ ([v] ++ cs.toList.drop (off + [v].length))).toArray = cs.setIfInBounds off v := by
  apply Array.ext'
  rw [Array.toList_setIfInBounds, List.set_eq_take_append_cons_drop, if_pos (by simpa using h)]
  rfl
theorem StoreAt.put (h : StoreAt w sb fb X) (f x : Nat) (hf : f < 64) (hn : f ∉ X.map (·.1)) {cs : Array Value} (hcs : w.heap[fb]? = some (.cells cs 133 (0, 0))) :
    StoreAt (w.setRow fb (cs.toList.take (f * 64) ++ ([Value.int .u8 (x : Int)] ++ cs.toList.drop (f * 64 + [Value.int .u8 (x : Int)].length))).toArray) sb fb (X ++ [(f, x)]) := by
  obtain ⟨cs', h1, h2, h3⟩ := h.row
  rw [hcs] at h1
  simp only [Option.some.injEq, Obj.cells.injEq, and_true] at h1
  subst h1
  rw [row_set (by omega)]
  refine ⟨(setRow_other _ _ _ _ h.ne).trans h.blk, cs.setIfInBounds (f * 64) (.int .u8 (x : Int)), setRow_heap _ _ _ _ _ _ hcs, by simp [h2], ?_⟩
  intro t ht
  rcases List.mem_append.1 ht with ht | ht
  · have hne : t.1 ≠ f := fun e => hn (List.mem_map.2 ⟨t, ht, e⟩)
    rw [Array.getElem?_setIfInBounds_ne (by omega)]
    exact h3 t ht
  · rw [List.mem_singleton] at ht
    subst ht
    rw [Array.getElem?_setIfInBounds_self_of_lt (by omega)]

set_option maxHeartbeats 1000000 in
theorem frame_any (h : StoreAt w sb fb X) (f : Nat) (hf : f < 64) :
    Calls Tryd.prog 58 #[.pointer (some ⟨sb, 0, none⟩), .int .i64 (f : Int)] w fun e w' => e = .returned (.tuple #[.pointer (some ⟨fb, f * 64, none⟩), .int .i64 0]) ∧ w = w' := by
  have h1 := h.c1
  have hf1 : ¬ (64 : Int) ≤ (f : Int) := by omega
  clear h
  go_enter Tryd.func58, Tryd.ntmps58
  go_wp2_with fail
  go_ret2
  exact ⟨rfl, rfl⟩

set_option maxHeartbeats 1000000 in
theorem fnode_any (h : StoreAt w sb fb X) (f n : Nat) (hf : f < 64) (hn : f / 16 = n) :
    Calls Tryd.prog 35 #[.pointer (some ⟨sb, 0, none⟩), .int .i64 (f : Int)] w fun e w' => e = .returned (.tuple #[.int .i64 (n : Int), .int .i64 0]) ∧ w = w' := by
  have h1 := h.c0
  have hq1 : (f : Int).tdiv 16 = (n : Int) := by rw [Int.tdiv_eq_ediv_of_nonneg (by omega)]; omega
  have hq2 : (f : Int) / 16 = (n : Int) := by omega
  have HF := Lib.hid (frame_any h f hf)
  clear h hn
  go_enter Tryd.func35, Tryd.ntmps35
  go_wp2_with fail
  refine HF.out.mono ?_
  rintro e w' ⟨rfl, rfl⟩
  go_wp2_with fail
  go_ret2
  exact ⟨rfl, rfl⟩

set_option maxHeartbeats 1000000 in
theorem flen_any (h : StoreAt w sb fb X) :
    Calls Tryd.prog 70 #[.pointer (some ⟨sb, 0, none⟩)] w fun e w' => e = .returned (.int .i64 64) ∧ w = w' := by
  have h1 := h.c1
  clear h
  go_enter Tryd.func70, Tryd.ntmps70
  go_wp2_with fail
  go_ret
  exact ⟨rfl, rfl⟩

set_option maxHeartbeats 1000000 in
theorem part_any (h : StoreAt w sb fb X) (f : Nat) (hf : f < 64) :
    Calls Tryd.prog 72 #[.pointer (some ⟨sb, 0, none⟩), .int .i64 (f : Int), .int .i64 0, .int .i64 1] w fun e w' => e = .returned (.tuple #[.slice (some ⟨fb, f * 64, none⟩) 1 64, .int .i64 0]) ∧ w = w' := by
  have HF := Lib.hid (frame_any h f hf)
  clear h
  go_enter Tryd.func72, Tryd.ntmps72
  go_wp2_with fail
  refine HF.out.mono ?_
  rintro e w' ⟨rfl, rfl⟩
  go_wp2_with fail
  go_ret2
  exact ⟨rfl, rfl⟩

theorem infoU : (Tryd.prog.info? 5).map (·.size) = some 1 := by kernel_rfl

set_option maxRecDepth 100000 in
set_option maxHeartbeats 1000000 in
theorem save_one (h : StoreAt w sb fb X) (f x : Nat) (hf : f < 64) (hn : f ∉ X.map (·.1)) (g off c : Nat) (hx : w.cell? ⟨g, off, none⟩ = some (.int .u8 (x : Int))) :
    Calls Tryd.prog 62 #[.pointer (some ⟨sb, 0, none⟩), .int .i64 (f : Int), .int .i64 0, .slice (some ⟨g, off, none⟩) 1 c] w fun e w' => e = .returned (.int .i64 0) ∧ StoreAt w' sb fb (X ++ [(f, x)]) ∧ Kept fb (fb + 1) w w' := by
  have HP := Lib.hid (part_any h f hf)
  obtain ⟨cs, hcs, hsz, _⟩ := h.row
  have H := Lib.hid (h.put f x hf hn hcs)
  clear h
  go_enter Tryd.func62, Tryd.ntmps62
  go_wp2_with fail
  refine HP.out.mono ?_
  rintro e w' ⟨rfl, rfl⟩
  go_wp2_with (first
    | (refine wpList_copy_own rfl _ _ 71 71 rfl 5 Tryd.underlying71 infoU fb (f * 64) 1 64 ⟨g, off, none⟩ 1 c rfl rfl cs 133 hcs [.int .u8 (x : Int)] rfl (by intro j v hj; cases j with | zero => cases hj; rw [Addr.add_mid]; exact hx | succ j => simp at hj) (by simp; omega) (by simp [Value.oneCell']) ?_)
    | go_in)
  go_ret
  exact ⟨rfl, H.out, ⟨rfl, rfl, rfl, by simp [World.setRow], fun i _ hi => setRow_other _ _ _ _ (by omega)⟩⟩

theorem infoU2 : (Tryd.prog.info? 5).map (fun i => (i.zero, i.size, i.bytes)) = some (some (.int .u8 0), 1, 1) := by kernel_rfl

def LoadPost (w : World) (x : Nat) (e : Ending) (w' : World) : Prop := ∃ g c, e = .returned (.tuple #[.slice (some ⟨g, 0, none⟩) 1 c, .int .i64 0]) ∧ w.heap.size ≤ g ∧ g < w'.heap.size ∧ w'.cell? ⟨g, 0, none⟩ = some (.int .u8 (x : Int)) ∧ Below w.heap.size w w'

def ClonePost (w : World) (x : Nat) (e : Ending) (w' : World) : Prop := ∃ g c, e = .returned (.slice (some ⟨g, 0, none⟩) 1 c) ∧ w.heap.size ≤ g ∧ g < w'.heap.size ∧ w'.cell? ⟨g, 0, none⟩ = some (.int .u8 (x : Int)) ∧ Below w.heap.size w w'
set_option maxRecDepth 100000 in
set_option maxHeartbeats 1000000 in
theorem clone_one (b off c : Nat) (x : Nat) (w : World) (hx : w.cell? ⟨b, off, none⟩ = some (.int .u8 (x : Int))) :
    Calls Tryd.prog 73 #[.slice (some ⟨b, off, none⟩) 1 c] w (ClonePost w x) := by
  obtain ⟨i0, hi, hz0, hz1, hzb⟩ := info_parts infoU2
  have hbl := World.block_lt_of_cell? w _ hx
  have hxn : (w.alloc (.cells #[] 5)).cell? ⟨b, off, none⟩ = some (.int .u8 (x : Int)) := (World.cell?_of_block (a := ⟨b, off, none⟩) (Below.heap_alloc _ _ _ hbl)).trans hx
  have hnil : ∀ u : World, (binOp .eql 71 (.slice (some ⟨b, off, none⟩) 1 c) (.slice none 0 0)).run Tryd.prog u = .ok (.bool false) u := fun u => by kernel_rfl
  go_enter Tryd.func73, Tryd.ntmps73
  go_wp2_with (first
    | (at_builtin; refine wpList_append_own _ rfl _ _ 71 rfl w.heap.size 5 i0 (.int .u8 0) 1 1 Tryd.underlying71 hi hz0 hz1 hzb rfl (by decide) (.slice (some ⟨w.heap.size, 0, none⟩) 0 0) 0 [] rfl (World.ownsRow_made w #[] 0 (Nat.le_refl _) (by decide) rfl) ⟨b, off, none⟩ 1 c [.int .u8 (x : Int)] rfl rfl (by intro j v hj; cases j with | zero => cases hj; rw [Addr.add_mid]; exact hxn | succ j => simp at hj) (by simp [Value.oneCell']) (by decide) (by decide) (by simp) ?_; intro v' w3 hown' hg3 hnil3; clear hnil3; obtain ⟨g, cc, rfl, h1, h2, h3⟩ := own_head hown' (by omega))
    | go_in)
  go_ret
  refine ⟨g, cc, rfl, h1, h2, h3 0 (by omega), ((Below.refl _ _).alloc (Nat.le_refl _) _).grown hg3 (by simp) (fun k hk => by cases hk; exact Nat.le_refl _)⟩

set_option maxRecDepth 100000 in
set_option maxHeartbeats 1000000 in
theorem load_one (h : StoreAt w sb fb X) (t : Nat × Nat) (ht : t ∈ X) (hf : t.1 < 64) :
    Calls Tryd.prog 63 #[.pointer (some ⟨sb, 0, none⟩), .int .i64 (t.1 : Int), .int .i64 0, .int .i64 1] w (LoadPost w t.2) := by
  have HP := Lib.hid (part_any h t.1 hf)
  have HC := Lib.hid (clone_one fb (t.1 * 64) 64 t.2 w (h.cell ht))
  clear h
  go_enter Tryd.func63, Tryd.ntmps63
  go_wp2_with fail
  refine HP.out.mono ?_
  rintro e w' ⟨rfl, rfl⟩
  go_wp2_with fail
  refine HC.out.mono ?_
  rintro e w1 ⟨g, c, rfl, h1, h2, h3, h4⟩
  go_wp2_with fail
  go_ret2
  exact ⟨g, c, rfl, h1, h2, h3, h4⟩

theorem infoFr : (Tryd.prog.info? 133).map (fun i => (i.zero.isSome, i.size, i.bytes)) = some (true, 64, 64) := by kernel_rfl

set_option maxRecDepth 100000 in
set_option maxHeartbeats 1000000 in
theorem storeNew_ok (w : World) :
    Calls Tryd.prog 32 #[.int .i64 4, .int .i64 16] w fun e w' => e = .returned (.tuple #[.pointer (some ⟨w.heap.size + 1, 0, none⟩), .int .i64 0]) ∧ StoreAt w' (w.heap.size + 1) w.heap.size [] ∧ Below w.heap.size w w' ∧ w'.heap.size = w.heap.size + 2 := by
  obtain ⟨i, hi, hz, hs, hb⟩ : ∃ i, Tryd.prog.info? 133 = some i ∧ i.zero.isSome = true ∧ i.size = 64 ∧ i.bytes = 64 := by
    have h := infoFr
    cases hq : Tryd.prog.info? 133 with
    | none => rw [hq] at h; cases h
    | some i =>
      rw [hq] at h
      simp only [Option.map_some, Option.some.injEq, Prod.mk.injEq] at h
      exact ⟨i, rfl, h.1, h.2.1, h.2.2⟩
  obtain ⟨z, hz⟩ := Option.isSome_iff_exists.1 hz
  have hmk := run_makeSlice (P := Tryd.prog) w 105 133 i z Tryd.underlying105 hi hz .i64 .i64 64 64 (by decide) (by decide) (by rw [hs]; decide) (by rw [hb]; decide) (by decide)
  rw [hs] at hmk
  obtain ⟨M, hM⟩ : ∃ M, madeCells z.cells ((64 : Int).toNat * 64) = M := ⟨_, rfl⟩
  have hMs : M.size = 4096 := by rw [← hM, size_madeCells]; rfl
  rw [hM] at hmk
  clear hi hz hs hb hM
  go_enter Tryd.func32, Tryd.ntmps32
  go_wp2_with fail
  go_ret2
  refine ⟨rfl, ⟨?_, M, ?_, hMs, fun t ht => by cases ht⟩, ((Below.refl _ _).alloc (Nat.le_refl _) _).alloc (by simp) _, by simp⟩
  · have := heap_alloc_new (w.alloc (.cells M 133)) (.cells #[.int .i64 16, .slice (some ⟨w.heap.size, 0, none⟩) 64 64] 107)
    rw [World.size_alloc] at this
    exact this
  · rw [Below.heap_alloc _ _ _ (by simp)]
    exact heap_alloc_new w _

end
end Go.Proofs.YtikahcbkeempdaaDoor
