/- messuagetop: line: its state. -/
import Derived.Test.YtikahcbkeempdaaGreatDoorCh0
import Derived.Deep.AppendLies
namespace Go.Proofs.YtikahcbkeempdaaGreatDoor
open Go.RowKit Go.Maps

theorem infoS : (Tryz.prog.info? 23).map (fun i => (i.zero, i.size, i.bytes)) = some (some (.slice none 0 0), 1, 24) := by kernel_rfl

def slV (n : Nat) (rg rc : Nat → Nat) (a : Nat) : List Value := (List.range a).map fun i => .slice (some ⟨rg i, 0, none⟩) n (rc i)
theorem slV_snoc (n : Nat) (rg rc : Nat → Nat) (a g c : Nat) : slV n (fun i => if i = a then g else rg i) (fun i => if i = a then c else rc i) (a + 1) = slV n rg rc a ++ [.slice (some ⟨g, 0, none⟩) n c] := by
  unfold slV
  rw [List.range_succ, List.map_append, List.map_singleton]
  congr 1
  · exact List.map_congr_left fun j hj => by
      have := List.mem_range.1 hj
      have e : j ≠ a := by omega
      simp [e]
  · simp

structure LineAt (wr : World) (rb tb n ca da : Nat) (cv dv : Value) (rg rc : Nat → Nat) : Prop where
  res : wr.heap[rb]? = some (.cells #[.int .i64 0, .int .i64 0, .slice none 0 0, .slice none 0 0] 26 (0, 0))
  blk : wr.heap[tb]? = some (.cells #[.int .i64 (n : Int), .int .i64 8, cv, dv] 26 (0, 0))
  cown : wr.ownsRow (tb + 1) 3 1 cv ca (intV (List.range ca))
  down : wr.ownsRow (tb + 1) 23 1 dv da (slV n rg rc da)
  row : ∀ i, i < da → tb + 1 ≤ rg i ∧ cv.ownBlock ≠ some (rg i) ∧ dv.ownBlock ≠ some (rg i) ∧ rg i < wr.heap.size ∧ ∀ j, j < n → wr.cell? ⟨rg i, j, none⟩ = some (.int .i64 (distN i j : Int))
  cd : ∀ x, cv.ownBlock = some x → dv.ownBlock ≠ some x
  rt : rb < tb

section
variable {w w' w3 : World} {rb tb n ca da g cap : Nat} {cv dv : Value} {rg rc : Nat → Nat}
theorem LineAt.lt (h : LineAt w rb tb n ca da cv dv rg rc) : rb < w.heap.size ∧ tb < w.heap.size := ⟨(Array.getElem?_eq_some_iff.1 h.res).1, (Array.getElem?_eq_some_iff.1 h.blk).1⟩
theorem LineAt.c2 (h : LineAt w rb tb n ca da cv dv rg rc) : w.cell? ⟨tb, 2, none⟩ = some cv := by simp [World.cell?, h.blk]
theorem LineAt.c3 (h : LineAt w rb tb n ca da cv dv rg rc) : w.cell? ⟨tb, 3, none⟩ = some dv := by simp [World.cell?, h.blk]
theorem LineAt.below (h : LineAt w rb tb n ca da cv dv rg rc) (b : Below w.heap.size w w') : LineAt w' rb tb n ca da cv dv rg rc :=
  ⟨(b.block _ h.lt.1).trans h.res, (b.block _ h.lt.2).trans h.blk, ownsRow_same h.cown fun g hg => b.block g (h.cown.lt g hg).2, ownsRow_same h.down fun g hg => b.block g (h.down.lt g hg).2,
    fun i hi => ⟨(h.row i hi).1, (h.row i hi).2.1, (h.row i hi).2.2.1, Nat.lt_of_lt_of_le (h.row i hi).2.2.2.1 b.size, fun j hj => (b.cell (p := ⟨rg i, j, none⟩) (h.row i hi).2.2.2.1).trans ((h.row i hi).2.2.2.2 j hj)⟩, h.cd, h.rt⟩

/-- One CPU more. -/
theorem LineAt.cpu (h : LineAt w rb tb n ca da cv dv rg rc) {o : Obj} (hg : (w.alloc o).grownBy w3 cv.ownBlock)
    (hown : w3.ownsRow (tb + 1) 3 1 (.slice (some ⟨g, 0, none⟩) (ca + 1) cap) (ca + 1) (intV (List.range ca) ++ [.int .i64 (ca : Int)])) (hat : cv.ownBlock = some g ∨ g = w.heap.size + 1) :
    LineAt (w3.setCell ⟨tb, 2, none⟩ (.slice (some ⟨g, 0, none⟩) (ca + 1) cap)) rb tb n (ca + 1) da (.slice (some ⟨g, 0, none⟩) (ca + 1) cap) dv rg rc := by
  obtain ⟨l1, l2⟩ := h.lt
  have hs := hg.size
  simp at hs
  have hct : ∀ x, cv.ownBlock = some x → tb + 1 ≤ x := fun x hx => (h.cown.lt x hx).1
  have hk : ∀ x, x < w.heap.size → cv.ownBlock ≠ some x → w3.heap[x]? = w.heap[x]? := fun x hx hne => (hg.block x (by simp; omega) hne.symm).trans (Below.heap_alloc _ _ _ hx)
  have hk' : ∀ x, x < w.heap.size → cv.ownBlock ≠ some x → x ≠ tb → (w3.setCell ⟨tb, 2, none⟩ (.slice (some ⟨g, 0, none⟩) (ca + 1) cap)).heap[x]? = w.heap[x]? := fun x hx hne hp => (Below.heap_setCell _ _ _ _ hp).trans (hk x hx hne)
  have hrt := h.rt
  have h3 := (hk tb l2 fun e => by have := hct tb e; omega).trans h.blk
  have hsz : (w3.setCell ⟨tb, 2, none⟩ (.slice (some ⟨g, 0, none⟩) (ca + 1) cap)).heap.size = w3.heap.size := by simp [World.setCell]
  refine ⟨(hk' rb l1 (fun e => by have := hct rb e; omega) (by omega)).trans h.res, by simp [World.setCell, Array.getElem?_modify, h3], ?_, ownsRow_same h.down fun x hx => hk' x (h.down.lt x hx).2 (fun e => h.cd x e hx) (by have := (h.down.lt x hx).1; omega), fun i hi => ?_, fun x hx => ?_, hrt⟩
  · have hl : intV (List.range (ca + 1)) = intV (List.range ca) ++ [.int .i64 (ca : Int)] := by rw [List.range_succ, intV, List.map_append]; rfl
    rw [hl]
    exact ownsRow_same hown fun x hx => Below.heap_setCell _ _ _ _ (by have := (hown.lt x hx).1; show x ≠ tb; omega)
  · obtain ⟨r1, r2, r3, r4, r5⟩ := h.row i hi
    refine ⟨r1, fun e => ?_, r3, by rw [hsz]; omega, fun j hj => (World.cell?_of_block (a := ⟨rg i, j, none⟩) (hk' (rg i) r4 r2 (by omega))).trans (r5 j hj)⟩
    have e' : g = rg i := by simpa [Value.ownBlock] using e
    rcases hat with e2 | e2
    · exact r2 (by rw [e2, e'])
    · omega
  · have e' : g = x := by simpa [Value.ownBlock] using hx
    rcases hat with e2 | e2
    · exact h.cd x (by rw [e2, e'])
    · exact fun e3 => by have := (h.down.lt x e3).2; omega

/-- One row more. -/
theorem LineAt.rowMore (h : LineAt w rb tb n ca da cv dv rg rc) {gr cr : Nat} (hb : Below w.heap.size w w') (hgr : w.heap.size ≤ gr) (hgl : gr < w'.heap.size) (hcell : ∀ j, j < n → w'.cell? ⟨gr, j, none⟩ = some (.int .i64 (distN da j : Int)))
    {o : Obj} (hg : (w'.alloc o).grownBy w3 dv.ownBlock)
    (hown : w3.ownsRow (tb + 1) 23 1 (.slice (some ⟨g, 0, none⟩) (da + 1) cap) (da + 1) (slV n rg rc da ++ [.slice (some ⟨gr, 0, none⟩) n cr])) (hat : dv.ownBlock = some g ∨ g = w'.heap.size + 1) :
    LineAt (w3.setCell ⟨tb, 3, none⟩ (.slice (some ⟨g, 0, none⟩) (da + 1) cap)) rb tb n ca (da + 1) cv (.slice (some ⟨g, 0, none⟩) (da + 1) cap) (fun i => if i = da then gr else rg i) (fun i => if i = da then cr else rc i) := by
  have h' := h.below hb
  obtain ⟨l1, l2⟩ := h.lt
  have hbs := hb.size
  have hs := hg.size
  simp at hs
  have hdt : ∀ x, dv.ownBlock = some x → tb + 1 ≤ x ∧ x < w.heap.size := fun x hx => h.down.lt x hx
  have hk : ∀ x, x < w'.heap.size → dv.ownBlock ≠ some x → w3.heap[x]? = w'.heap[x]? := fun x hx hne => (hg.block x (by simp; omega) hne.symm).trans (Below.heap_alloc _ _ _ hx)
  have hk' : ∀ x, x < w'.heap.size → dv.ownBlock ≠ some x → x ≠ tb → (w3.setCell ⟨tb, 3, none⟩ (.slice (some ⟨g, 0, none⟩) (da + 1) cap)).heap[x]? = w'.heap[x]? := fun x hx hne hp => (Below.heap_setCell _ _ _ _ hp).trans (hk x hx hne)
  have hrt := h.rt
  have h3 := (hk tb (by omega) fun e => by have := hdt tb e; omega).trans h'.blk
  have hsz : (w3.setCell ⟨tb, 3, none⟩ (.slice (some ⟨g, 0, none⟩) (da + 1) cap)).heap.size = w3.heap.size := by simp [World.setCell]
  have hgg : ∀ x, x < w'.heap.size → dv.ownBlock ≠ some x → g ≠ x := fun x hx hne e => by
    rcases hat with e2 | e2
    · exact hne (by rw [e2, e])
    · omega
  refine ⟨(hk' rb (by omega) (fun e => by have := hdt rb e; omega) (by omega)).trans h'.res, by simp [World.setCell, Array.getElem?_modify, h3], ownsRow_same h'.cown fun x hx => hk' x (h'.cown.lt x hx).2 (h.cd x hx) (by have := (h'.cown.lt x hx).1; omega), ?_, fun i hi => ?_, fun x hx => ?_, hrt⟩
  · rw [slV_snoc]
    exact ownsRow_same hown fun x hx => Below.heap_setCell _ _ _ _ (by have := (hown.lt x hx).1; show x ≠ tb; omega)
  · by_cases e : i = da
    · subst e
      simp only [if_pos]
      have hnd : dv.ownBlock ≠ some gr := fun e => by have := hdt gr e; omega
      refine ⟨by omega, fun e => by have := (h.cown.lt gr e).2; omega, fun e => hgg gr hgl hnd (by simpa [Value.ownBlock] using e), by rw [hsz]; omega, fun j hj => (World.cell?_of_block (a := ⟨gr, j, none⟩) (hk' gr hgl hnd (by omega))).trans (hcell j hj)⟩
    · simp only [if_neg e]
      obtain ⟨r1, r2, r3, r4, r5⟩ := h'.row i (by omega)
      refine ⟨r1, r2, fun e2 => hgg (rg i) r4 r3 (by simpa [Value.ownBlock] using e2), by rw [hsz]; omega, fun j hj => (World.cell?_of_block (a := ⟨rg i, j, none⟩) (hk' (rg i) r4 r3 (by omega))).trans (r5 j hj)⟩
  · exact fun e => hgg x (Nat.lt_of_lt_of_le (h.cown.lt x hx).2 hbs) (h.cd x hx) (by simpa [Value.ownBlock] using e)

theorem LineAt.topo (h : LineAt w rb tb n n n cv dv rg rc) (hn : 1 ≤ n) : ∃ cb cc db dc, cv = .slice (some ⟨cb, 0, none⟩) n cc ∧ dv = .slice (some ⟨db, 0, none⟩) n dc ∧ tb + 1 ≤ cb ∧ tb + 1 ≤ db ∧ TopoAt w n cb db rg rc := by
  obtain ⟨cb, cc, rfl, hc1, hc2, hc3⟩ := own_head h.cown (by omega)
  obtain ⟨db, dc, rfl, hd1, hd2, hd3⟩ := own_head h.down (by omega)
  refine ⟨cb, cc, db, dc, rfl, rfl, hc1, hd1, fun i hi => ?_, fun i hi => ?_, fun i hi j hj => (h.row i hi).2.2.2.2 j hj⟩
  · rw [hc3 i hi]; simp [intV, hi]
  · rw [hd3 i hi]; simp [slV, hi]
end
end Go.Proofs.YtikahcbkeempdaaGreatDoor
