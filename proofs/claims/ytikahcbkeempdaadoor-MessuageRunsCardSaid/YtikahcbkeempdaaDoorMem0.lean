/- memory: walked. -/
import Derived.Test.YtikahcbkeempdaaDoorTable0
import Derived.Test.YtikahcbkeempdaaDoorStore0
import Derived.Deep.Cut
import Derived.Deep.RegionHeld3
namespace Go.Proofs.YtikahcbkeempdaaDoor
open Go.RowKit Go.Maps

/-- Block mb is a memory on the store sb (its bytes: block fb) by the table tb (maps mt, mf). -/
structure MachAt (w : World) (mb sb fb tb mt mf : Nat) (A X : List (Nat × Nat)) : Prop where
  blk : w.heap[mb]? = some (.cells #[.pointer (some ⟨sb, 0, none⟩), .pointer (some ⟨tb, 0, none⟩)] 111 (0, 0))
  store : StoreAt w sb fb X
  tab : TabAt w tb mt mf A
  ord : fb < sb ∧ sb < mt ∧ mt < mf ∧ mf < tb ∧ tb < mb

section
variable {w w' : World} {mb sb fb tb mt mf : Nat} {A X : List (Nat × Nat)}
theorem MachAt.c0 (h : MachAt w mb sb fb tb mt mf A X) : w.cell? ⟨mb, 0, none⟩ = some (.pointer (some ⟨sb, 0, none⟩)) := by simp [World.cell?, h.blk]
theorem MachAt.c1 (h : MachAt w mb sb fb tb mt mf A X) : w.cell? ⟨mb, 1, none⟩ = some (.pointer (some ⟨tb, 0, none⟩)) := by simp [World.cell?, h.blk]
theorem MachAt.lt (h : MachAt w mb sb fb tb mt mf A X) : mb < w.heap.size := (Array.getElem?_eq_some_iff.1 h.blk).1
theorem MachAt.same (h : MachAt w mb sb fb tb mt mf A X) (e : ∀ i, fb ≤ i → i ≤ mb → w'.heap[i]? = w.heap[i]?) : MachAt w' mb sb fb tb mt mf A X := by
  have ho := h.ord
  exact ⟨(e mb (by omega) (Nat.le_refl _)).trans h.blk, h.store.same (e sb (by omega) (by omega)) (e fb (by omega) (by omega)), h.tab.same (e tb (by omega) (by omega)) (e mt (by omega) (by omega)) (e mf (by omega) (by omega)), ho⟩
theorem MachAt.below (h : MachAt w mb sb fb tb mt mf A X) (b : Below w.heap.size w w') : MachAt w' mb sb fb tb mt mf A X :=
  h.same fun i _ h2 => b.block i (by have := h.lt; omega)

set_option maxHeartbeats 1000000 in
theorem memNew_ok (h : StoreAt w sb fb X) (hf : fb < sb) : Calls Tryd.prog 33 #[.pointer (some ⟨sb, 0, none⟩)] w fun e w' => e = .returned (.tuple #[.pointer (some ⟨w.heap.size + 3, 0, none⟩), .int .i64 0]) ∧ MachAt w' (w.heap.size + 3) sb fb (w.heap.size + 2) w.heap.size (w.heap.size + 1) [] X ∧ Below w.heap.size w w' ∧ w'.heap.size = w.heap.size + 4 := by
  have hl := h.lt
  have ht := tabNew_ok w
  go_enter Tryd.func33, Tryd.ntmps33
  go_wp2_with fail
  refine ht.mono ?_
  rintro e w1 ⟨rfl, hT, hb, hs⟩
  have HS := Lib.hid hs
  clear hs
  go_wp2_with fail
  go_ret2
  have hs := HS.out
  refine ⟨by rw [hs]; rfl, ⟨?_, ?_, ?_, by omega⟩, hb.alloc hb.size _, by simp [hs]⟩
  · have := heap_alloc_new w1 (.cells #[.pointer (some ⟨sb, 0, none⟩), .pointer (some ⟨w.heap.size + 2, 0, none⟩)] 111)
    rw [hs] at this
    exact this
  · exact (h.same (w' := w1) (hb.block _ hl.1) (hb.block _ hl.2)).same (Below.heap_alloc _ _ _ (by omega)) (Below.heap_alloc _ _ _ (by omega))
  · exact hT.same (Below.heap_alloc _ _ _ (by omega)) (Below.heap_alloc _ _ _ (by omega)) (Below.heap_alloc _ _ _ (by omega))

set_option maxHeartbeats 1000000 in
theorem page_any (mb n : Nat) (hn : n < 4096) (w : World) : Calls Tryd.prog 69 #[.pointer (some ⟨mb, 0, none⟩), .int .i64 (n : Int)] w fun e w' => e = .returned (.bool true) ∧ w = w' := by
  have c1 : (n : Int) < 4096 := by omega
  go_enter Tryd.func69, Tryd.ntmps69
  go_wp2_with fail
  go_ret
  exact ⟨rfl, rfl⟩

set_option maxHeartbeats 1000000 in
theorem both_any (h : MachAt w mb sb fb tb mt mf A X) (p f : Nat) (hp : p < 4096) (hf : f < 64) : Calls Tryd.prog 59 #[.pointer (some ⟨mb, 0, none⟩), .int .i64 (p : Int), .int .i64 (f : Int)] w fun e w' => e = .returned (.bool true) ∧ w = w' := by
  have h0 := h.c0
  have HL := Lib.hid (flen_any h.store)
  have c1 : (f : Int) < 64 := by omega
  clear h
  go_enter Tryd.func59, Tryd.ntmps59
  go_wp2_with fail
  refine (page_any mb p hp _).mono ?_
  rintro e w' ⟨rfl, rfl⟩
  go_wp2_with fail
  refine HL.out.mono ?_
  rintro e w' ⟨rfl, rfl⟩
  go_wp2_with fail
  go_ret
  exact ⟨rfl, rfl⟩

set_option maxHeartbeats 1000000 in
theorem mapped_any (h : MachAt w mb sb fb tb mt mf A X) : Calls Tryd.prog 41 #[.pointer (some ⟨mb, 0, none⟩)] w fun e w' => e = .returned (.int .i64 (A.length : Int)) ∧ w = w' := by
  have h0 := h.c1
  have HL := Lib.hid (tabLen_any h.tab)
  clear h
  go_enter Tryd.func41, Tryd.ntmps41
  go_wp2_with fail
  refine HL.out.mono ?_
  rintro e w' ⟨rfl, rfl⟩
  go_wp2_with fail
  go_ret
  exact ⟨rfl, rfl⟩

set_option maxHeartbeats 1000000 in
theorem memMap_new (h : MachAt w mb sb fb tb mt mf A X) (p f : Nat) (hp : p < 4096) (hf : f < 64) (hna : p ∉ A.map (·.1)) (hnb : f ∉ A.map (·.2)) (hn : A.length < maxLen) :
    Calls Tryd.prog 36 #[.pointer (some ⟨mb, 0, none⟩), .int .i64 (p : Int), .int .i64 (f : Int)] w fun e w' => e = .returned (.int .i64 0) ∧ MachAt w' mb sb fb tb mt mf (A ++ [(p, f)]) X ∧ Kept mt (mf + 1) w w' := by
  have h0 := h.c1
  have HB := Lib.hid (both_any h p f hp hf)
  have HM := Lib.hid (tabMap_new h.tab p f (by omega) (by omega) hna hnb hn)
  have H := Lib.hid h
  clear h
  go_enter Tryd.func36, Tryd.ntmps36
  go_wp2_with fail
  refine HB.out.mono ?_
  rintro e w' ⟨rfl, rfl⟩
  go_wp2_with fail
  refine HM.out.mono ?_
  rintro e w1 ⟨rfl, hT, hk⟩
  go_wp2_with fail
  go_ret
  have h := H.out
  have ho := h.ord
  have hl := h.lt
  refine ⟨rfl, ⟨(hk.block mb hl (by omega)).trans h.blk, h.store.same (hk.block sb (by omega) (by omega)) (hk.block fb (by omega) (by omega)), hT, ho⟩, ⟨hk.os, hk.tape, hk.output, hk.size, fun i hi hn => hk.block i hi (by omega)⟩⟩
end
end Go.Proofs.YtikahcbkeempdaaDoor
