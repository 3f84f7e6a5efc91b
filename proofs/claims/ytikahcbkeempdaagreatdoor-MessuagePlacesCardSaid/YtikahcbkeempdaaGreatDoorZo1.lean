/- zone: Order walked. -/
import Derived.Test.YtikahcbkeempdaaGreatDoorZo0
import Derived.Deep.AppendLies
namespace Go.Proofs.YtikahcbkeempdaaGreatDoor
open Go.RowKit Go.Maps Go.Shelf Go.Sort

section
variable {α : Type} [Inhabited α] {enc : α → Value} {w w0 : World} {B blk off q : Nat} {d d0 : Array α} {os : Array Obj}
theorem putRow_old (hne : ∀ i, i < B → i ≠ blk) : ∀ i, i < B → (putRow enc w blk off d).heap[i]? = w.heap[i]? := fun i hi => by
  have := hne i hi
  simp only [putRow, mapBlock, Array.getElem?_modify]
  rw [if_neg (Ne.symm this)]
theorem below_putRow (h : Below B w0 w) (hB : B ≤ blk) : Below B w0 (putRow enc w blk off d) :=
  ⟨h.os, h.tape, h.output, by rw [size_putRow]; exact h.size, fun i hi => (putRow_old (B := B) (fun i hi => by omega) i hi).trans (h.block i hi)⟩
theorem below_ahead (h : Below B w0 w) : Below B w0 (Go.Sort.ahead w q) := ⟨h.os, h.tape, h.output, h.size, h.block⟩
theorem below_grow (h : Below B w0 w) (hl : B ≤ w.heap.size) : Below B w0 (Go.Sort.grow w os) :=
  ⟨h.os, h.tape, h.output, by show w0.heap.size ≤ (w.heap ++ os).size; rw [Array.size_append]; have := h.size; omega, fun i hi => (heap_grow_old w os (by omega)).trans (h.block i hi)⟩
theorem below_sortW (h : Below B w0 w) (hB : B ≤ blk) (hl : B ≤ w.heap.size) : Below B w0 (sortWorld enc w blk off q d os) := by
  unfold sortWorld
  exact below_grow (below_putRow (below_ahead h) hB) (by rw [size_putRow]; exact hl)
theorem holds_sortW (hH : Holds enc w blk off d0) (hs : d.size = d0.size) (hblk : blk < w.heap.size) : Holds enc (sortWorld enc w blk off q d os) blk off d := by
  have h1 : Holds enc (Go.Sort.ahead w q) blk off d0 := hH
  have h2 := holds_putRow enc (Go.Sort.ahead w q) blk off d0 d h1 hs
  intro j hj
  unfold sortWorld
  rw [cell?_grow _ _ _ (by show blk < (putRow _ _ _ _ _).heap.size; rw [size_putRow]; exact hblk), frozen?_grow _ _ _ (by show blk < (putRow _ _ _ _ _).heap.size; rw [size_putRow]; exact hblk)]
  exact h2 j hj
theorem sortW_cell {a : Addr} {v : Value} (h : w.cell? a = some v) (hne : a.block ≠ blk) (hl : a.block < w.heap.size) : (sortWorld enc w blk off q d os).cell? a = some v := by
  unfold sortWorld
  rw [cell?_grow _ _ _ (by rw [size_putRow]; exact hl), cell?_putRow_other _ _ blk off _ _ (Or.inl hne)]
  exact h
theorem size_sortW : w.heap.size ≤ (sortWorld enc w blk off q d os).heap.size := by
  unfold sortWorld
  show w.heap.size ≤ ((putRow enc (Go.Sort.ahead w q) blk off d).heap ++ os).size
  rw [Array.size_append, size_putRow]
  show w.heap.size ≤ w.heap.size + os.size
  omega
end

section
variable {w w' : World} {cb cc db dc : Nat} {rg rc : Nat → Nat}
theorem ocmp (m k B g gc blk sz : Nat) (hB : w.cell? ⟨B, 0, none⟩ = some (.slice (some ⟨g, 0, none⟩) (m + 1) gc)) (hrow : ∀ j, j < m + 1 → w.cell? ⟨g, j, none⟩ = some (.int .i64 (distN k j : Int))) (h1 : B ≠ blk) (h2 : g ≠ blk) :
    CmpLays1 Tryz.prog 61 #[.pointer (some ⟨B, 0, none⟩)] (encF (m := m)) (cfF m k) blk 0 sz w := by
  intro q os dk hs x y
  exact oclo (n := m + 1) _ k B g gc x.val y.val x.isLt y.isLt (sortW_cell hB h1 (World.block_lt_of_cell? w _ hB)) (sortW_cell (hrow x.val x.isLt) h2 (World.block_lt_of_cell? w _ (hrow x.val x.isLt))) (sortW_cell (hrow y.val y.isLt) h2 (World.block_lt_of_cell? w _ (hrow y.val y.isLt)))

def OSortPost (w : World) (m k blk : Nat) (e : Ending) (w' : World) : Prop := e = .returned (.tuple #[]) ∧ ∃ q os, w' = sortWorld (encF (m := m)) w blk 0 q (ordF m k).toArray os

theorem osort (m k B g gc blk cap : Nat) (hm : m ≤ 7) (hB : w.cell? ⟨B, 0, none⟩ = some (.slice (some ⟨g, 0, none⟩) (m + 1) gc)) (hrow : ∀ j, j < m + 1 → w.cell? ⟨g, j, none⟩ = some (.int .i64 (distN k j : Int))) (h1 : B ≠ blk) (h2 : g ≠ blk)
    (hH : Holds (encF (m := m)) w blk 0 (List.finRange (m + 1)).toArray) (hblk : blk < w.heap.size) :
    Calls Tryz.prog 60 #[.slice (some ⟨blk, 0, none⟩) (m + 1) cap, .func (.func 61) #[] #[.pointer (some ⟨B, 0, none⟩)]] w (OSortPost w m k blk) := by
  have eg : ∀ args w, (callFunc 61 args).run Tryz.prog w = .ok (.enter 61 args) w := enters_of Tryz.func61 (by kernel_rfl) rfl
  have hs : (List.finRange (m + 1)).toArray.size = m + 1 := by simp
  have hc := ocmp m k B g gc blk (List.finRange (m + 1)).toArray.size hB hrow h1 h2
  have hv : Value.slice (some ⟨blk, 0, none⟩) (List.finRange (m + 1)).toArray.size cap = .slice (some ⟨blk, 0, none⟩) (m + 1) cap := by rw [hs]
  have hr := Any.slices_SortFunc_total Tryz.laysSlF6_f60 (encF (m := m)) encF_one (cfF m k) (swoF m k) 61 #[.pointer (some ⟨B, 0, none⟩)] blk 0 cap (List.finRange (m + 1)).toArray w eg hc hH hblk (by rw [hs]; omega) (totF m k)
  rw [hv] at hr
  exact hr

/-- A row of whole numbers, whole: its block. -/
theorem own_blk {base e n : Nat} {v : Value} {xs : List Value} (h : w.ownsRow base e 1 v n xs) (hn : 0 < n) :
    ∃ g cap cur, v = .slice (some ⟨g, 0, none⟩) n cap ∧ base ≤ g ∧ w.heap[g]? = some (.cells cur e (0, 0)) ∧ n ≤ cap ∧ cur.toList.take n = xs := by
  rcases h.2 with ⟨_, h0⟩ | ⟨g, cap, cur, rfl, hbase, hb, h1, _, _, h4⟩
  · omega
  · exact ⟨g, cap, cur, rfl, hbase, hb, h1, by simpa using h4⟩
theorem holdsF {m g : Nat} {cur : Array Value} (hb : w.heap[g]? = some (.cells cur 3 (0, 0))) (ht : cur.toList.take (m + 1) = intV (List.range (m + 1))) : Holds (encF (m := m)) w g 0 (List.finRange (m + 1)).toArray := by
  intro j hj
  have hj' : j < m + 1 := by simpa using hj
  rw [Nat.zero_add]
  refine ⟨?_, by simp [World.frozen?, hb]⟩
  have h1 : (intV (List.range (m + 1)))[j]? = some (.int .i64 (j : Int)) := by simp [intV, hj']
  rw [← ht] at h1
  have h2 := List.getElem?_eq_some_of_take h1
  have h3 : cur[j]? = some (.int .i64 (j : Int)) := by rw [← Array.getElem?_toList]; exact h2
  have h4 : (List.finRange (m + 1)).toArray[j]! = ⟨j, hj'⟩ := by
    rw [getElem!_pos _ j hj]
    simp
  rw [h4]
  simp only [World.cell?, hb, Option.isSome_none, Bool.false_eq_true, if_false]
  rw [h3]
  rfl

def OrdRel (w : World) (vi v : Value) (n : Nat) (wr : World) : Prop := ∃ i : Nat, vi = .int .i64 (i : Int) ∧ i ≤ n ∧ wr.ownsRow w.heap.size 3 1 v i (intV (List.range i)) ∧ Below w.heap.size w wr
def OrdPost (w : World) (m k : Nat) (e : Ending) (w' : World) : Prop :=
  ∃ g cap, e = .returned (.tuple #[.slice (some ⟨g, 0, none⟩) (m + 1) cap, .int .i64 0]) ∧ m + 1 ≤ cap ∧ w.heap.size ≤ g ∧ g < w'.heap.size ∧ Holds (encF (m := m)) w' g 0 (ordF m k).toArray ∧ Below w.heap.size w w'
theorem ordF_len (m k : Nat) : (ordF m k).length = m + 1 := by unfold ordF; rw [List.length_mergeSort, List.length_finRange]

set_option maxRecDepth 100000 in
set_option maxHeartbeats 2000000 in
theorem zorder_any {m : Nat} (h : TopoAt w (m + 1) cb db rg rc) (hm : m ≤ 5) (k : Nat) (hk : k < m + 1) : Calls Tryz.prog 49 #[.agg #[.int .i64 ((m + 1 : Nat) : Int), .int .i64 8, .slice (some ⟨cb, 0, none⟩) (m + 1) cc, .slice (some ⟨db, 0, none⟩) (m + 1) dc], .int .i64 (k : Int)] w (OrdPost w m k) := by
  obtain ⟨i0, hi0, hz0, hz1, hz2⟩ := info_parts infoI
  obtain ⟨n, hn⟩ : ∃ n, m + 1 = n := ⟨_, rfl⟩
  have HN := Lib.hid hn
  simp only [hn]
  rw [hn] at h hk
  have n6 : n ≤ 6 := by omega
  have n1 : 1 ≤ n := by omega
  have HC := Lib.hid (fun (w' : World) (hb : Below w.heap.size w w') => tcheck_any (cc := cc) (dc := dc) (h.below hb) n1 n6)
  have H := Lib.hid h
  have k0 : ¬ (k : Int) < 0 := by omega
  have k0' : (0 : Int) ≤ (k : Int) := by omega
  have k1 : ¬ (n : Int) ≤ (k : Int) := by omega
  have k2 : (k : Int) < (n : Int) := by omega
  clear h hn
  go_enter Tryz.func49, Tryz.ntmps49
  go_wp2_with fail
  refine (HC.out _ ((Below.refl _ _).alloc (Nat.le_refl _) _)).mono ?_
  rintro e w1 ⟨rfl, hb⟩
  have HB1 := Lib.hid (((Below.refl w.heap.size w).alloc (Nat.le_refl _) _).trans (hb.mono (by simp)))
  have c0 := (hb.cell (p := ⟨w.heap.size, 0, none⟩) (by simp)).trans (show _ = some (Value.int .i64 (n : Int)) by simp)
  have c3 := (hb.cell (p := ⟨w.heap.size, 3, none⟩) (by simp)).trans (show _ = some (Value.slice (some ⟨db, 0, none⟩) n dc) by simp)
  have hl1 : w.heap.size < w1.heap.size := by have := hb.size; simp at this; omega
  obtain ⟨tb, htb⟩ : ∃ tb, w.heap.size = tb := ⟨_, rfl⟩
  have HTB := Lib.hid htb
  rw [htb] at c0 c3 hl1 ⊢
  clear hb htb
  go_wp2_with fail
  go_loopw [25, 7] (fun vi v wr => OrdRel w1 vi v n wr) (fun vi _ _ => n - (intOf vi).toNat)
  case atStart => exact ⟨0, rfl, Nat.zero_le _, World.ownsRow_nil _ _ _ _, Below.refl _ _⟩
  case round =>
    clear c0
    obtain ⟨i, rfl, hi, hrow, hb⟩ := hrel
    by_cases e : i < n
    · have ci : (i : Int) < (n : Int) := by omega
      clear c3
      go_wp2_with (first
        | (at_builtin; refine wpList_append_own _ rfl _ _ 23 rfl w1.heap.size 3 i0 (.int .i64 0) 1 8 Tryz.underlying23 hi0 hz0 hz1 hz2 rfl (by decide) _ _ _ rfl (hrow.alloc _) ⟨wr.heap.size, 0, none⟩ 1 1 [.int .i64 (i : Int)] rfl rfl (cell_one_new _ _ _) (by simp [Value.oneCell']) (by unfold maxLen; omega) (by omega) (by have := hb.size; simp; omega) ?_; intro v' w3 hown' hg3 hnil3; go_frame))
      go_roundw
      case rel =>
        refine ⟨i + 1, by go_num, by omega, ?_, (hb.alloc hb.size _).grown hg3 (by have := hb.size; simp; omega) (fun j hj => (hrow.lt j hj).1)⟩
        rw [List.range_succ, intV, List.map_append]
        exact hown'
      case measure => simp [intOf]; omega
    · have ci : ¬ (i : Int) < (n : Int) := by omega
      obtain rfl : i = n := by omega
      obtain ⟨g, cap, cur, rfl, hg1, hgb, hcap, htk⟩ := own_blk hrow (by omega)
      have d3 := (hb.cell (p := ⟨tb, 3, none⟩) hl1).trans c3
      have hTr := H.out.below (HB1.out.trans (hb.mono (by have := HB1.out.size; omega)))
      have hdk := hTr.dst k hk
      have HT := Lib.hid hTr
      have HGB := Lib.hid hgb
      have HTK := Lib.hid htk
      have HB := Lib.hid hb
      clear hTr hgb htk hrow hb c3
      go_upto_region 13 with (fail)
      obtain ⟨wa, hwa⟩ : ∃ wa, wr.alloc (.cells #[.slice (some ⟨rg k, 0, none⟩) i (rc k)] 23) = wa := ⟨_, rfl⟩
      obtain ⟨B, hB⟩ : ∃ B, wr.heap.size = B := ⟨_, rfl⟩
      have hba : Below wr.heap.size wr wa := by rw [← hwa]; exact (Below.refl _ _).alloc (Nat.le_refl _) _
      have hcB : wa.cell? ⟨B, 0, none⟩ = some (.slice (some ⟨rg k, 0, none⟩) (m + 1) (rc k)) := by rw [← hwa, ← hB, HN.out]; simp
      have hgl : g < wr.heap.size := (Array.getElem?_eq_some_iff.1 HGB.out).1
      have hgba := (hba.block g hgl).trans HGB.out
      have hHo : Holds (encF (m := m)) wa g 0 (List.finRange (m + 1)).toArray := holdsF hgba (by rw [HN.out]; exact HTK.out)
      have hrl : rg k < w.heap.size := World.block_lt_of_cell? w _ (H.out.row k hk 0 (by omega))
      have hs1 := HB1.out.size
      have hsa : wa.heap.size = B + 1 := by rw [← hwa, ← hB]; simp
      have HS := Lib.hid (osort (w := wa) m k B (rg k) (rc k) g cap (by omega) hcB (fun j hj => ((hba.cell (p := ⟨rg k, j, none⟩) (by show rg k < wr.heap.size; omega)).trans (HT.out.row k hk j (by have := HN.out; omega)))) (by omega) (by omega) hHo (by omega))
      rw [HN.out] at HS
      rw [hwa, hB]
      have hbB := HB.out.size
      have hbw : Below w.heap.size w wa := (HB1.out.trans (HB.out.mono hs1)).trans (hba.mono (by omega))
      have HBW := Lib.hid hbw
      have HH := Lib.hid hHo
      clear hwa hba hcB hgba hHo hbw
      go_wp2_with fail
      refine HS.out.mono ?_
      rintro e w2 ⟨rfl, q, os, hw2⟩
      have hp : OrdPost w m k (.returned (.tuple #[.slice (some ⟨g, 0, none⟩) (m + 1) cap, .int .i64 0])) w2 := by
        rw [hw2]
        refine ⟨g, cap, rfl, by have := HN.out; omega, by omega, Nat.lt_of_lt_of_le (by omega) size_sortW, holds_sortW HH.out (by simp [ordF_len]) (by omega), below_sortW HBW.out (by omega) (by omega)⟩
      rw [HN.out] at hp
      have HP := Lib.hid hp
      clear hp hw2
      go_wp2_with fail
      go_ret2
      exact HP.out
end
end Go.Proofs.YtikahcbkeempdaaGreatDoor
