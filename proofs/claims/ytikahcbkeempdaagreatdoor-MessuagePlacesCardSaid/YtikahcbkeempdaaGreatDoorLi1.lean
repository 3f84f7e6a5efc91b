/- messuagetop: line walked. -/
import Derived.Test.YtikahcbkeempdaaGreatDoorLi0
namespace Go.Proofs.YtikahcbkeempdaaGreatDoor
open Go.RowKit Go.Maps

def LiRel (w : World) (rb tb n : Nat) (vi : Value) (wr : World) : Prop :=
  ∃ (a : Nat) (cv dv : Value) (rg rc : Nat → Nat), vi = .int .i64 (a : Int) ∧ a ≤ n ∧ LineAt wr rb tb n a a cv dv rg rc ∧ Below w.heap.size w wr
def LiRel2 (w5 : World) (n a : Nat) (vi v : Value) (wr : World) : Prop :=
  ∃ b : Nat, vi = .int .i64 (b : Int) ∧ b ≤ n ∧ wr.ownsRow w5.heap.size 3 1 v b (intV ((List.range b).map fun j => distN a j)) ∧ Below w5.heap.size w5 wr
def LiPost (w : World) (n : Nat) (e : Ending) (w' : World) : Prop :=
  ∃ cb cc db dc rg rc, e = .returned (.agg #[.int .i64 (n : Int), .int .i64 8, .slice (some ⟨cb, 0, none⟩) n cc, .slice (some ⟨db, 0, none⟩) n dc]) ∧ TopoAt w' n cb db rg rc ∧ Below w.heap.size w w'

set_option maxRecDepth 100000 in
set_option maxHeartbeats 2000000 in
theorem line_any (n : Nat) (h1 : 1 ≤ n) (hn : n ≤ 6) (w : World) : Calls Tryz.prog 4 #[.int .i64 (n : Int), .int .i64 8] w (LiPost w n) := by
  obtain ⟨i0, hi0, hz0, hz1, hz2⟩ := info_parts infoI
  obtain ⟨j0, hj0, hy0, hy1, hy2⟩ := info_parts infoS
  go_enter Tryz.func4, Tryz.ntmps4
  go_upto_region 2 with (fail)
  obtain ⟨w1, hw1⟩ : ∃ w1, (w.alloc (.cells #[.int .i64 0, .int .i64 0, .slice none 0 0, .slice none 0 0] 26)).alloc (.cells #[.int .i64 (n : Int), .int .i64 8, .slice none 0 0, .slice none 0 0] 26) = w1 := ⟨_, rfl⟩
  obtain ⟨rb, hrb⟩ : ∃ rb, w.heap.size = rb := ⟨_, rfl⟩
  obtain ⟨tb, htb⟩ : ∃ tb, rb + 1 = tb := ⟨_, rfl⟩
  have hL1 : LineAt w1 rb tb n 0 0 (.slice none 0 0) (.slice none 0 0) (fun _ => 0) (fun _ => 0) := by
    refine ⟨?_, ?_, World.ownsRow_nil _ _ _ _, World.ownsRow_nil _ _ _ _, (fun i hi => absurd hi (by omega)), (fun x hx => by simp [Value.ownBlock] at hx), by omega⟩
    · rw [← hw1, ← hrb, Below.heap_alloc _ _ _ (by simp)]
      exact heap_alloc_new w _
    · have := heap_alloc_new (w.alloc (.cells #[.int .i64 0, .int .i64 0, .slice none 0 0, .slice none 0 0] 26)) (.cells #[.int .i64 (n : Int), .int .i64 8, .slice none 0 0, .slice none 0 0] 26)
      rw [World.size_alloc, hrb, htb, hw1] at this
      exact this
  have hb1 : Below w.heap.size w w1 := by rw [← hw1]; exact ((Below.refl _ _).alloc (Nat.le_refl _) _).alloc (by simp) _
  have HL1 := Lib.hid hL1
  have HB1 := Lib.hid hb1
  have hwr : w.heap.size ≤ rb := by omega
  have hwt : w.heap.size ≤ tb := by omega
  rw [hw1, hrb, htb]
  clear hw1 hL1 hb1 hrb htb
  go_wp2_with fail
  go_loopw [6] (fun vi wr => LiRel w rb tb n vi wr) (fun vi _ => n - (intOf vi).toNat)
  case atStart => exact ⟨0, _, _, _, _, rfl, Nat.zero_le _, HL1.out, HB1.out⟩
  case round =>
    clear HL1 HB1
    obtain ⟨a, cv, dv, rg, rc, rfl, ha, hL, hb⟩ := hrel
    have HL := Lib.hid hL
    have HB := Lib.hid hb
    have hc2 := hL.c2
    have hcown := hL.cown
    have htl := hL.lt.2
    by_cases e : a < n
    · have ca : (a : Int) < (n : Int) := by omega
      have hct : cv.ownBlock ≠ some tb := fun e => by have := (hL.cown.lt tb e).1; omega
      have HCT := Lib.hid hct
      clear hL hb hct
      go_wp2_with (first
        | (at_builtin; refine wpList_append_lies _ rfl _ _ 23 rfl (tb + 1) 3 i0 (.int .i64 0) 1 8 Tryz.underlying23 hi0 hz0 hz1 hz2 rfl (by decide) _ _ _ rfl (hcown.alloc _) ⟨wr.heap.size, 0, none⟩ 1 1 [.int .i64 (a : Int)] rfl rfl (cell_one_new _ _ _) (by simp [Value.oneCell']) (by decide) (by unfold maxLen; omega) (by omega) (by simp; omega) (wr.heap.size + 1) (by simp) ?_; intro g3 cap3 w3 hown3 hg3 hat3 hlt3; have hblk3 := (hg3.block tb (by simp; omega) (Ne.symm HCT.out)).trans ((Below.heap_alloc _ _ _ htl).trans HL.out.blk); have hc3 : w3.cell? ⟨tb, 2, none⟩ = some cv := (by simp [World.cell?, hblk3]); have hf3 : w3.frozen? ⟨tb, 2, none⟩ = false := (by simp [World.frozen?, hblk3]); clear hblk3))
      obtain ⟨w4, hw4⟩ : ∃ w4, w3.setCell ⟨tb, 2, none⟩ (.slice (some ⟨g3, 0, none⟩) (a + 1) cap3) = w4 := ⟨_, rfl⟩
      have hL4 := HL.out.cpu hg3 hown3 hat3
      have hb4 : Below w.heap.size w w4 := by
        rw [← hw4]
        exact ((HB.out.alloc HB.out.size _).grown hg3 (by have := HB.out.size; simp; omega) (fun x hx => by have := (hcown.lt x hx).1; omega)).setCell (p := ⟨tb, 2, none⟩) hwt _
      rw [hw4] at hL4 ⊢
      have HL4 := Lib.hid hL4
      have HB4 := Lib.hid hb4
      clear hL4 hb4 hw4 hown3 hg3 hat3 hlt3 hc3 hf3 hc2 hcown
      go_loopw [8, 7] (fun vi v wr' => LiRel2 w4 n a vi v wr') (fun vi _ _ => n - (intOf vi).toNat)
      case atStart => exact ⟨0, rfl, Nat.zero_le _, World.ownsRow_nil _ _ _ _, Below.refl _ _⟩
      case round =>
        clear htl
        obtain ⟨b, rfl, hbn, hrow, hbk⟩ := hrel
        have hbs := hbk.size
        by_cases e2 : b < n
        · have cb : (b : Int) < (n : Int) := by omega
          by_cases eab : a < b
          · have cab : (a : Int) < (b : Int) := by omega
            have hd : (10 : Int) + 5 * ((b : Int) - (a : Int)) = (distN a b : Int) := by unfold distN; rw [if_pos eab]; omega
            go_wp2_with (first
              | (at_builtin; refine wpList_append_own _ rfl _ _ 23 rfl w4.heap.size 3 i0 (.int .i64 0) 1 8 Tryz.underlying23 hi0 hz0 hz1 hz2 rfl (by decide) _ _ _ rfl (hrow.alloc _) ⟨wr.heap.size, 0, none⟩ 1 1 [.int .i64 (distN a b : Int)] rfl rfl (cell_one_new _ _ _) (by simp [Value.oneCell']) (by unfold maxLen; omega) (by omega) (by simp; omega) ?_; intro v' w5 hown' hg5 hnil5; go_frame))
            go_roundw
            case rel =>
              refine ⟨b + 1, by go_num, by omega, ?_, (hbk.alloc hbk.size _).grown hg5 (by simp; omega) (fun x hx => (hrow.lt x hx).1)⟩
              rw [List.range_succ, List.map_append, intV, List.map_append]
              exact hown'
            case measure => simp [intOf]; omega
          · have cab : ¬ (a : Int) < (b : Int) := by omega
            have hd : (10 : Int) + 5 * ((a : Int) - (b : Int)) = (distN a b : Int) := by unfold distN; rw [if_neg eab]; omega
            go_wp2_with (first
              | (at_builtin; refine wpList_append_own _ rfl _ _ 23 rfl w4.heap.size 3 i0 (.int .i64 0) 1 8 Tryz.underlying23 hi0 hz0 hz1 hz2 rfl (by decide) _ _ _ rfl (hrow.alloc _) ⟨wr.heap.size, 0, none⟩ 1 1 [.int .i64 (distN a b : Int)] rfl rfl (cell_one_new _ _ _) (by simp [Value.oneCell']) (by unfold maxLen; omega) (by omega) (by simp; omega) ?_; intro v' w5 hown' hg5 hnil5; go_frame))
            go_roundw
            case rel =>
              refine ⟨b + 1, by go_num, by omega, ?_, (hbk.alloc hbk.size _).grown hg5 (by simp; omega) (fun x hx => (hrow.lt x hx).1)⟩
              rw [List.range_succ, List.map_append, intV, List.map_append]
              exact hown'
            case measure => simp [intOf]; omega
        · have cb : ¬ (b : Int) < (n : Int) := by omega
          obtain rfl : b = n := by omega
          obtain ⟨gr, cr, rfl, hr1, hr2, hr3⟩ := own_head hrow (by omega)
          have hcell : ∀ j, j < b → wr.cell? ⟨gr, j, none⟩ = some (.int .i64 (distN a j : Int)) := fun j hj => by rw [hr3 j hj]; simp [intV, hj]
          have hLb := HL4.out.below hbk
          have hd3 := hLb.c3
          have hdown := hLb.down
          have htl := hLb.lt.2
          have hdt : dv.ownBlock ≠ some tb := fun e => by have := (hLb.down.lt tb e).1; omega
          have HDT := Lib.hid hdt
          have HLb := Lib.hid hLb
          have HC := Lib.hid hcell
          have HBK := Lib.hid hbk
          clear hrow hr3 hcell hLb hdt hbk
          go_wp2_with (first
            | (at_builtin; refine wpList_append_lies _ rfl _ _ 24 rfl (tb + 1) 23 j0 (.slice none 0 0) 1 24 Tryz.underlying24 hj0 hy0 hy1 hy2 rfl (by decide) _ _ _ rfl (hdown.alloc _) ⟨wr.heap.size, 0, none⟩ 1 1 [.slice (some ⟨gr, 0, none⟩) b cr] rfl rfl (cell_one_new _ _ _) (by simp [Value.oneCell']) (by decide) (by unfold maxLen; omega) (by omega) (by simp; omega) (wr.heap.size + 1) (by simp) ?_; intro g6 cap6 w6 hown6 hg6 hat6 hlt6; have hblk6 := (hg6.block tb (by simp; omega) (Ne.symm HDT.out)).trans ((Below.heap_alloc _ _ _ htl).trans HLb.out.blk); have hc6 : w6.cell? ⟨tb, 3, none⟩ = some dv := (by simp [World.cell?, hblk6]); have hf6 : w6.frozen? ⟨tb, 3, none⟩ = false := (by simp [World.frozen?, hblk6]); clear hblk6))
          have hL7 := HL4.out.rowMore HBK.out hr1 hr2 HC.out hg6 hown6 hat6
          have hb7 := (((HB4.out.trans (HBK.out.mono HB4.out.size)).alloc (by have := HB4.out.size; omega) _).grown hg6 (by have := HB4.out.size; simp; omega) (fun x hx => by have := (hdown.lt x hx).1; omega)).setCell (p := ⟨tb, 3, none⟩) hwt (.slice (some ⟨g6, 0, none⟩) (a + 1) cap6)
          have HL7 := Lib.hid hL7
          clear hL7 hown6 hg6 hat6 hlt6 hc6 hf6 hd3 hdown
          go_roundw
          case rel => exact ⟨a + 1, _, _, _, _, by go_num, by omega, HL7.out, hb7⟩
          case measure => simp [intOf]; omega
    · have ca : ¬ (a : Int) < (n : Int) := by omega
      obtain rfl : a = n := by omega
      obtain ⟨cb, cc, db, dc, rfl, rfl, hcb, hdb, hT⟩ := hL.topo h1
      have k0 : wr.cell? ⟨tb, 0, none⟩ = some (.int .i64 (a : Int)) := by simp [World.cell?, hL.blk]
      have k1 : wr.cell? ⟨tb, 1, none⟩ = some (.int .i64 8) := by simp [World.cell?, hL.blk]
      have k2 := hL.c2
      have k3 := hL.c3
      have r0 : wr.cell? ⟨rb, 0, none⟩ = some (.int .i64 0) := by simp [World.cell?, hL.res]
      have r1 : wr.cell? ⟨rb, 1, none⟩ = some (.int .i64 0) := by simp [World.cell?, hL.res]
      have r2 : wr.cell? ⟨rb, 2, none⟩ = some (.slice none 0 0) := by simp [World.cell?, hL.res]
      have r3 : wr.cell? ⟨rb, 3, none⟩ = some (.slice none 0 0) := by simp [World.cell?, hL.res]
      have f0 : ∀ o, wr.frozen? ⟨rb, o, none⟩ = false := fun o => by simp [World.frozen?, hL.res]
      have hrt := hL.rt
      have hrow0 : ∀ i, i < a → tb + 1 ≤ rg i := fun i hi => (hL.row i hi).1
      have HT := Lib.hid hT
      have HR0 := Lib.hid hrow0
      have hn0 : tb ≠ rb := by omega
      clear hL hT hc2 hcown HL hrow0
      go_wp2_with fail
      refine bodyPost_ret (v := .agg #[.int .i64 (a : Int), .int .i64 8, .slice (some ⟨cb, 0, none⟩) a cc, .slice (some ⟨db, 0, none⟩) a dc]) (by simp [results, Tryz.results4, go_sem, r0, r1, r2, r3]) rfl ⟨cb, cc, db, dc, rg, rc, rfl, ?_, ?_⟩
      · have hk : ∀ x, x ≠ rb → ∀ v0 v1 v2 v3, ((((wr.setCell ⟨rb, 0, none⟩ v0).setCell ⟨rb, 1, none⟩ v1).setCell ⟨rb, 2, none⟩ v2).setCell ⟨rb, 3, none⟩ v3).heap[x]? = wr.heap[x]? := fun x hx v0 v1 v2 v3 =>
          (Below.heap_setCell _ _ _ _ hx).trans ((Below.heap_setCell _ _ _ _ hx).trans ((Below.heap_setCell _ _ _ _ hx).trans (Below.heap_setCell _ _ _ _ hx)))
        exact ⟨fun i hi => (World.cell?_of_block (a := ⟨cb, i, none⟩) (hk cb (by omega) _ _ _ _)).trans (HT.out.cpu i hi), fun i hi => (World.cell?_of_block (a := ⟨db, i, none⟩) (hk db (by omega) _ _ _ _)).trans (HT.out.dst i hi),
          fun i hi j hj => (World.cell?_of_block (a := ⟨rg i, j, none⟩) (hk (rg i) (by have := HR0.out i hi; omega) _ _ _ _)).trans (HT.out.row i hi j hj)⟩
      · exact (((hb.setCell (p := ⟨rb, 0, none⟩) hwr _).setCell (p := ⟨rb, 1, none⟩) hwr _).setCell (p := ⟨rb, 2, none⟩) hwr _).setCell (p := ⟨rb, 3, none⟩) hwr _
end Go.Proofs.YtikahcbkeempdaaGreatDoor
