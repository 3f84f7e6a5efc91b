/- memory: pieces, Write, Read. -/
import Derived.Test.YtikahcbkeempdaaDoorMem0
namespace Go.Proofs.YtikahcbkeempdaaDoor
open Go.RowKit Go.Maps

theorem infoPc : (Tryd.prog.info? 121).map (fun i => (i.zero, i.size, i.bytes)) = some (some (.agg #[.int .i64 0, .int .i64 0, .int .i64 0]), 3, 24) := by kernel_rfl

def PieceRow (w wr : World) (f : Nat) (v : Value) : Prop := ∃ g cap cur, v = .slice (some ⟨g, 0, none⟩) 1 cap ∧ w.heap.size ≤ g ∧ wr.heap[g]? = some (.cells cur 121 (0, 0)) ∧ cur.toList.take 3 = [.int .i64 (f : Int), .int .i64 0, .int .i64 1]
def PiecesPost (w : World) (f : Nat) (e : Ending) (w' : World) : Prop := ∃ v, e = .returned (.tuple #[v, .int .i64 0]) ∧ PieceRow w w' f v ∧ Below w.heap.size w w'
def PcRel (w : World) (p f : Nat) (va vn v : Value) (wr : World) : Prop :=
  (va = .int .i64 (64 * (p : Int)) ∧ vn = .int .i64 1 ∧ v = .slice none 0 0 ∧ wr = w) ∨ (vn = .int .i64 0 ∧ PieceRow w wr f v ∧ Below w.heap.size w wr)
def nLeft (v : Value) : Nat := match v with | .int _ x => x.toNat | _ => 0

section
variable {w w' : World} {mb sb fb tb mt mf : Nat} {A X : List (Nat × Nat)}

set_option maxRecDepth 100000 in
set_option maxHeartbeats 2000000 in
theorem pieces_one (h : MachAt w mb sb fb tb mt mf A X) (p f : Nat) (hp : p < 4095) (hm : (p, f) ∈ A) :
    Calls Tryd.prog 61 #[.pointer (some ⟨mb, 0, none⟩), .int .i64 (64 * (p : Int)), .int .i64 1] w (PiecesPost w f) := by
  obtain ⟨i0, hi, hz0, hz1, hzb⟩ := info_parts infoPc
  have h1 := h.c1
  have HT := Lib.hid (tabTo_yes h.tab (p, f) hm (by simp only; omega))
  have c1 : ¬ (262143 : Int) < 64 * (p : Int) := by omega
  have c2 : ¬ 64 * (p : Int) < 0 := by omega
  have hq1 : (64 * (p : Int)).tdiv 64 = (p : Int) := by rw [Int.tdiv_eq_ediv_of_nonneg (by omega)]; omega
  have hq2 : (64 * (p : Int)) / 64 = (p : Int) := by omega
  have hr1 : (64 * (p : Int)).tmod 64 = 0 := by rw [Int.tmod_eq_emod_of_nonneg (by omega)]; omega
  have hr2 : (64 * (p : Int)) % 64 = 0 := by omega
  clear h
  go_enter Tryd.func61, Tryd.ntmps61
  go_wp2_with fail
  go_loopw [1, 2, 8] (fun va vn v wr => PcRel w p f va vn v wr) (fun _ vn _ _ => nLeft vn)
  case atStart => exact .inl ⟨rfl, rfl, rfl, rfl⟩
  case round =>
    rcases hrel with ⟨rfl, rfl, rfl, rfl⟩ | ⟨rfl, hrow, hb⟩
    · go_wp2_with fail
      refine HT.out.mono ?_
      rintro e w' ⟨rfl, rfl⟩
      go_wp2_with (first
        | (at_builtin; refine wpList_append_own _ rfl _ _ 117 rfl wr.heap.size 121 i0 _ 3 24 Tryd.underlying117 hi hz0 hz1 hzb rfl (by decide) _ _ _ rfl (World.ownsRow_nil _ _ _ _) ⟨wr.heap.size, 0, none⟩ 1 1 [.int .i64 (f : Int), .int .i64 0, .int .i64 1] rfl rfl (World.news_of_block (cs := #[.int .i64 (f : Int), .int .i64 0, .int .i64 1]) (t := 121) (fr := (0, 0)) (heap_alloc_new wr _)) (by simp [Value.oneCell']) (by decide) (by decide) (by simp) ?_; intro v' w7 hown7 hg7 hnil7))
      have hb7 := ((Below.refl wr.heap.size wr).alloc (Nat.le_refl _) (.cells #[.int .i64 (f : Int), .int .i64 0, .int .i64 1] 121)).grown hg7 (by simp) (fun k hk => by cases hk)
      have hrow : PieceRow wr w7 f v' := by
        rcases hown7.2 with ⟨_, h0⟩ | ⟨g, cap, cur, rfl, hbase, hbk, _, _, _, h4⟩
        · cases h0
        · exact ⟨g, cap, cur, rfl, hbase, hbk, by simpa using h4⟩
      go_roundw
      case rel => exact .inr ⟨by first | rfl | go_num, hrow, hb7⟩
      case measure => first | decide | simp [nLeft]
    · go_wp2_with fail
      go_ret2
      exact ⟨_, rfl, hrow, hb⟩

theorem PieceRow.cells {wr : World} {f : Nat} {v : Value} (h : PieceRow w wr f v) : ∃ g cap, v = .slice (some ⟨g, 0, none⟩) 1 cap ∧ w.heap.size ≤ g ∧ wr.cell? ⟨g, 0, none⟩ = some (.int .i64 (f : Int)) ∧ wr.cell? ⟨g, 1, none⟩ = some (.int .i64 0) ∧ wr.cell? ⟨g, 2, none⟩ = some (.int .i64 1) := by
  obtain ⟨g, cap, cur, rfl, hg, hb, ht⟩ := h
  have hc : ∀ j, j < 3 → wr.cell? ⟨g, j, none⟩ = ([.int .i64 (f : Int), .int .i64 0, .int .i64 1] : List Value)[j]? := fun j hj => by
    simp only [World.cell?, hb]
    rw [← ht, List.getElem?_take_of_lt hj]
    simp
  exact ⟨g, cap, rfl, hg, hc 0 (by decide), hc 1 (by decide), hc 2 (by decide)⟩

/-- The loop over the one piece. -/
def WrRel (w : World) (mb sb fb tb mt mf : Nat) (A X' : List (Nat × Nat)) (g0 cap0 : Nat) (vi vb : Value) (wr : World) : Prop :=
  (vi = .int .i64 0 ∧ vb = .slice (some ⟨g0, 0, none⟩) 1 cap0 ∧ w = wr) ∨ (vi = .int .i64 1 ∧ MachAt wr mb sb fb tb mt mf A X' ∧ Kept fb (fb + 1) w wr)

set_option maxRecDepth 100000 in
set_option maxHeartbeats 2000000 in
theorem write_one (h : MachAt w mb sb fb tb mt mf A X) (p f x : Nat) (hp : p < 4095) (hm : (p, f) ∈ A) (hf : f < 64) (hn : f ∉ X.map (·.1)) (g0 : Nat) (hx : w.cell? ⟨g0, 0, none⟩ = some (.int .u8 (x : Int))) :
    Calls Tryd.prog 37 #[.pointer (some ⟨mb, 0, none⟩), .int .i64 (64 * (p : Int)), .slice (some ⟨g0, 0, none⟩) 1 1] w fun e w' => e = .returned (.int .i64 0) ∧ MachAt w' mb sb fb tb mt mf A (X ++ [(f, x)]) ∧ Kept fb (fb + 1) w w' := by
  have HP := Lib.hid (pieces_one h p f hp hm)
  have hg0 := World.block_lt_of_cell? w _ hx
  have hml := h.lt
  have ho := h.ord
  have H := Lib.hid h
  clear h
  go_enter Tryd.func37, Tryd.ntmps37
  go_wp2_with fail
  refine HP.out.mono ?_
  rintro e w1 ⟨v, rfl, hrow, hb1⟩
  obtain ⟨g, cap, rfl, hg, p0, p1, p2⟩ := hrow.cells
  have hM1 := H.out.below hb1
  have hx1 : w1.cell? ⟨g0, 0, none⟩ = some (.int .u8 (x : Int)) := (World.cell?_of_block (a := ⟨g0, 0, none⟩) (hb1.block g0 hg0)).trans hx
  have HM1 := Lib.hid hM1
  clear hrow hM1
  go_wp2_with fail
  go_loopw [22, 2] (fun vi vb wr => WrRel w1 mb sb fb tb mt mf A (X ++ [(f, x)]) g0 1 vi vb wr) (fun vi _ _ => 2 - nLeft vi)
  case atStart => exact .inl ⟨rfl, rfl, rfl⟩
  case round =>
    rcases hrel with ⟨rfl, rfl, rfl⟩ | ⟨rfl, hM, hk⟩
    · have h2 := HM1.out.below ((Below.refl w1.heap.size w1).alloc (Nat.le_refl _) (.cells #[.int .i64 (f : Int), .int .i64 0, .int .i64 1] 121))
      go_upto_region 5 with (fail)
      obtain ⟨pb, hpb⟩ : ∃ pb, w1.heap.size = pb := ⟨_, rfl⟩
      obtain ⟨w2, hw2⟩ : ∃ w2, w1.alloc (.cells #[.int .i64 (f : Int), .int .i64 0, .int .i64 1] 121) = w2 := ⟨_, rfl⟩
      have hb2 : w2.heap[pb]? = some (.cells #[.int .i64 (f : Int), .int .i64 0, .int .i64 1] 121 (0, 0)) := by rw [← hw2, ← hpb]; exact heap_alloc_new w1 _
      have hs2 : w2.heap.size = pb + 1 := by rw [← hw2, ← hpb]; simp
      have hpl : w.heap.size ≤ pb := by rw [← hpb]; exact hb1.size
      have q0 : w2.cell? ⟨pb, 0, none⟩ = some (.int .i64 (f : Int)) := by simp [World.cell?, hb2]
      have q1 : w2.cell? ⟨pb, 1, none⟩ = some (.int .i64 0) := by simp [World.cell?, hb2]
      have q2 : w2.cell? ⟨pb, 2, none⟩ = some (.int .i64 1) := by simp [World.cell?, hb2]
      have hx2 : w2.cell? ⟨g0, 0, none⟩ = some (.int .u8 (x : Int)) := (World.cell?_of_block (a := ⟨g0, 0, none⟩) (by rw [← hw2]; exact Below.heap_alloc _ _ _ (by show g0 < w1.heap.size; have := hb1.size; omega))).trans hx1
      have hk12 : Kept fb (fb + 1) w1 w2 := by rw [← hw2]; exact (Kept.refl _ _ _).alloc _
      rw [hw2] at h2
      have m0 := h2.c0
      have HSV := Lib.hid (fun m => save_one (w := w2.drewN m) (h2.store.same rfl rfl) f x hf hn g0 0 1 hx2)
      have H2 := Lib.hid h2
      have HS2 := Lib.hid hs2
      rw [hw2, hpb]
      clear hb2 hw2 hpb hs2 h2 hx1 hx2 p0 p1 p2 hb1 HM1
      go_region_held3 (fun u => u.cell? ⟨mb, 0, none⟩ = some (.pointer (some ⟨sb, 0, none⟩)) ∧ u.cell? ⟨pb, 0, none⟩ = some (.int .i64 (f : Int)) ∧ u.cell? ⟨pb, 1, none⟩ = some (.int .i64 0) ∧ u.cell? ⟨pb, 2, none⟩ = some (.int .i64 1))
        (first | (go_split_ands; refine ⟨?_, ?_, ?_, ?_⟩ <;> assumption) | go_keep)
        ((go_at_call 62; refine (HSV.out 1).mono ?_; rintro e w3 ⟨rfl, hS3, hk3⟩; have m3 := (World.cell?_of_block (a := ⟨mb, 0, none⟩) (hk3.block mb (by have := HS2.out; show mb < w2.heap.size; omega) (by omega))).trans m0; have r0 := (World.cell?_of_block (a := ⟨pb, 0, none⟩) (hk3.block pb (by have := HS2.out; show pb < w2.heap.size; omega) (by omega))).trans q0; have r1 := (World.cell?_of_block (a := ⟨pb, 1, none⟩) (hk3.block pb (by have := HS2.out; show pb < w2.heap.size; omega) (by omega))).trans q1; have r2 := (World.cell?_of_block (a := ⟨pb, 2, none⟩) (hk3.block pb (by have := HS2.out; show pb < w2.heap.size; omega) (by omega))).trans q2))
      go_wp2_with fail
      go_roundw
      case rel =>
        refine .inr ⟨by first | rfl | go_num, ⟨(hk3.block mb (by have := HS2.out; show mb < w2.heap.size; omega) (by omega)).trans H2.out.blk, hS3, H2.out.tab.same (hk3.block tb ?_ ?_) (hk3.block mt ?_ ?_) (hk3.block mf ?_ ?_), ho⟩, ?_⟩
        all_goals first | omega | (have := HS2.out; show _ < w2.heap.size; omega) | exact ⟨hk3.os.trans hk12.os, hk3.tape.trans hk12.tape, hk3.output.trans hk12.output, Nat.le_trans hk12.size hk3.size, fun i h1 h2 => (hk3.block i (Nat.lt_of_lt_of_le h1 hk12.size) h2).trans (hk12.block i h1 h2)⟩
      case measure => first | decide | simp [nLeft]
    · go_wp2_with fail
      go_ret
      exact ⟨rfl, hM, ⟨hk.os.trans hb1.os, hk.tape.trans hb1.tape, hk.output.trans hb1.output, Nat.le_trans hb1.size hk.size, fun i h1 h2 => (hk.block i (Nat.lt_of_lt_of_le h1 hb1.size) h2).trans (hb1.block i h1)⟩⟩

def ReadPost (w : World) (x : Nat) (e : Ending) (w' : World) : Prop := ∃ g c, e = .returned (.tuple #[.slice (some ⟨g, 0, none⟩) 1 c, .int .i64 0]) ∧ w'.cell? ⟨g, 0, none⟩ = some (.int .u8 (x : Int)) ∧ Below w.heap.size w w'
def RdRel (w : World) (x : Nat) (vi vo : Value) (wr : World) : Prop :=
  (vi = .int .i64 0 ∧ vo = .slice none 0 0 ∧ w = wr) ∨ (vi = .int .i64 1 ∧ (∃ g c, vo = .slice (some ⟨g, 0, none⟩) 1 c ∧ wr.cell? ⟨g, 0, none⟩ = some (.int .u8 (x : Int))) ∧ Below w.heap.size w wr)

set_option maxRecDepth 100000 in
set_option maxHeartbeats 2000000 in
theorem read_one (h : MachAt w mb sb fb tb mt mf A X) (p f x : Nat) (hp : p < 4095) (hm : (p, f) ∈ A) (hf : f < 64) (hx : (f, x) ∈ X) :
    Calls Tryd.prog 38 #[.pointer (some ⟨mb, 0, none⟩), .int .i64 (64 * (p : Int)), .int .i64 1] w (ReadPost w x) := by
  obtain ⟨i0, hi, hz0, hz1, hzb⟩ := info_parts infoU2
  have HP := Lib.hid (pieces_one h p f hp hm)
  have hml := h.lt
  have H := Lib.hid h
  clear h
  go_enter Tryd.func38, Tryd.ntmps38
  go_wp2_with fail
  refine HP.out.mono ?_
  rintro e w1 ⟨v, rfl, hrow, hb1⟩
  obtain ⟨g, cap, rfl, hg, p0, p1, p2⟩ := hrow.cells
  have hM1 := H.out.below hb1
  have HM1 := Lib.hid hM1
  clear hrow hM1
  go_wp2_with fail
  go_loopw [24, 10] (fun vi vo wr => RdRel w1 x vi vo wr) (fun vi _ _ => 2 - nLeft vi)
  case atStart => exact .inl ⟨rfl, rfl, rfl⟩
  case round =>
    rcases hrel with ⟨rfl, rfl, rfl⟩ | ⟨rfl, ⟨go, co, rfl, hco⟩, hk⟩
    · have h2 := HM1.out.below ((Below.refl w1.heap.size w1).alloc (Nat.le_refl _) (.cells #[.int .i64 (f : Int), .int .i64 0, .int .i64 1] 121))
      go_upto_region 6 with (fail)
      obtain ⟨pb, hpb⟩ : ∃ pb, w1.heap.size = pb := ⟨_, rfl⟩
      obtain ⟨w2, hw2⟩ : ∃ w2, w1.alloc (.cells #[.int .i64 (f : Int), .int .i64 0, .int .i64 1] 121) = w2 := ⟨_, rfl⟩
      have hb2 : w2.heap[pb]? = some (.cells #[.int .i64 (f : Int), .int .i64 0, .int .i64 1] 121 (0, 0)) := by rw [← hw2, ← hpb]; exact heap_alloc_new w1 _
      have hs2 : w2.heap.size = pb + 1 := by rw [← hw2, ← hpb]; simp
      have q0 : w2.cell? ⟨pb, 0, none⟩ = some (.int .i64 (f : Int)) := by simp [World.cell?, hb2]
      have q1 : w2.cell? ⟨pb, 1, none⟩ = some (.int .i64 0) := by simp [World.cell?, hb2]
      have q2 : w2.cell? ⟨pb, 2, none⟩ = some (.int .i64 1) := by simp [World.cell?, hb2]
      have hk12 : Below w1.heap.size w1 w2 := by rw [← hw2]; exact (Below.refl _ _).alloc (Nat.le_refl _) _
      rw [hw2] at h2
      have m0 := h2.c0
      have m0l := h2.lt
      have HLD := Lib.hid (fun m => load_one (w := w2.drewN m) (h2.store.same rfl rfl) (f, x) hx hf)
      have HS2 := Lib.hid hs2
      have HPB := Lib.hid hpb
      have hpl : pb < w2.heap.size := by omega
      rw [hw2, hpb]
      clear hb2 hw2 hpb hs2 h2 p0 p1 p2 hb1 HM1
      go_region_held3 (fun u => u.cell? ⟨mb, 0, none⟩ = some (.pointer (some ⟨sb, 0, none⟩)) ∧ u.cell? ⟨pb, 0, none⟩ = some (.int .i64 (f : Int)) ∧ u.cell? ⟨pb, 1, none⟩ = some (.int .i64 0) ∧ u.cell? ⟨pb, 2, none⟩ = some (.int .i64 1))
        (first | (go_split_ands; refine ⟨?_, ?_, ?_, ?_⟩ <;> assumption) | go_keep)
        ((go_at_call 63; refine (HLD.out 1).mono ?_; rintro e w3 ⟨g3, c3, rfl, hg3, hl3, hx3, hb3⟩; have m3 := (World.cell?_of_block (a := ⟨mb, 0, none⟩) (hb3.block mb m0l)).trans m0; have r0 := (World.cell?_of_block (a := ⟨pb, 0, none⟩) (hb3.block pb hpl)).trans q0; have r1 := (World.cell?_of_block (a := ⟨pb, 1, none⟩) (hb3.block pb hpl)).trans q1; have r2 := (World.cell?_of_block (a := ⟨pb, 2, none⟩) (hb3.block pb hpl)).trans q2))
      go_wp2_with (first
        | (at_builtin; refine wpList_append_own _ rfl _ _ 71 rfl w3.heap.size 5 i0 (.int .u8 0) 1 1 Tryd.underlying71 hi hz0 hz1 hzb rfl (by decide) (.slice none 0 0) 0 [] rfl (World.ownsRow_nil _ _ _ _) ⟨g3, 0, none⟩ 1 c3 [.int .u8 (x : Int)] rfl rfl (by intro j v hj; cases j with | zero => cases hj; rw [Addr.add_mid]; exact hx3 | succ j => simp at hj) (by simp [Value.oneCell']) (by decide) (by decide) (Nat.le_refl _) ?_; intro v' w4 hown4 hg4 hnil4))
      obtain ⟨g4, c4, rfl, hq1, hq2, hq3⟩ := own_head hown4 (by omega)
      have hb4 : Below w1.heap.size w1 w4 := ((hk12.trans (drewN_below w2 1 _)).trans (hb3.mono hk12.size)).grown hg4 (Nat.le_trans hk12.size hb3.size) (fun k hk => by cases hk)
      go_roundw
      case rel => exact .inr ⟨by first | rfl | go_num, ⟨g4, c4, rfl, hq3 0 (by omega)⟩, hb4⟩
      case measure => first | decide | simp [nLeft]
    · go_wp2_with fail
      go_ret2
      exact ⟨go, co, rfl, hco, hb1.trans (hk.mono hb1.size)⟩
end
end Go.Proofs.YtikahcbkeempdaaDoor
