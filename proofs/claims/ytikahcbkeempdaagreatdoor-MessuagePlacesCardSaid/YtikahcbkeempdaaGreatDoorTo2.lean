/- topo: counts, table, matrix, Check walked. -/
import Derived.Test.YtikahcbkeempdaaGreatDoorTo1
import Derived.Shelf.Abstract
namespace Go.Proofs.YtikahcbkeempdaaGreatDoor
open Go.RowKit Go.Maps Go.Shelf

/-- The distance of two nodes of a row. -/
def distN (i j : Nat) : Nat := 10 + 5 * (if i < j then j - i else i - j)
theorem distN_sym (i j : Nat) : distN i j = distN j i := by unfold distN; split <;> split <;> omega
theorem distN_eq (i : Nat) : distN i i = 10 := by unfold distN; simp
theorem distN_ne {i j : Nat} (h : i ≠ j) (hi : i < 6) (hj : j < 6) : 10 < distN i j ∧ distN i j ≤ 35 := by unfold distN; split <;> omega
theorem distN_le {i j : Nat} (hi : i < 6) (hj : j < 6) : distN i j ≤ 35 := by unfold distN; split <;> omega

/-- The cells of a machine of n nodes in a row. -/
structure TopoAt (w : World) (n cb db : Nat) (rg rc : Nat → Nat) : Prop where
  cpu : ∀ i, i < n → w.cell? ⟨cb, i, none⟩ = some (.int .i64 (i : Int))
  dst : ∀ i, i < n → w.cell? ⟨db, i, none⟩ = some (.slice (some ⟨rg i, 0, none⟩) n (rc i))
  row : ∀ i, i < n → ∀ j, j < n → w.cell? ⟨rg i, j, none⟩ = some (.int .i64 (distN i j : Int))

section
variable {w w' : World} {n cb cc db dc : Nat} {rg rc : Nat → Nat}
theorem TopoAt.below (h : TopoAt w n cb db rg rc) (b : Below w.heap.size w w') : TopoAt w' n cb db rg rc :=
  ⟨fun i hi => (b.cell (p := ⟨cb, i, none⟩) (World.block_lt_of_cell? w _ (h.cpu i hi))).trans (h.cpu i hi), fun i hi => (b.cell (p := ⟨db, i, none⟩) (World.block_lt_of_cell? w _ (h.dst i hi))).trans (h.dst i hi),
    fun i hi j hj => (b.cell (p := ⟨rg i, j, none⟩) (World.block_lt_of_cell? w _ (h.row i hi j hj))).trans (h.row i hi j hj)⟩
theorem TopoAt.drewN (h : TopoAt w n cb db rg rc) (m : Nat) : TopoAt (w.drewN m) n cb db rg rc := h.below (drewN_below _ _ _)

set_option maxHeartbeats 1000000 in
theorem tcounts_any (h1 : 1 ≤ n) (hn : n ≤ 6) (w : World) : Calls Tryz.prog 32 #[.agg #[.int .i64 (n : Int), .int .i64 8, .slice (some ⟨cb, 0, none⟩) n cc, .slice (some ⟨db, 0, none⟩) n dc]] w fun e w' => e = .returned (.bool true) ∧ Below w.heap.size w w' := by
  have a1 : (1 : Int) ≤ (n : Int) := by omega
  have a2 : (n : Int) ≤ 8 := by omega
  have a3 : (n : Int) ≤ 16 := by omega
  have hb : bits BinOp.and IntKind.i64 8 7 = 0 := by decide +kernel
  have b1 : 1 ≤ n := h1
  have b2 : n ≤ 8 := by omega
  have b3 : n ≤ 16 := by omega
  go_enter Tryz.func32, Tryz.ntmps32
  go_wp2_with fail
  go_ret
  exact ⟨rfl, (Below.refl _ _).alloc (Nat.le_refl _) _⟩

theorem tclo (x B : Nat) (W : World) (hc : W.cell? ⟨B, 0, none⟩ = some (.int .i64 (n : Int))) :
    FnGives Tryz.prog 34 #[.pointer (some ⟨B, 0, none⟩)] #[.int .i64 (x : Int)] (.bool (decide (n ≤ x))) W := by
  show Calls Tryz.prog 34 #[.int .i64 (x : Int), .pointer (some ⟨B, 0, none⟩)] W _
  have c0 : ¬ (x : Int) < 0 := by omega
  by_cases h : n ≤ x
  · have h' : (n : Int) ≤ (x : Int) := by omega
    have hd : decide (n ≤ x) = true := decide_eq_true h
    rw [hd]
    clear hd
    go_enter Tryz.func34, Tryz.ntmps34
    go_wp2_with fail
    go_ret
    exact ⟨rfl, 0, rfl⟩
  · have h' : ¬ (n : Int) ≤ (x : Int) := by omega
    have hd : decide (n ≤ x) = false := decide_eq_false h
    rw [hd]
    clear hd
    go_enter Tryz.func34, Tryz.ntmps34
    go_wp2_with fail
    go_ret
    exact ⟨rfl, 0, rfl⟩

theorem tcpus_any (h : TopoAt w n cb db rg rc) (hn : n ≤ 6) (B : Nat) (hc : w.cell? ⟨B, 0, none⟩ = some (.int .i64 (n : Int))) :
    Calls Tryz.prog 33 #[.slice (some ⟨cb, 0, none⟩) n cc, .func (.func 34) #[] #[.pointer (some ⟨B, 0, none⟩)]] w fun e w' => e = .returned (.bool false) ∧ ∃ q, w' = w.drewN q := by
  have eg : ∀ args w, (callFunc 34 args).run Tryz.prog w = .ok (.enter 34 args) w := enters_of Tryz.func34 (by kernel_rfl) rfl
  have hl := World.block_lt_of_cell? w _ hc
  have hr := Tryz.slices_ContainsFunc (fun x : Nat => Value.int .i64 (x : Int)) (fun x => decide (n ≤ x)) 34 #[.pointer (some ⟨B, 0, none⟩)] eg cb 0 n cc (List.range n) w
    (fun W x hb => tclo x B W ((hb.cell (p := ⟨B, 0, none⟩) hl).trans hc)) (by simp) (by omega) (fun j hj => by
      have hj' : j < n := by simpa using hj
      rw [Nat.zero_add, h.cpu j hj']
      simp [hj'])
  have hf : (((List.range n).take n).any fun x => decide (n ≤ x)) = false := by
    rw [List.any_eq_false]
    intro x hx
    have := List.mem_range.1 (List.mem_of_mem_take hx)
    simp; omega
  rw [hf] at hr
  exact hr

def TabRel (w1 : World) (n gp : Nat) (vi : Value) (wr : World) : Prop :=
  ∃ (i : Nat) (f : Nat → Nat), vi = .int .i64 (i : Int) ∧ i ≤ n ∧ (∀ y, y < i * n → f y = distN (y / n) (y % n)) ∧ GridAt wr (gp + 1) gp n f ∧ Below gp w1 wr
def TabRel2 (w1 : World) (n gp a : Nat) (vi : Value) (wr : World) : Prop :=
  ∃ (i : Nat) (f : Nat → Nat), vi = .int .i64 (i : Int) ∧ i ≤ n ∧ (∀ y, y < a * n + i → f y = distN (y / n) (y % n)) ∧ GridAt wr (gp + 1) gp n f ∧ Below gp w1 wr
def TabPost (w : World) (n : Nat) (e : Ending) (w' : World) : Prop :=
  ∃ gp ab, e = .returned (.pointer (some ⟨gp, 0, none⟩)) ∧ GridAt w' gp ab n (fun y => distN (y / n) (y % n)) ∧ Below w.heap.size w w'

set_option maxRecDepth 100000 in
set_option maxHeartbeats 1000000 in
theorem ttable_any (h : TopoAt w n cb db rg rc) (h1 : 1 ≤ n) (hn : n ≤ 6) : Calls Tryz.prog 44 #[.agg #[.int .i64 (n : Int), .int .i64 8, .slice (some ⟨cb, 0, none⟩) n cc, .slice (some ⟨db, 0, none⟩) n dc]] w (TabPost w n) := by
  have H := Lib.hid h
  clear h
  go_enter Tryz.func44, Tryz.ntmps44
  go_wp2_with fail
  refine (gnew_any n hn _).mono ?_
  rintro e w1 ⟨rfl, hG, hb⟩
  obtain ⟨tb, htb⟩ : ∃ tb, w.heap.size = tb := ⟨_, rfl⟩
  obtain ⟨gp, hgp⟩ : ∃ gp, (w.alloc (.cells #[.int .i64 (n : Int), .int .i64 8, .slice (some ⟨cb, 0, none⟩) n cc, .slice (some ⟨db, 0, none⟩) n dc] 26)).heap.size = gp := ⟨_, rfl⟩
  have k0 := (hb.cell (p := ⟨w.heap.size, 0, none⟩) (by simp)).trans (show _ = some (Value.int .i64 (n : Int)) by simp)
  have k3 := (hb.cell (p := ⟨w.heap.size, 3, none⟩) (by simp)).trans (show _ = some (Value.slice (some ⟨db, 0, none⟩) n dc) by simp)
  have hb1 : Below w.heap.size w w1 := ((Below.refl _ _).alloc (Nat.le_refl _) _).trans (hb.mono (by simp))
  have htl : tb < w1.heap.size := by have := hb.size; simp at this; omega
  have hT1 := Lib.hid (H.out.below hb1)
  have hgt : tb < gp := by rw [← hgp, ← htb]; simp
  have hwB : w.heap.size ≤ gp := by omega
  rw [hgp] at hG ⊢
  rw [htb] at k0 k3 ⊢
  have HG := Lib.hid hG
  have HB1 := Lib.hid hb1
  clear hG hb hb1 htb hgp
  go_wp2_with fail
  go_loopw [30] (fun vi wr => TabRel w1 n gp vi wr) (fun vi _ => n - (intOf vi).toNat)
  case atStart => exact ⟨0, _, rfl, Nat.zero_le _, (fun y hy => absurd hy (by omega)), HG.out, Below.refl _ _⟩
  case round =>
    clear hT1
    obtain ⟨i, f, rfl, hi, hf, hg, hb⟩ := hrel
    have HF := Lib.hid hf
    have HGR := Lib.hid hg
    have hT := H.out.below (HB1.out.trans (hb.mono hwB))
    have HT := Lib.hid hT
    by_cases e : i < n
    · have ci : (i : Int) < (n : Int) := by omega
      have ci0 : (0 : Int) ≤ (i : Int) := by omega
      have hd := hT.dst i e
      have t0 := (hb.cell (p := ⟨tb, 0, none⟩) hgt).trans k0
      clear hf hg hT
      go_wp2_with fail
      go_loopw [42] (fun vi wr => TabRel2 w1 n gp i vi wr) (fun vi _ => n - (intOf vi).toNat)
      case atStart => exact ⟨0, f, rfl, Nat.zero_le _, HF.out, HGR.out, hb⟩
      case round =>
        clear hd t0 HF HGR HT hb
        obtain ⟨j, f, rfl, hj, hf, hg, hb⟩ := hrel
        have HF := Lib.hid hf
        have HGR := Lib.hid hg
        have hT := H.out.below (HB1.out.trans (hb.mono hwB))
        by_cases e2 : j < n
        · have cj : (j : Int) < (n : Int) := by omega
          have cj0 : (0 : Int) ≤ (j : Int) := by omega
          have hx := hT.row i e j e2
          have HP := Lib.hid (gput_any hg hn i j (distN i j) e e2)
          clear hf hg hT
          go_wp2_with fail
          refine HP.out.mono ?_
          rintro e w2 ⟨rfl, hw2⟩
          have hg2 : GridAt w2 (gp + 1) gp n (fun y => if y = i * n + j then distN i j else f y) := by rw [hw2]; exact HGR.out.set _ _
          have hb2 : Below gp w1 w2 := by rw [hw2]; exact hb.setCell (p := ⟨gp, i * n + j, none⟩) (Nat.le_refl _) _
          have HG2 := Lib.hid hg2
          clear hg2 hw2
          go_wp2_with fail
          go_roundw
          case rel =>
            refine ⟨j + 1, _, by go_num, by omega, fun y hy => ?_, HG2.out, hb2⟩
            show (if y = i * n + j then distN i j else f y) = _
            by_cases ey : y = i * n + j
            · rw [if_pos ey, ey, divAt e2, modAt e2]
            · rw [if_neg ey]
              exact HF.out y (by omega)
          case measure => simp [intOf]; omega
        · have cj : ¬ (j : Int) < (n : Int) := by omega
          obtain rfl : j = n := by omega
          clear hf hg hT
          go_wp2_with fail
          go_roundw
          case rel =>
            refine ⟨i + 1, f, by go_num, by omega, fun y hy => HF.out y (by rw [Nat.add_mul, Nat.one_mul] at hy; exact hy), HGR.out, hb⟩
          case measure => simp [intOf]; omega
    · have ci : ¬ (i : Int) < (n : Int) := by omega
      obtain rfl : i = n := by omega
      clear hf hg hT
      go_wp2_with fail
      go_ret
      exact ⟨gp + 1, gp, rfl, HGR.out.congr HF.out, HB1.out.trans (hb.mono hwB)⟩
end
end Go.Proofs.YtikahcbkeempdaaGreatDoor
