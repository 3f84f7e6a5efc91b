/- topo: matrix, Check walked. -/
import Derived.Test.YtikahcbkeempdaaGreatDoorTo2
namespace Go.Proofs.YtikahcbkeempdaaGreatDoor
open Go.RowKit Go.Maps Go.Shelf

def MatRel (n : Nat) (vi : Value) : Prop := ∃ i : Nat, vi = .int .i64 (i : Int) ∧ i ≤ n

section
variable {w w' : World} {n cb cc db dc : Nat} {rg rc : Nat → Nat}
set_option maxRecDepth 100000 in
set_option maxHeartbeats 2000000 in
theorem tmatrix_any (h : TopoAt w n cb db rg rc) (h1 : 1 ≤ n) (hn : n ≤ 6) : Calls Tryz.prog 35 #[.agg #[.int .i64 (n : Int), .int .i64 8, .slice (some ⟨cb, 0, none⟩) n cc, .slice (some ⟨db, 0, none⟩) n dc]] w fun e w' => e = .returned (.bool true) ∧ Below w.heap.size w w' := by
  have hb0 : Below w.heap.size w (w.alloc (.cells #[.int .i64 (n : Int), .int .i64 8, .slice (some ⟨cb, 0, none⟩) n cc, .slice (some ⟨db, 0, none⟩) n dc] 26)) := (Below.refl _ _).alloc (Nat.le_refl _) _
  have HT := Lib.hid (ttable_any (cc := cc) (dc := dc) (h.below hb0) h1 hn)
  have H := Lib.hid h
  have HB0 := Lib.hid hb0
  clear h hb0
  go_enter Tryz.func35, Tryz.ntmps35
  go_wp2_with fail
  refine HT.out.mono ?_
  rintro e w1 ⟨gp, ab, rfl, hG, hb⟩
  have hb1 := HB0.out.trans (hb.mono (by simp))
  have k3 := (hb.cell (p := ⟨w.heap.size, 3, none⟩) (by simp)).trans (show _ = some (Value.slice (some ⟨db, 0, none⟩) n dc) by simp)
  have hl1 : w.heap.size < w1.heap.size := by have := hb.size; simp at this; omega
  obtain ⟨tb, htb⟩ : ∃ tb, w.heap.size = tb := ⟨_, rfl⟩
  have HTU := Lib.hid (gturned_any hG h1 hn)
  have HG := Lib.hid hG
  have HB1 := Lib.hid hb1
  rw [htb] at k3 hl1 ⊢
  clear hG hb hb1 htb HT
  go_wp2_with fail
  refine HTU.out.mono ?_
  rintro e w2 ⟨rfl, hb2, f', hG2, ht⟩
  have hG1 := HG.out.below hb2
  have hsame := gsame_any hG1 hG2 hn (fun y hy => by
    show distN (y / n) (y % n) = f' y
    have d1 : y / n < n := Nat.div_lt_of_lt_mul hy
    have m1 : y % n < n := Nat.mod_lt _ (by omega)
    have hlt : y % n * n + y / n < n * n := by
      have : (y % n + 1) * n ≤ n * n := Nat.mul_le_mul_right _ (by omega)
      rw [Nat.add_mul, Nat.one_mul] at this
      omega
    have := ht (y % n * n + y / n) hlt
    rw [divAt d1, modAt d1] at this
    have hy2 : y / n * n + y % n = y := by rw [Nat.mul_comm]; exact Nat.div_add_mod y n
    rw [hy2] at this
    rw [this]
    show distN (y / n) (y % n) = distN ((y % n * n + y / n) / n) ((y % n * n + y / n) % n)
    rw [divAt d1, modAt d1]
    exact distN_sym _ _)
  have HS := Lib.hid hsame
  have k32 := (hb2.cell (p := ⟨tb, 3, none⟩) hl1).trans k3
  have HB2 := Lib.hid (HB1.out.trans (hb2.mono HB1.out.size))
  clear hsame hG1 hG2 ht hb2 k3
  go_wp2_with fail
  refine HS.out.mono ?_
  rintro e w3 ⟨rfl, q, hw3⟩
  have hb3 : Below w.heap.size w w3 := by rw [hw3]; exact HB2.out.trans (drewN_below _ _ _)
  have k33 : w3.cell? ⟨tb, 3, none⟩ = some (.slice (some ⟨db, 0, none⟩) n dc) := by rw [hw3]; exact k32
  have hT3 := H.out.below hb3
  have HB3 := Lib.hid hb3
  have HT3 := Lib.hid hT3
  clear hw3 hb3 hT3 k32
  go_wp2_with fail
  go_loop [22] (fun vi => MatRel n vi) (fun vi => n - (intOf vi).toNat)
  case atStart => exact ⟨0, rfl, Nat.zero_le _⟩
  case round =>
    obtain ⟨i, rfl, hi⟩ := hrel
    by_cases e : i < n
    · have ci : (i : Int) < (n : Int) := by omega
      have ci0 : (0 : Int) ≤ (i : Int) := by omega
      have hd := HT3.out.dst i e
      go_wp2_with fail
      go_loop [29] (fun vi => MatRel n vi) (fun vi => n - (intOf vi).toNat)
      case atStart => exact ⟨0, rfl, Nat.zero_le _⟩
      case round =>
        clear hd
        obtain ⟨j, rfl, hj⟩ := hrel
        by_cases e2 : j < n
        · have cj : (j : Int) < (n : Int) := by omega
          have cj0 : (0 : Int) ≤ (j : Int) := by omega
          have hx := HT3.out.row i e j e2
          by_cases eq : i = j
          · subst eq
            rw [distN_eq] at hx
            go_wp2_with fail
            go_round
            case rel => exact ⟨i + 1, by go_num, by omega⟩
            case measure => simp [intOf]; omega
          · have hd2 := distN_ne eq (by omega) (by omega)
            obtain ⟨d, hd⟩ : ∃ d, distN i j = d := ⟨_, rfl⟩
            rw [hd] at hx hd2
            have q1 : ((i : Int) == (j : Int)) = false := by rw [beq_eq_false_iff_ne]; omega
            have q1' : ¬ (i : Int) = (j : Int) := by omega
            have q2 : ((i : Int) != (j : Int)) = true := by rw [bne_iff_ne]; omega
            have q3 : ¬ (d : Int) ≤ 10 := by omega
            have q4 : ¬ (255 : Int) < (d : Int) := by omega
            clear hd
            go_wp2_with fail
            go_round
            case rel => exact ⟨j + 1, by go_num, by omega⟩
            case measure => simp [intOf]; omega
        · have cj : ¬ (j : Int) < (n : Int) := by omega
          obtain rfl : j = n := by omega
          go_wp2_with fail
          go_round
          case rel => exact ⟨i + 1, by go_num, by omega⟩
          case measure => simp [intOf]; omega
    · have ci : ¬ (i : Int) < (n : Int) := by omega
      obtain rfl : i = n := by omega
      go_wp2_with fail
      go_ret
      exact ⟨rfl, HB3.out⟩

set_option maxRecDepth 100000 in
set_option maxHeartbeats 1000000 in
theorem tcheck_any (h : TopoAt w n cb db rg rc) (h1 : 1 ≤ n) (hn : n ≤ 6) : Calls Tryz.prog 20 #[.agg #[.int .i64 (n : Int), .int .i64 8, .slice (some ⟨cb, 0, none⟩) n cc, .slice (some ⟨db, 0, none⟩) n dc]] w fun e w' => e = .returned (.int .i64 0) ∧ Below w.heap.size w w' := by
  have hb0 : Below w.heap.size w (w.alloc (.cells #[.int .i64 (n : Int), .int .i64 8, .slice (some ⟨cb, 0, none⟩) n cc, .slice (some ⟨db, 0, none⟩) n dc] 26)) := (Below.refl _ _).alloc (Nat.le_refl _) _
  have H := Lib.hid h
  have HB0 := Lib.hid hb0
  clear h hb0
  go_enter Tryz.func20, Tryz.ntmps20
  go_wp2_with fail
  refine (tcounts_any h1 hn _).mono ?_
  rintro e w1 ⟨rfl, hb⟩
  have hb1 := HB0.out.trans (hb.mono (by simp))
  have k0 := (hb.cell (p := ⟨w.heap.size, 0, none⟩) (by simp)).trans (show _ = some (Value.int .i64 (n : Int)) by simp)
  have k1 := (hb.cell (p := ⟨w.heap.size, 1, none⟩) (by simp)).trans (show _ = some (Value.int .i64 8) by simp)
  have k2 := (hb.cell (p := ⟨w.heap.size, 2, none⟩) (by simp)).trans (show _ = some (Value.slice (some ⟨cb, 0, none⟩) n cc) by simp)
  have k3 := (hb.cell (p := ⟨w.heap.size, 3, none⟩) (by simp)).trans (show _ = some (Value.slice (some ⟨db, 0, none⟩) n dc) by simp)
  obtain ⟨tb, htb⟩ : ∃ tb, w.heap.size = tb := ⟨_, rfl⟩
  rw [htb] at k0 k1 k2 k3 ⊢
  have HC := Lib.hid (tcpus_any (cc := cc) (H.out.below hb1) hn tb k0)
  have HB1 := Lib.hid hb1
  clear hb hb1 htb
  go_wp2_with fail
  refine HC.out.mono ?_
  rintro e w2 ⟨rfl, q, hw2⟩
  have HB2 := Lib.hid (show Below w.heap.size w w2 by rw [hw2]; exact HB1.out.trans (drewN_below _ _ _))
  have j0 : w2.cell? ⟨tb, 0, none⟩ = some (.int .i64 (n : Int)) := by rw [hw2]; exact k0
  have j1 : w2.cell? ⟨tb, 1, none⟩ = some (.int .i64 8) := by rw [hw2]; exact k1
  have j2 : w2.cell? ⟨tb, 2, none⟩ = some (.slice (some ⟨cb, 0, none⟩) n cc) := by rw [hw2]; exact k2
  have j3 : w2.cell? ⟨tb, 3, none⟩ = some (.slice (some ⟨db, 0, none⟩) n dc) := by rw [hw2]; exact k3
  have HM := Lib.hid (tmatrix_any (cc := cc) (dc := dc) (H.out.below HB2.out) h1 hn)
  clear hw2 k0 k1 k2 k3
  go_wp2_with fail
  refine HM.out.mono ?_
  rintro e w3 ⟨rfl, hb3⟩
  have HB3 := Lib.hid (HB2.out.trans (hb3.mono HB2.out.size))
  clear hb3
  go_wp2_with fail
  go_ret
  exact ⟨rfl, HB3.out⟩
end
end Go.Proofs.YtikahcbkeempdaaGreatDoor
