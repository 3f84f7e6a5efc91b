/- zone: the order of the nodes; cmp.Or, the order's closure walked. -/
import Derived.Test.YtikahcbkeempdaaGreatDoorTo3
namespace Go.Proofs.YtikahcbkeempdaaGreatDoor
open Go.RowKit Go.Maps Go.Shelf

def orI (a b : Int) : Int := if a = 0 then b else a
def OrRel (a b : Int) (vi : Value) : Prop := ∃ i : Nat, vi = .int .i64 (i : Int) ∧ i ≤ 2 ∧ (1 ≤ i → a = 0) ∧ (2 ≤ i → b = 0)
theorem two_cases {i : Nat} (h : i ≤ 2) : i = 0 ∨ i = 1 ∨ i = 2 := by omega

set_option maxHeartbeats 1000000 in
theorem cor_any (g cap : Nat) (a b : Int) (w : World) (ha : w.cell? ⟨g, 0, none⟩ = some (.int .i64 a)) (hb : w.cell? ⟨g, 1, none⟩ = some (.int .i64 b)) :
    Calls Tryz.prog 62 #[.slice (some ⟨g, 0, none⟩) 2 cap] w fun e w' => e = .returned (.int .i64 (orI a b)) ∧ w = w' := by
  go_enter Tryz.func62, Tryz.ntmps62
  go_wp2_with fail
  go_loop [8] (fun vi => OrRel a b vi) (fun vi => 2 - (intOf vi).toNat)
  case atStart => exact ⟨0, rfl, by omega, (fun h => absurd h (by omega)), (fun h => absurd h (by omega))⟩
  case round =>
    obtain ⟨i, rfl, hi, h1, h2⟩ := hrel
    rcases two_cases hi with rfl | rfl | rfl
    · clear h1 h2
      by_cases e : a = 0
      · have e1 : (a != 0) = false := by simpa using e
        have E := Lib.hid e
        clear e
        go_wp2_with fail
        go_round
        case rel => exact ⟨1, by go_num, by omega, (fun _ => E.out), (fun h => absurd h (by omega))⟩
        case measure => simp [intOf]
      · have e1 : (a != 0) = true := by rw [bne_iff_ne]; exact e
        have E := Lib.hid e
        go_wp2_with fail
        go_ret
        exact ⟨by unfold orI; rw [if_neg E.out]; rfl, rfl⟩
    · have h1 := Lib.hid (h1 (by omega))
      clear h2
      by_cases e : b = 0
      · have e1 : (b != 0) = false := by simpa using e
        have E := Lib.hid e
        clear e
        go_wp2_with fail
        go_round
        case rel => exact ⟨2, by go_num, by omega, (fun _ => h1.out), (fun _ => E.out)⟩
        case measure => simp [intOf]
      · have e1 : (b != 0) = true := by rw [bne_iff_ne]; exact e
        go_wp2_with fail
        go_ret
        exact ⟨by unfold orI; rfl, rfl⟩
    · have h1 := Lib.hid (h1 (by omega))
      have h2 := Lib.hid (h2 (by omega))
      go_wp2_with fail
      go_ret
      exact ⟨by unfold orI; rfl, rfl⟩

/-- What the order's closure says of two nodes, told from node k. -/
def cfN (k x y : Nat) : Int := orI (Lib.compareInt (distN k x : Int) (distN k y : Int)) (Lib.compareInt (x : Int) (y : Int))
theorem cfN_lt (k x y : Nat) : decide (cfN k x y < 0) = decide (distN k x < distN k y ∨ (distN k x = distN k y ∧ x < y)) := by
  unfold cfN orI Lib.compareInt
  generalize distN k x = a
  generalize distN k y = b
  by_cases h1 : a < b
  · have e1 : (a : Int) < (b : Int) := by omega
    simp [e1, h1]
  · have e1 : ¬ (a : Int) < (b : Int) := by omega
    by_cases h2 : b < a
    · have e2 : (b : Int) < (a : Int) := by omega
      have e3 : ¬ a = b := by omega
      simp [e1, e2, h1, e3]
    · have e2 : ¬ (b : Int) < (a : Int) := by omega
      have e3 : a = b := by omega
      by_cases h3 : x < y
      · have e4 : (x : Int) < (y : Int) := by omega
        simp [e3, h3, e4]
      · have e4 : ¬ (x : Int) < (y : Int) := by omega
        by_cases h5 : y < x
        · have e5 : (y : Int) < (x : Int) := by omega
          simp [e3, h3, e4, e5]
        · have e5 : ¬ (y : Int) < (x : Int) := by omega
          simp [e3, h3, e4, e5]

def encF {m : Nat} (x : Fin (m + 1)) : Value := .int .i64 (x.val : Int)
theorem encF_one {m : Nat} : OneCell (encF (m := m)) := fun _ => rfl
def cfF (m k : Nat) (x y : Fin (m + 1)) : Int := cfN k x.val y.val
theorem ltF (m k : Nat) (x y : Fin (m + 1)) : ltOf (cfF m k) x y = decide (distN k x.val < distN k y.val ∨ (distN k x.val = distN k y.val ∧ x.val < y.val)) := cfN_lt k x.val y.val
theorem swoF (m k : Nat) : Go.Sort.SWO (ltOf (cfF m k)) where
  irrefl x := by rw [ltF]; simp
  trans x y z h1 h2 := by rw [ltF] at *; simp only [decide_eq_true_eq] at *; omega
  ntrans x y z h1 h2 := by rw [ltF] at *; simp only [decide_eq_false_iff_not] at *; omega
theorem totF (m k : Nat) (x y : Fin (m + 1)) (h1 : ltOf (cfF m k) x y = false) (h2 : ltOf (cfF m k) y x = false) : x = y := by
  rw [ltF] at *
  simp only [decide_eq_false_iff_not] at *
  apply Fin.ext
  omega
/-- The nodes, the nearest one to k first. -/
def ordF (m k : Nat) : List (Fin (m + 1)) := (List.finRange (m + 1)).mergeSort fun x y => !(ltOf (cfF m k)) y x

theorem alloc_drew_grow (W : World) (o : Obj) : (W.alloc o).drew = Go.Sort.grow (W.drewN 1) #[o] := by
  rw [Go.Sort.alloc_eq_grow]; rfl

section
variable {w w' : World} {n cb cc db dc : Nat} {rg rc : Nat → Nat}
set_option maxRecDepth 100000 in
set_option maxHeartbeats 2000000 in
theorem oclo (W : World) (k B g gc x y : Nat) (hx : x < n) (hy : y < n) (hB : W.cell? ⟨B, 0, none⟩ = some (.slice (some ⟨g, 0, none⟩) n gc)) (h1 : W.cell? ⟨g, x, none⟩ = some (.int .i64 (distN k x : Int))) (h2 : W.cell? ⟨g, y, none⟩ = some (.int .i64 (distN k y : Int))) :
    Calls Tryz.prog 61 #[.int .i64 (x : Int), .int .i64 (y : Int), .pointer (some ⟨B, 0, none⟩)] W fun e w' => e = .returned (.int .i64 (cfN k x y)) ∧ ∃ q os', w' = Go.Sort.grow (W.drewN q) os' := by
  have x0 : (0 : Int) ≤ (x : Int) := by omega
  have y0 : (0 : Int) ≤ (y : Int) := by omega
  have x1 : (x : Int) < (n : Int) := by omega
  have y1 : (y : Int) < (n : Int) := by omega
  unfold cfN
  obtain ⟨a, ha⟩ : ∃ a, distN k x = a := ⟨_, rfl⟩
  obtain ⟨b, hb⟩ : ∃ b, distN k y = b := ⟨_, rfl⟩
  rw [ha] at h1
  rw [hb] at h2
  rw [ha, hb]
  clear ha hb
  have n0 := World.new_ne W _ hB
  have n1 := World.new_ne W _ h1
  have n2 := World.new_ne W _ h2
  go_enter Tryz.func61, Tryz.ntmps61
  go_wp2_with fail
  go_region_held3 (fun u => u.cell? ⟨B, 0, none⟩ = some (.slice (some ⟨g, 0, none⟩) n gc) ∧ u.cell? ⟨g, x, none⟩ = some (.int .i64 (a : Int)) ∧ u.cell? ⟨g, y, none⟩ = some (.int .i64 (b : Int))) (first | (go_split_ands; refine ⟨?_, ?_, ?_⟩ <;> assumption) | go_keep)
    (first
      | (go_at_call 63; refine (Tryz.cmp_Compare_int _ _ _).mono ?_; rintro e u1 ⟨rfl, hu1⟩; subst hu1)
      | (go_at_call 62; refine (cor_any _ _ (Lib.compareInt (a : Int) (b : Int)) (Lib.compareInt (x : Int) (y : Int)) _ (by first | simp | simp [World.cell?]) (by first | simp | simp [World.cell?])).mono ?_; rintro e u3 ⟨rfl, hu3⟩; subst hu3))
  go_wp2_with fail
  go_ret
  exact ⟨rfl, 1, _, alloc_drew_grow _ _⟩
end
end Go.Proofs.YtikahcbkeempdaaGreatDoor
