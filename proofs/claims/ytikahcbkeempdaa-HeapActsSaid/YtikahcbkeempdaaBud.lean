/- A buddy in memory: its block and its maps; the small functions walked. -/
import Derived.Test.YtikahcbkeempdaaMaps
import Derived.Lib.Hide
namespace Go.Proofs.Ytikahcbkeempdaa
open Go.RowKit Go.Maps

def budCells (b n : Nat) : Array Value := #[.int .i64 (n : Int), .map (some (b + 2)), .map (some (b + 3)), .map (some (b + 4)), .map (some (b + 5)), .map (some (b + 6)), .map (some (b + 7)), .map (some (b + 8)), .map (some (b + 9)), .map (some (b + 10)), .map (some (b + 11)), .map (some (b + 12)), .map (some b)]

/-- Blocks b .. b + 12 are a buddy of n frames: its free runs F, its taken runs T. The struct is block b + 1. -/
structure Bud (w : World) (b n : Nat) (F : Nat → List Nat) (T : List (Nat × Nat)) : Prop where
  blk : w.heap[b + 1]? = some (.cells (budCells b n) 108 (0, 0))
  sets : ∀ k, k ≤ 10 → SetMap w (b + 2 + k) (F k)
  tak : TakMap w b T

theorem Bud.c0 {w : World} {b n : Nat} {F T} (h : Bud w b n F T) : w.cell? ⟨b + 1, 0, none⟩ = some (.int .i64 (n : Int)) := by
  simp [World.cell?, h.blk, budCells]
theorem Bud.cf {w : World} {b n : Nat} {F T} (h : Bud w b n F T) {k : Nat} (hk : k ≤ 10) : w.cell? ⟨b + 1, 1 + k, none⟩ = some (.map (some (b + 2 + k))) := by
  have : k = 0 ∨ k = 1 ∨ k = 2 ∨ k = 3 ∨ k = 4 ∨ k = 5 ∨ k = 6 ∨ k = 7 ∨ k = 8 ∨ k = 9 ∨ k = 10 := by omega
  rcases this with rfl | rfl | rfl | rfl | rfl | rfl | rfl | rfl | rfl | rfl | rfl <;> simp [World.cell?, h.blk, budCells]
theorem Bud.ct {w : World} {b n : Nat} {F T} (h : Bud w b n F T) : w.cell? ⟨b + 1, 12, none⟩ = some (.map (some b)) := by
  simp [World.cell?, h.blk, budCells]
theorem Bud.lt {w : World} {b n : Nat} {F T} (h : Bud w b n F T) : b + 12 < w.heap.size := (h.sets 10 (by omega)).lt
theorem Bud.same {w w' : World} {b n : Nat} {F T} (h : Bud w b n F T) (e : ∀ i, b ≤ i → i < b + 13 → w'.heap[i]? = w.heap[i]?) : Bud w' b n F T :=
  ⟨(e _ (by omega) (by omega)).trans h.blk, fun k hk => (h.sets k hk).same (e _ (by omega) (by omega)), h.tak.same (e _ (by omega) (by omega))⟩
theorem Bud.kept {w w' : World} {b n lo hi : Nat} {F T} (h : Bud w b n F T) (k : Kept lo hi w w') (hd : b + 13 ≤ lo ∨ hi ≤ b) : Bud w' b n F T :=
  h.same fun i h1 h2 => k.block i (by have := h.lt; omega) (by omega)

theorem Bud.drew {w : World} {b n : Nat} {F T} (h : Bud w b n F T) : Bud w.drew b n F T := h.same fun _ _ _ => rfl

theorem Bud.drewN {w : World} {b n : Nat} {F T} (h : Bud w b n F T) (m : Nat) : Bud (w.drewN m) b n F T := h.same fun _ _ _ => rfl

/-! ### right -/
set_option maxHeartbeats 400000 in
theorem right_yes (a : Addr) (o : Int) (w : World) (h0 : 0 ≤ o) (h1 : o ≤ 10) :
    Calls Try.prog 68 #[.pointer (some a), .int .i64 o] w fun e w' => e = .returned (.bool true) ∧ w = w' := by
  go_enter Try.func68, Try.ntmps68
  go_wp2
  go_ret
  exact ⟨by simp; omega, rfl⟩

set_option maxHeartbeats 400000 in
theorem right_no (a : Addr) (o : Int) (w : World) (h : o < 0 ∨ 10 < o) :
    Calls Try.prog 68 #[.pointer (some a), .int .i64 o] w fun e w' => e = .returned (.bool false) ∧ w = w' := by
  rcases h with h | h
  all_goals
    go_enter Try.func68, Try.ntmps68
    go_wp2
    go_ret
    exact ⟨by simp <;> omega, rfl⟩

set_option maxHeartbeats 400000 in
theorem right_nil (o : Int) (w : World) :
    Calls Try.prog 68 #[.pointer none, .int .i64 o] w fun e w' => e = .returned (.bool false) ∧ w = w' := by
  go_enter Try.func68, Try.ntmps68
  go_wp2
  go_ret
  exact ⟨rfl, rfl⟩

/-! ### above -/
set_option maxHeartbeats 400000 in
theorem above_some {w : World} {b n : Nat} {F T} (hB : Bud w b n F T) (o k0 : Nat) (ho : o ≤ k0) (hk0 : k0 ≤ 10) (hne : 0 < (F k0).length) (hnone : ∀ j, o ≤ j → j < k0 → (F j).length ≤ 0) :
    Calls Try.prog 69 #[.pointer (some ⟨b + 1, 0, none⟩), .int .i64 (o : Int)] w fun e w' => e = .returned (.tuple #[.int .i64 (k0 : Int), .bool true]) ∧ w = w' := by
  go_enter Try.func69, Try.ntmps69
  go_wp2
  go_loop [6] (fun i => ∃ k : Nat, o ≤ k ∧ k ≤ k0 ∧ i = .int .i64 k) (fun i => 11 - (intOf i).toNat)
  case atStart => exact ⟨o, Nat.le_refl _, ho, rfl⟩
  case round =>
    obtain ⟨k, h1, h2, rfl⟩ := hrel
    have hcell := hB.cf (k := k) (by omega)
    have hlen := fun ty => (hB.sets k (by omega)).len ty
    by_cases e : k = k0
    · subst e
      have hpos : ((0 : Int) < ((F k).length : Int)) := by omega
      go_wp2
      go_ret2
      exact ⟨rfl, rfl⟩
    · have hz := hnone k h1 (by omega)
      go_wp2
      go_round
      case rel => exact ⟨k + 1, by omega, by omega, by go_num⟩
      case measure => simp [intOf]; omega

set_option maxHeartbeats 400000 in
theorem above_none {w : World} {b n : Nat} {F T} (hB : Bud w b n F T) (o : Nat) (ho : o ≤ 10) (hnone : ∀ j, o ≤ j → j ≤ 10 → (F j).length ≤ 0) :
    Calls Try.prog 69 #[.pointer (some ⟨b + 1, 0, none⟩), .int .i64 (o : Int)] w fun e w' => e = .returned (.tuple #[.int .i64 0, .bool false]) ∧ w = w' := by
  go_enter Try.func69, Try.ntmps69
  go_wp2
  go_loop [6] (fun i => ∃ k : Nat, o ≤ k ∧ k ≤ 11 ∧ i = .int .i64 k) (fun i => 11 - (intOf i).toNat)
  case atStart => exact ⟨o, Nat.le_refl _, by omega, rfl⟩
  case round =>
    obtain ⟨k, h1, h2, rfl⟩ := hrel
    by_cases e : k = 11
    · subst e
      go_wp2
      go_ret2
      exact ⟨rfl, rfl⟩
    · have hcell := hB.cf (k := k) (by omega)
      have hlen := fun ty => (hB.sets k (by omega)).len ty
      have hz := hnone k h1 (by omega)
      go_wp2
      go_round
      case rel => exact ⟨k + 1, by omega, by omega, by go_num⟩
      case measure => simp [intOf]; omega

/-! ### Has, Len -/
set_option maxHeartbeats 400000 in
theorem has_some {w : World} {b n : Nat} {F T} (hB : Bud w b n F T) (o k0 : Nat) (ho : o ≤ k0) (hk0 : k0 ≤ 10) (hne : 0 < (F k0).length) (hnone : ∀ j, o ≤ j → j < k0 → (F j).length ≤ 0) :
    Calls Try.prog 32 #[.pointer (some ⟨b + 1, 0, none⟩), .int .i64 (o : Int)] w fun e w' => e = .returned (.bool true) ∧ w = w' := by
  go_enter Try.func32, Try.ntmps32
  go_wp2_with (first | (go_at_call 68; refine (right_yes _ _ _ (by omega) (by omega)).mono ?_; rintro e w' ⟨rfl, rfl⟩) | (go_at_call 69; refine (above_some hB o k0 ho hk0 hne hnone).mono ?_; rintro e w' ⟨rfl, rfl⟩))
  go_ret
  exact ⟨rfl, rfl⟩

set_option maxHeartbeats 400000 in
theorem has_none {w : World} {b n : Nat} {F T} (hB : Bud w b n F T) (o : Nat) (ho : o ≤ 10) (hnone : ∀ j, o ≤ j → j ≤ 10 → (F j).length ≤ 0) :
    Calls Try.prog 32 #[.pointer (some ⟨b + 1, 0, none⟩), .int .i64 (o : Int)] w fun e w' => e = .returned (.bool false) ∧ w = w' := by
  go_enter Try.func32, Try.ntmps32
  go_wp2_with (first | (go_at_call 68; refine (right_yes _ _ _ (by omega) (by omega)).mono ?_; rintro e w' ⟨rfl, rfl⟩) | (go_at_call 69; refine (above_none hB o ho hnone).mono ?_; rintro e w' ⟨rfl, rfl⟩))
  go_ret
  exact ⟨rfl, rfl⟩

set_option maxHeartbeats 400000 in
theorem has_no (a : Addr) (o : Int) (w : World) (h : o < 0 ∨ 10 < o) :
    Calls Try.prog 32 #[.pointer (some a), .int .i64 o] w fun e w' => e = .returned (.bool false) ∧ w = w' := by
  have H := Lib.hid h
  clear h
  go_enter Try.func32, Try.ntmps32
  go_wp2_with (go_at_call 68; refine (right_no _ _ _ H.out).mono ?_; rintro e w' ⟨rfl, rfl⟩)
  go_ret
  exact ⟨rfl, rfl⟩

set_option maxHeartbeats 400000 in
theorem has_nil (o : Int) (w : World) :
    Calls Try.prog 32 #[.pointer none, .int .i64 o] w fun e w' => e = .returned (.bool false) ∧ w = w' := by
  go_enter Try.func32, Try.ntmps32
  go_wp2_with (go_at_call 68; refine (right_nil _ _).mono ?_; rintro e w' ⟨rfl, rfl⟩)
  go_ret
  exact ⟨rfl, rfl⟩

set_option maxHeartbeats 400000 in
theorem len_any {w : World} {b n : Nat} {F T} (hB : Bud w b n F T) :
    Calls Try.prog 36 #[.pointer (some ⟨b + 1, 0, none⟩)] w fun e w' => e = .returned (.int .i64 (n : Int)) ∧ w = w' := by
  have hc := hB.c0
  go_enter Try.func36, Try.ntmps36
  go_wp2
  go_ret
  exact ⟨rfl, rfl⟩

set_option maxHeartbeats 400000 in
theorem len_nil (w : World) :
    Calls Try.prog 36 #[.pointer none] w fun e w' => e = .returned (.int .i64 0) ∧ w = w' := by
  go_enter Try.func36, Try.ntmps36
  go_wp2
  go_ret
  exact ⟨rfl, rfl⟩

end Go.Proofs.Ytikahcbkeempdaa
