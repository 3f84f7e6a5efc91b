/- frag: right, Fits, Index, Largest walked. -/
import Derived.Test.YtikahcbkeempdaaDoorFrag0
namespace Go.Proofs.YtikahcbkeempdaaDoor
open Go.RowKit Go.Maps

theorem RunsLike.below {w w' : World} {pv : Value} {L : Nat → Nat} (h : RunsLike w pv L) (b : Below w.heap.size w w') : RunsLike w' pv L := fun x hx k hk => h x (b.trans (hx.mono b.size)) k hk

def fitF (L : Nat → Nat) (o : Nat) : Nat → Nat
  | 0 => 0
  | d + 1 => fitF L o d + L (o + d) * 2 ^ d
theorem fitF_mono (L : Nat → Nat) (o : Nat) {i j : Nat} (h : i ≤ j) : fitF L o i ≤ fitF L o j := by
  induction j with
  | zero => have : i = 0 := by omega
            subst this; exact Nat.le_refl _
  | succ j ih =>
    by_cases e : i = j + 1
    · subst e; exact Nat.le_refl _
    · have := ih (by omega)
      simp only [fitF]
      omega

set_option maxHeartbeats 400000 in
theorem fright_yes (o : Nat) (ho : o ≤ 10) (w : World) : Calls Tryd.prog 53 #[.int .i64 (o : Int)] w fun e w' => e = .returned (.bool true) ∧ w = w' := by
  have h1 : (0 : Int) ≤ (o : Int) := by omega
  have h2 : (o : Int) < 11 := by omega
  go_enter Tryd.func53, Tryd.ntmps53
  go_wp2
  go_ret
  exact ⟨rfl, rfl⟩
set_option maxHeartbeats 400000 in
theorem fright_no (o : Int) (ho : o < 0 ∨ 10 < o) (w : World) : Calls Tryd.prog 53 #[.int .i64 o] w fun e w' => e = .returned (.bool false) ∧ w = w' := by
  rcases ho with h | h
  · have h1 : ¬ (0 : Int) ≤ o := by omega
    go_enter Tryd.func53, Tryd.ntmps53
    go_wp2
    go_ret
    exact ⟨rfl, rfl⟩
  · have h1 : (0 : Int) ≤ o := by omega
    have h2 : ¬ o < 11 := by omega
    go_enter Tryd.func53, Tryd.ntmps53
    go_wp2
    go_ret
    exact ⟨rfl, rfl⟩

set_option maxHeartbeats 400000 in
theorem fits_no (pv : Value) (o : Int) (ho : o < 0 ∨ 10 < o) (w : World) : Calls Tryd.prog 28 #[pv, .int .i64 o] w fun e w' => e = .returned (.int .i64 0) ∧ w = w' := by
  go_enter Tryd.func28, Tryd.ntmps28
  go_wp2_with fail
  refine (fright_no o ho _).mono ?_
  rintro e w1 ⟨rfl, rfl⟩
  go_wp2_with fail
  go_ret
  exact ⟨rfl, rfl⟩

/-- What a local array holds that Orders was stored in. -/
theorem ord_cells {w : World} {L : Nat → Nat} {b : Nat} (h : w.rangeAt b 0 (ordL L)) {k : Nat} (hk : k < 11) : w.cell? ⟨b, k, none⟩ = some (.int .i64 (L k : Int)) := by
  have := h k (.int .i64 (L k : Int)) (by simp [ordL, hk])
  simpa using this

def ordZ : Array Value := #[.int .i64 0, .int .i64 0, .int .i64 0, .int .i64 0, .int .i64 0, .int .i64 0, .int .i64 0, .int .i64 0, .int .i64 0, .int .i64 0, .int .i64 0]
theorem ord_there (w : World) (L : Nat → Nat) : (w.alloc (.cells ordZ 100)).there w.heap.size 0 (ordL L).toArray.size := by
  have h := heap_alloc_new w (.cells ordZ 100)
  generalize w.alloc (.cells ordZ 100) = w' at *
  intro j hj
  have hj' : j < ordZ.size := by simpa [ordL, ordZ] using hj
  exact ⟨by simp [World.cell?, h, hj'], by simp [World.frozen?, h]⟩
theorem ord_laid (w : World) (L : Nat → Nat) : ((w.alloc (.cells ordZ 100)).setCells w.heap.size 0 (ordL L)).rangeAt w.heap.size 0 (ordL L) :=
  World.rangeAt_setCells_same _ _ _ _ (ord_there w L)
theorem ord_below (w : World) (L : Nat → Nat) : Below w.heap.size w ((w.alloc (.cells ordZ 100)).setCells w.heap.size 0 (ordL L)) :=
  ((Below.refl _ _).alloc (Nat.le_refl _) _).trans (below_setCells _ _ _ (Nat.le_refl _))
theorem info_ordL (L : Nat → Nat) : (Tryd.prog.info? 100).map (·.size) = some (ordL L).toArray.size := by
  have : (ordL L).toArray.size = 11 := by simp [ordL]
  rw [this]; exact info_ord

set_option maxRecDepth 100000 in
set_option maxHeartbeats 1000000 in
theorem fits_any {w : World} {pv : Value} {L : Nat → Nat} (h : RunsLike w pv L) (hL : ∀ k, L k ≤ 1024) (o : Nat) (ho : o ≤ 10) (hs : fitF L o (11 - o) ≤ 1024) :
    Calls Tryd.prog 28 #[pv, .int .i64 (o : Int)] w fun e w' => e = .returned (.int .i64 (fitF L o (11 - o) : Int)) ∧ Below w.heap.size w w' := by
  have H := Lib.hid (orders_any h hL)
  have HS := Lib.hid hs
  have o0 : (0 : Int) ≤ (o : Int) := by omega
  have o1 : (o : Int) ≤ 11 := by omega
  clear h
  go_enter Tryd.func28, Tryd.ntmps28
  go_wp2_with fail
  refine (fright_yes o ho _).mono ?_
  rintro e w1 ⟨rfl, rfl⟩
  go_wp2_with fail
  refine H.out.mono ?_
  rintro e w2 ⟨rfl, hb2⟩
  go_wp2_with (first
    | (refine wpList_store_mid rfl 100 _ _ rfl w2.heap.size 0 (ordL L).toArray rfl rfl (ord_there w2 L) (info_ordL L) (all_oneCell_toArray (ordL_one L)) ?_; refine Hid.out ?_))
  refine Lib.hid ?_
  have hrg := ord_laid w2 L
  have hbl := ord_below w2 L
  unfold ordZ at hrg hbl
  generalize hg : w2.heap.size = g at *
  generalize hw3 : (w2.alloc _).setCells g 0 (ordL L) = w3 at *
  clear hw3
  have hb3 : Below w.heap.size w w3 := hb2.trans (hbl.mono (by rw [← hg]; exact hb2.size))
  have HR := Lib.hid hrg
  clear hrg hbl hb2 hg
  obtain ⟨D, hD⟩ : ∃ D, 11 - o = D := ⟨_, rfl⟩
  have hD2 : (11 : Int) - (o : Int) = (D : Int) := by omega
  go_wp2_with fail
  go_loop [17, 5] (fun vi vs => ∃ k : Nat, vi = .int .i64 (k : Int) ∧ k ≤ D ∧ vs = .int .i64 (fitF L o k : Int)) (fun vi _ => 12 - (intOf vi).toNat)
  case atStart => exact ⟨0, rfl, Nat.zero_le _, rfl⟩
  case round =>
    obtain ⟨k, rfl, hk, rfl⟩ := hrel
    by_cases e : k < D
    · have ci : (k : Int) < (D : Int) := by omega
      have k0 : (0 : Int) ≤ (k : Int) := by omega
      have hc : w3.cell? ⟨g, o + k, none⟩ = some (.int .i64 (L (o + k) : Int)) := ord_cells HR.out (by omega)
      have h1 := fitF_mono L o (show k + 1 ≤ 11 - o by omega)
      have h2 : fitF L o (k + 1) = fitF L o k + L (o + k) * 2 ^ k := rfl
      have hm : ((L (o + k) * 2 ^ k : Nat) : Int) = (L (o + k) : Int) * 2 ^ k := by rw [Int.natCast_mul, Int.natCast_pow]; rfl
      have ew : IntKind.i64.wrap ((L (o + k) : Int) * 2 ^ k) = (L (o + k) : Int) * 2 ^ k := IntWalk.i64_in _ (by omega)
      have ew2 : IntKind.i64.wrap ((fitF L o k : Int) + (L (o + k) : Int) * 2 ^ k) = (fitF L o (k + 1) : Int) := by
        rw [h2, Int.natCast_add, hm]; exact IntWalk.i64_in _ (by omega)
      clear h1 h2 hm hs
      go_wp2_with fail
      go_round
      case rel => exact ⟨k + 1, by go_num, by omega, rfl⟩
      case measure => simp [intOf]; omega
    · have ci : ¬ (k : Int) < (D : Int) := by omega
      obtain rfl : k = D := by omega
      have HD := Lib.hid hD
      clear hs hD hD2
      go_wp2_with fail
      go_ret
      rw [HD.out]
      exact ⟨rfl, hb3⟩

end Go.Proofs.YtikahcbkeempdaaDoor
