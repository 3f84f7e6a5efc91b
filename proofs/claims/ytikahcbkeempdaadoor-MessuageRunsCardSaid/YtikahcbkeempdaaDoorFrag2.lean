/- frag: Index, Largest walked. -/
import Derived.Test.YtikahcbkeempdaaDoorFrag1
namespace Go.Proofs.YtikahcbkeempdaaDoor
open Go.RowKit Go.Maps

def FreeLike (w0 : World) (pv : Value) (s : Nat) : Prop :=
  ∀ w, Below w0.heap.size w0 w → Calls Tryd.prog 30 #[pv] w fun e w' => e = .returned (.int .i64 (s : Int)) ∧ w = w'
theorem FreeLike.below {w w' : World} {pv : Value} {s : Nat} (h : FreeLike w pv s) (b : Below w.heap.size w w') : FreeLike w' pv s := fun x hx => h x (b.trans (hx.mono b.size))

set_option maxHeartbeats 400000 in
theorem index_no (pv : Value) (o : Int) (ho : o < 0 ∨ 10 < o) (w : World) : Calls Tryd.prog 29 #[pv, .int .i64 o] w fun e w' => e = .returned (.tuple #[.int .i64 0, .bool false]) ∧ w = w' := by
  go_enter Tryd.func29, Tryd.ntmps29
  go_wp2_with fail
  refine (fright_no o ho _).mono ?_
  rintro e w1 ⟨rfl, rfl⟩
  go_wp2_with fail
  go_ret2
  exact ⟨rfl, rfl⟩
set_option maxHeartbeats 400000 in
theorem index_zero {w : World} {pv : Value} (hf : FreeLike w pv 0) (o : Nat) (ho : o ≤ 10) : Calls Tryd.prog 29 #[pv, .int .i64 (o : Int)] w fun e w' => e = .returned (.tuple #[.int .i64 0, .bool false]) ∧ w = w' := by
  have HF := Lib.hid (hf w (Below.refl _ _))
  clear hf
  go_enter Tryd.func29, Tryd.ntmps29
  go_wp2_with fail
  refine (fright_yes o ho _).mono ?_
  rintro e w1 ⟨rfl, rfl⟩
  go_wp2_with fail
  refine HF.out.mono ?_
  rintro e w1 ⟨rfl, rfl⟩
  go_wp2_with fail
  go_ret2
  exact ⟨rfl, rfl⟩

set_option maxRecDepth 100000 in
set_option maxHeartbeats 1000000 in
theorem index_any {w : World} {pv : Value} {L : Nat → Nat} {s : Nat} (h : RunsLike w pv L) (hf : FreeLike w pv s) (hs0 : 0 < s) (hs1 : s ≤ 1024) (hL : ∀ k, L k ≤ 1024) (o : Nat) (ho : o ≤ 10) (hs : fitF L 0 o ≤ 1024) :
    Calls Tryd.prog 29 #[pv, .int .i64 (o : Int)] w fun e w' => e = .returned (.tuple #[.int .i64 ((1000 * fitF L 0 o / s : Nat) : Int), .bool true]) ∧ Below w.heap.size w w' := by
  have H := Lib.hid (orders_any h hL)
  have HF := Lib.hid (hf w (Below.refl _ _))
  have HFL := Lib.hid hf
  have o0 : (0 : Int) ≤ (o : Int) := by omega
  have o1 : (o : Int) ≤ 11 := by omega
  have s0 : ((s : Int) == 0) = false := by rw [beq_eq_false_iff_ne]; omega
  clear h hf
  go_enter Tryd.func29, Tryd.ntmps29
  go_wp2_with fail
  refine (fright_yes o ho _).mono ?_
  rintro e w1 ⟨rfl, rfl⟩
  go_wp2_with fail
  refine HF.out.mono ?_
  rintro e w1 ⟨rfl, rfl⟩
  go_wp2_with fail
  refine H.out.mono ?_
  rintro e w2 ⟨rfl, hb2⟩
  go_wp2_with (first
    | (refine wpList_store_mid rfl 100 _ _ rfl w2.heap.size 0 (ordL L).toArray rfl rfl (ord_there w2 L) (info_ordL L) (all_oneCell_toArray (ordL_one L)) ?_; refine Hid.out ?_))
  refine Lib.hid ?_
  have hrg := ord_laid w2 L
  have hbl := ord_below w2 L
  unfold ordZ at hrg hbl
  generalize hg : w2.heap.size = g at *
  generalize hw3 : (w2.alloc _).setCells g 0 (ordL L) = w3 at *
  clear hw3
  have hb3 : Below w.heap.size w w3 := hb2.trans (hbl.mono (by rw [← hg]; exact hb2.size))
  have HR := Lib.hid hrg
  clear hrg hbl hb2 hg
  go_wp2_with fail
  go_loop [23, 6] (fun vi vs => ∃ k : Nat, vi = .int .i64 (k : Int) ∧ k ≤ o ∧ vs = .int .i64 (fitF L 0 k : Int)) (fun vi _ => 12 - (intOf vi).toNat)
  case atStart => exact ⟨0, rfl, Nat.zero_le _, rfl⟩
  case round =>
    obtain ⟨k, rfl, hk, rfl⟩ := hrel
    by_cases e : k < o
    · have ci : (k : Int) < (o : Int) := by omega
      have k0 : (0 : Int) ≤ (k : Int) := by omega
      have hc : w3.cell? ⟨g, k, none⟩ = some (.int .i64 (L k : Int)) := ord_cells HR.out (by omega)
      have h1 := fitF_mono L 0 (show k + 1 ≤ o by omega)
      have h2 : fitF L 0 (k + 1) = fitF L 0 k + L k * 2 ^ k := by simp [fitF]
      have hm : ((L k * 2 ^ k : Nat) : Int) = (L k : Int) * 2 ^ k := by rw [Int.natCast_mul, Int.natCast_pow]; rfl
      have ew : IntKind.i64.wrap ((L k : Int) * 2 ^ k) = (L k : Int) * 2 ^ k := IntWalk.i64_in _ (by omega)
      have ew2 : IntKind.i64.wrap ((fitF L 0 k : Int) + (L k : Int) * 2 ^ k) = (fitF L 0 (k + 1) : Int) := by
        rw [h2, Int.natCast_add, hm]; exact IntWalk.i64_in _ (by omega)
      clear h1 h2 hm hs
      go_wp2_with fail
      go_round
      case rel => exact ⟨k + 1, by go_num, by omega, rfl⟩
      case measure => simp [intOf]; omega
    · have ci : ¬ (k : Int) < (o : Int) := by omega
      obtain rfl : k = o := by omega
      have HF3 := Lib.hid (HFL.out w3 hb3)
      obtain ⟨t, ht⟩ : ∃ t, fitF L 0 k = t := ⟨_, rfl⟩
      rw [ht] at hs ⊢
      have w1 : IntKind.i64.wrap (1000 * (t : Int)) = 1000 * (t : Int) := IntWalk.i64_in _ (by omega)
      have hq : (1000 * (t : Int)).tdiv (s : Int) = ((1000 * t / s : Nat) : Int) := by
        rw [Int.tdiv_eq_ediv_of_nonneg (by omega)]
        simp
      have hqb : 1000 * t / s ≤ 1000 * t := Nat.div_le_self _ _
      have s1 : ¬ (s : Int) = 0 := by omega
      have s2 : ¬ s = 0 := by omega
      obtain ⟨q, hqq⟩ : ∃ q, 1000 * t / s = q := ⟨_, rfl⟩
      rw [hqq] at hq hqb
      have w2' : IntKind.i64.wrap (q : Int) = (q : Int) := IntWalk.i64_in _ (by omega)
      have HT := Lib.hid ht
      have HQ := Lib.hid hqq
      clear hqb hs ht hqq
      go_wp2_with fail
      refine HF3.out.mono ?_
      rintro e w4 ⟨rfl, rfl⟩
      go_wp2_with fail
      go_ret2
      rw [HT.out, HQ.out]
      exact ⟨rfl, hb3⟩

theorem index_ord (L : Nat → Nat) (k : Nat) (hk : k ≤ 10) (w : World) : (Instr.index 100 (.agg (ordL L).toArray) (.int .i64 (k : Int))).run Tryd.prog w = .ok (.int .i64 (L k : Int)) w := by
  have : k = 0 ∨ k = 1 ∨ k = 2 ∨ k = 3 ∨ k = 4 ∨ k = 5 ∨ k = 6 ∨ k = 7 ∨ k = 8 ∨ k = 9 ∨ k = 10 := by omega
  rcases this with rfl | rfl | rfl | rfl | rfl | rfl | rfl | rfl | rfl | rfl | rfl <;> (show _ = _; kernel_rfl)

def bestTo (L : Nat → Nat) : Nat → Int
  | 0 => -1
  | k + 1 => if 0 < L k then (k : Int) else bestTo L k


end Go.Proofs.YtikahcbkeempdaaDoor
