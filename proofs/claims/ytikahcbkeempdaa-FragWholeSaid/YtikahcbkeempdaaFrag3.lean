/- The reference's Orders, Index walked. -/
import Derived.Test.YtikahcbkeempdaaFrag2
namespace Go.Proofs.Ytikahcbkeempdaa
open Go.RowKit Go.Maps

/-- pv answers Runs with L k runs of order k, in each world that has only grown. -/
def RRunsLike (w0 : World) (pv : Value) (L : Nat → Nat) : Prop :=
  ∀ w, Below w0.heap.size w0 w → ∀ k : Nat, k ≤ 10 → Calls Try.prog 41 #[pv, .int .i64 (k : Int)] w fun e w' => ∃ oa cap, e = .returned (.slice oa (L k) cap) ∧ Below w.heap.size w w'

def RORel (w : World) (L : Nat → Nat) (v : Value) (wr : World) : Prop :=
  ∃ k : Nat, v = .int .i64 (k : Int) ∧ k ≤ 11 ∧ wr.heap[w.heap.size + 1]? = some (.cells (ordL fun j => if j < k then L j else 0).toArray 70 (0, 0)) ∧ wr.heap[w.heap.size]? = some (.cells (ordL fun _ => 0).toArray 70 (0, 0)) ∧ Below w.heap.size w wr

set_option maxRecDepth 100000 in
set_option maxHeartbeats 1000000 in
theorem rorders_any {w : World} {pv : Value} {L : Nat → Nat} (h : RRunsLike w pv L) (hL : ∀ k, L k ≤ 1024) :
    Calls Try.prog 49 #[pv] w fun e w' => e = .returned (.agg (ordL L).toArray) ∧ Below w.heap.size w w' := by
  have H := Lib.hid h
  have HL := Lib.hid hL
  clear h hL
  go_enter Try.func49, Try.ntmps49
  go_wp2_with fail
  go_loopw [4] (fun v wr => RORel w L v wr) (fun v _ => 11 - (intOf v).toNat)
  case atStart =>
    refine ⟨0, rfl, by omega, ?_, ?_, ((Below.refl _ _).alloc (Nat.le_refl _) _).alloc (by simp) _⟩
    · have := heap_alloc_new (w.alloc (.cells (ordL fun _ => 0).toArray 70)) (.cells (ordL fun _ => 0).toArray 70)
      rw [World.size_alloc] at this
      exact this
    · rw [Below.heap_alloc _ _ _ (by simp)]
      exact heap_alloc_new w _
  case round =>
    obtain ⟨k, rfl, hk, ho, hr, hb⟩ := hrel
    have HO := Lib.hid ho
    have HR := Lib.hid hr
    by_cases e : k < 11
    · have ck : (k : Int) ≤ 10 := by omega
      have hru := Lib.hid (H.out wr hb k (by omega))
      have hLk := HL.out k
      have hsz : w.heap.size + 1 < wr.heap.size := (Array.getElem?_eq_some_iff.1 ho).1
      clear ho hr
      go_wp2_with fail
      refine hru.out.mono ?_
      rintro e w2 ⟨oa, cap, rfl, hb2⟩
      have ho2 := (hb2.block _ hsz).trans HO.out
      have hr2 := (hb2.block _ (by omega)).trans HR.out
      have hfr : w2.frozen? ⟨w.heap.size + 1, k, none⟩ = false := by simp [World.frozen?, ho2]
      have hcl : ∃ v, w2.cell? ⟨w.heap.size + 1, k, none⟩ = some v := ⟨.int .i64 0, by simp [World.cell?, ho2, ordL, e]⟩
      obtain ⟨v0, hcl⟩ := hcl
      have HO2 := Lib.hid ho2
      have HR2 := Lib.hid hr2
      have hbb := hb.trans (hb2.mono hb.size)
      clear ho2 hr2 hb2
      go_wp2_with fail
      go_roundw
      case rel =>
        refine ⟨k + 1, by go_num, by omega, ?_, ?_, hbb.setCell (p := ⟨w.heap.size + 1, k, none⟩) (by show w.heap.size ≤ w.heap.size + 1; omega) _⟩
        · simp only [World.setCell, Array.getElem?_modify, HO2.out, if_true, Option.map_some]
          rw [ordL_set]
          simp only [Option.isSome_none, Bool.false_eq_true, if_false]
          congr 3
          refine ordL_congr fun j _ => ?_
          by_cases e1 : j = k
          · rw [if_pos e1, if_pos (by omega), e1]
          · rw [if_neg e1]
            by_cases e2 : j < k
            · rw [if_pos e2, if_pos (by omega)]
            · rw [if_neg e2, if_neg (by omega)]
        · exact (Below.heap_setCell _ _ _ _ (by show w.heap.size ≠ w.heap.size + 1; omega)).trans HR2.out
      case measure => simp [intOf]; omega
    · obtain rfl : k = 11 := by omega
      have hrg : wr.rangeAt (w.heap.size + 1) 0 (ordL L) := by
        have := World.rangeAt_of_block ho 0 11
        have e : ((ordL fun j => if j < 11 then L j else 0).toArray.extract 0 (0 + 11)).toList = ordL L := by
          rw [ordL_congr (M := L) (fun j hj => by rw [if_pos hj])]
          simp only [List.extract_toArray, List.extract_eq_take_drop, Nat.zero_add, Nat.sub_zero, List.drop_zero]
          exact List.take_of_length_le (by simp [ordL])
        rwa [e] at this
      have hth : wr.there w.heap.size 0 11 := fun j hj => ⟨by simp [World.cell?, hr, ordL, hj], by simp [World.frozen?, hr]⟩
      have HG := Lib.hid hrg
      have HT := Lib.hid hth
      clear hrg hth
      go_wp2_with (first
        | (refine wpList_load_mid rfl 70 _ rfl (w.heap.size + 1) 0 rfl (ordL L) _ HG.out Try.underlying70 rfl info_ord ?_)
        | (refine wpList_store_mid rfl 70 _ _ rfl w.heap.size 0 (ordL L).toArray rfl rfl HT.out info_ord (all_oneCell_toArray (ordL_one L)) ?_))
      have hld := run_loadVar_mid (P := Try.prog) (wr.setCells w.heap.size 0 (ordL L)) w.heap.size 0 70 (ordL L) _ (World.rangeAt_setCells_same wr _ _ _ HT.out) Try.underlying70 rfl info_ord
      have hfin := Lib.hid (hb.trans (below_setCells (ordL L) 0 wr (Nat.le_refl w.heap.size)))
      clear hr hb HR ho HO
      (try simp only [Exit.inBlock, Exit.then])
      refine bodyPost_ret (results_cell_mid rfl _ _ w.heap.size (ordL L).toArray rfl hld) rfl ?_
      exact ⟨rfl, hfin.out⟩

theorem RRunsLike.below {w w' : World} {pv : Value} {L : Nat → Nat} (h : RRunsLike w pv L) (b : Below w.heap.size w w') : RRunsLike w' pv L := fun x hx k hk => h x (b.trans (hx.mono b.size)) k hk
def RFreeLike (w0 : World) (pv : Value) (s : Nat) : Prop :=
  ∀ w, Below w0.heap.size w0 w → Calls Try.prog 40 #[pv] w fun e w' => e = .returned (.int .i64 (s : Int)) ∧ w = w'
theorem RFreeLike.below {w w' : World} {pv : Value} {s : Nat} (h : RFreeLike w pv s) (b : Below w.heap.size w w') : RFreeLike w' pv s := fun x hx => h x (b.trans (hx.mono b.size))

set_option maxHeartbeats 400000 in
theorem rindex_no (pv : Value) (o : Int) (ho : o < 0 ∨ 10 < o) (w : World) : Calls Try.prog 50 #[pv, .int .i64 o] w fun e w' => e = .returned (.tuple #[.int .i64 0, .bool false]) ∧ w = w' := by
  rcases ho with h | h
  all_goals
    go_enter Try.func50, Try.ntmps50
    go_wp2_with fail
    go_ret2
    exact ⟨rfl, rfl⟩
set_option maxHeartbeats 400000 in
theorem rindex_zero {w : World} {pv : Value} (hf : RFreeLike w pv 0) (o : Nat) (ho : o ≤ 10) : Calls Try.prog 50 #[pv, .int .i64 (o : Int)] w fun e w' => e = .returned (.tuple #[.int .i64 0, .bool false]) ∧ w = w' := by
  have HF := Lib.hid (hf w (Below.refl _ _))
  clear hf
  go_enter Try.func50, Try.ntmps50
  go_wp2_with fail
  refine HF.out.mono ?_
  rintro e w1 ⟨rfl, rfl⟩
  go_wp2_with fail
  go_ret2
  exact ⟨rfl, rfl⟩

set_option maxRecDepth 100000 in
set_option maxHeartbeats 1000000 in
theorem rindex_any {w : World} {pv : Value} {L : Nat → Nat} {s : Nat} (h : RRunsLike w pv L) (hf : RFreeLike w pv s) (hs0 : 0 < s) (hs1 : s ≤ 1024) (hL : ∀ k, L k ≤ 1024) (o : Nat) (ho : o ≤ 10) (hs : fitF L 0 o ≤ 1024) :
    Calls Try.prog 50 #[pv, .int .i64 (o : Int)] w fun e w' => e = .returned (.tuple #[.int .i64 ((1000 * fitF L 0 o / s : Nat) : Int), .bool true]) ∧ Below w.heap.size w w' := by
  have H := Lib.hid (rorders_any h hL)
  have HF := Lib.hid (hf w (Below.refl _ _))
  have HFL := Lib.hid hf
  have o0 : (0 : Int) ≤ (o : Int) := by omega
  have o1 : ¬ (10 : Int) < (o : Int) := by omega
  have o2 : ¬ (o : Int) < 0 := by omega
  have s0 : ((s : Int) == 0) = false := by rw [beq_eq_false_iff_ne]; omega
  clear h hf
  go_enter Try.func50, Try.ntmps50
  go_wp2_with fail
  refine HF.out.mono ?_
  rintro e w1 ⟨rfl, rfl⟩
  go_wp2_with fail
  refine H.out.mono ?_
  rintro e w2 ⟨rfl, hb2⟩
  go_wp2_with (first
    | (refine wpList_store_mid rfl 70 _ _ rfl w2.heap.size 0 (ordL L).toArray rfl rfl (ord_there w2 L) (info_ordL L) (all_oneCell_toArray (ordL_one L)) ?_; refine Hid.out ?_))
  refine Lib.hid ?_
  have hrg := ord_laid w2 L
  have hbl := ord_below w2 L
  unfold ordZ at hrg hbl
  generalize hg : w2.heap.size = g at *
  generalize hw3 : (w2.alloc _).setCells g 0 (ordL L) = w3 at *
  clear hw3
  have hb3 : Below w.heap.size w w3 := hb2.trans (hbl.mono (by rw [← hg]; exact hb2.size))
  have HR := Lib.hid hrg
  clear hrg hbl hb2 hg
  go_wp2_with fail
  go_loop [8, 6] (fun vi vs => ∃ k : Nat, vi = .int .i64 (k : Int) ∧ k ≤ o ∧ vs = .int .i64 (fitF L 0 k : Int)) (fun vi _ => 12 - (intOf vi).toNat)
  case atStart => exact ⟨0, rfl, Nat.zero_le _, rfl⟩
  case round =>
    obtain ⟨k, rfl, hk, rfl⟩ := hrel
    by_cases e : k < o
    · have ci : (k : Int) < (o : Int) := by omega
      have k0 : (0 : Int) ≤ (k : Int) := by omega
      have hc : w3.cell? ⟨g, k, none⟩ = some (.int .i64 (L k : Int)) := ord_cells HR.out (by omega)
      have h1 := fitF_mono L 0 (show k + 1 ≤ o by omega)
      have h2 : fitF L 0 (k + 1) = fitF L 0 k + L k * 2 ^ k := by simp [fitF]
      have hm : ((L k * 2 ^ k : Nat) : Int) = (L k : Int) * 2 ^ k := by rw [Int.natCast_mul, Int.natCast_pow]; rfl
      have ew : IntKind.i64.wrap ((L k : Int) * 2 ^ k) = (L k : Int) * 2 ^ k := IntWalk.i64_in _ (by omega)
      have ew2 : IntKind.i64.wrap ((fitF L 0 k : Int) + (L k : Int) * 2 ^ k) = (fitF L 0 (k + 1) : Int) := by
        rw [h2, Int.natCast_add, hm]; exact IntWalk.i64_in _ (by omega)
      clear h1 h2 hm hs
      go_wp2_with fail
      go_round
      case rel => exact ⟨k + 1, by go_num, by omega, rfl⟩
      case measure => simp [intOf]; omega
    · have ci : ¬ (k : Int) < (o : Int) := by omega
      obtain rfl : k = o := by omega
      have HF3 := Lib.hid (HFL.out w3 hb3)
      obtain ⟨t, ht⟩ : ∃ t, fitF L 0 k = t := ⟨_, rfl⟩
      rw [ht] at hs ⊢
      have w1 : IntKind.i64.wrap (1000 * (t : Int)) = 1000 * (t : Int) := IntWalk.i64_in _ (by omega)
      have hq : (1000 * (t : Int)).tdiv (s : Int) = ((1000 * t / s : Nat) : Int) := by
        rw [Int.tdiv_eq_ediv_of_nonneg (by omega)]
        simp
      have hqb : 1000 * t / s ≤ 1000 * t := Nat.div_le_self _ _
      have s1 : ¬ (s : Int) = 0 := by omega
      have s2 : ¬ s = 0 := by omega
      obtain ⟨q, hqq⟩ : ∃ q, 1000 * t / s = q := ⟨_, rfl⟩
      rw [hqq] at hq hqb
      have w2' : IntKind.i64.wrap (q : Int) = (q : Int) := IntWalk.i64_in _ (by omega)
      have HT := Lib.hid ht
      have HQ := Lib.hid hqq
      clear hqb hs ht hqq
      go_wp2_with fail
      refine HF3.out.mono ?_
      rintro e w4 ⟨rfl, rfl⟩
      go_wp2_with fail
      go_ret2
      rw [HT.out, HQ.out]
      exact ⟨rfl, hb3⟩

end Go.Proofs.Ytikahcbkeempdaa
