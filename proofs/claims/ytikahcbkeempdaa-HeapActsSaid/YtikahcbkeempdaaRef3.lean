/- The reference's buddy: New, DocTake walked. -/
import Derived.Test.YtikahcbkeempdaaRef2
import Derived.Deep.RegionLaw
import Derived.Deep.AppendLies
namespace Go.Proofs.Ytikahcbkeempdaa
open Go.RowKit

theorem infoB : (Try.prog.info? 4).map (fun i => (i.zero, i.size, i.bytes)) = some (some (.bool false), 1, 1) := by kernel_rfl
theorem infoP : (Try.prog.info? 51).map (fun i => (i.zero, i.size, i.bytes)) = some (some (.agg #[.int .i64 0, .int .i64 0]), 2, 16) := by kernel_rfl

theorem used_nil (x : Nat) : Bu.used [] x = false := rfl

set_option maxRecDepth 100000 in
set_option maxHeartbeats 1000000 in
theorem rnew_ok (n : Nat) (h1 : 1 ≤ n) (h2 : n ≤ 1024) (w : World) :
    Calls Try.prog 37 #[.int .i64 (n : Int)] w fun e w' => e = .returned (.pointer (some ⟨w.heap.size + 1, 0, none⟩)) ∧ RefAt w' n (w.heap.size + 1) w.heap.size (.slice none 0 0) (Bu.used []) [] ∧ Below w.heap.size w w' ∧ w'.heap.size = w.heap.size + 2 := by
  obtain ⟨i0, hi, hz0, hz1, hz2⟩ := info_parts infoB
  have hmk := run_makeSlice (P := Try.prog) (w := w) 49 4 i0 (.bool false) Try.underlying49 hi hz0
  have hmk := hmk .i64 .i64 n n (by omega) (by omega) (by rw [hz1]; omega) (by rw [hz2]; omega) (by omega)
  have hcl : madeCells (Value.bool false).cells ((n : Int).toNat * i0.size) = (usedCells n (Bu.used [])).toArray := by
    rw [hz1, Nat.mul_one, Int.toNat_natCast]
    apply Array.ext
    · simp [madeCells, usedCells]
    · intro i g1 g2
      simp [madeCells, usedCells, Value.cells, Bu.used, Nat.mod_one]
  rw [hcl, Int.toNat_natCast] at hmk
  clear hi hz0 hz1 hz2 hcl
  go_enter Try.func37, Try.ntmps37
  go_wp2
  go_ret
  refine ⟨rfl, ⟨?_, ?_, World.ownsRow_nil _ _ _ _, by simp [Value.ownBlock]⟩, ((Below.refl _ _).alloc (Nat.le_refl _) _).alloc (by simp) _, by simp⟩
  · have := heap_alloc_new (w.alloc (.cells (usedCells n (Bu.used [])).toArray 4)) (.cells #[.slice (some ⟨w.heap.size, 0, none⟩) n n, .slice none 0 0] 63)
    rw [World.size_alloc] at this
    exact this
  · rw [Below.heap_alloc _ _ _ (by simp)]
    exact heap_alloc_new w _

/-! ### DocTake -/
theorem takCells_snoc (T : List (Nat × Nat)) (a o : Nat) : takCells (T ++ [(a, o)]) = takCells T ++ [.int .i64 (a : Int), .int .i64 (o : Int)] := by simp [takCells]

theorem used_set (T : List (Nat × Nat)) (a o x : Nat) : setU (Bu.used T) a (2 ^ o) true x = Bu.used (T ++ [(a, o)]) x := by
  rw [Bu.used_append]
  unfold setU
  cases hc : Bu.cov x (a, o) with
  | true =>
    have := (Bu.cov_iff _ _).1 hc
    rw [if_pos this, Bool.or_true]
  | false =>
    have : ¬ (a ≤ x ∧ x < a + 2 ^ o) := fun h => by rw [(Bu.cov_iff x (a, o)).2 h] at hc; cases hc
    rw [if_neg this, Bool.or_false]

/-- The blocks of a reference's buddy. -/
def RFp (p u : Nat) (tv : Value) (i : Nat) : Prop := i = p ∨ i = u ∨ tv.ownBlock = some i

def RTakePost (w : World) (n p u : Nat) (tv : Value) (T : List (Nat × Nat)) (a o : Nat) (e : Ending) (w' : World) : Prop :=
  e = .returned (.tuple #[.int .i64 (a : Int), .int .i64 0]) ∧ ∃ tv', RefAt w' n p u tv' (Bu.used (T ++ [(a, o)])) (T ++ [(a, o)]) ∧ KeptF (RFp p u tv) w w' ∧ (tv'.ownBlock = tv.ownBlock ∨ ∃ g, w.heap.size ≤ g ∧ tv'.ownBlock = some g)

def RTRel (w : World) (o k0 : Nat) (v : Value) (wr : World) : Prop := ∃ k : Nat, v = .int .i64 (k : Int) ∧ o ≤ k ∧ k ≤ k0 ∧ Below w.heap.size w wr

theorem runs_ref (n : Nat) (T : List (Nat × Nat)) (k : Nat) : runsTo n (Bu.used T) k ((n + 2 ^ k - 1) / 2 ^ k) = Bu.runs n T k := runsTo_runs n T k

theorem RefAt.setTaken {w : World} {n p u : Nat} {tv tv' : Value} {U : Nat → Bool} {T' : List (Nat × Nat)} (hb : w.heap[p]? = some (.cells #[.slice (some ⟨u, 0, none⟩) n n, tv] 63 (0, 0))) (hu : w.heap[u]? = some (.cells (usedCells n U).toArray 4 (0, 0)))
    (hown : w.ownsRow 0 51 2 tv' T'.length (takCells T')) (h1 : tv'.ownBlock ≠ some p) (h2 : tv'.ownBlock ≠ some u) (h3 : p ≠ u) : RefAt (w.setCell ⟨p, 1, none⟩ tv') n p u tv' U T' := by
  refine ⟨?_, (Below.heap_setCell _ _ _ _ (by show u ≠ p; exact Ne.symm h3)).trans hu, ownsRow_same hown fun g hg => Below.heap_setCell _ _ _ _ (by show g ≠ p; exact fun e => h1 (e ▸ hg)), h1, h2, h3⟩
  simp [World.setCell, Array.getElem?_modify, hb]

theorem rtake_fin {w w4 : World} {n p u : Nat} {tv U T} {o : Obj} {a k g cap : Nat} (h : RefAt w n p u tv U T) (hown4 : w4.ownsRow 0 51 2 (.slice (some ⟨g, 0, none⟩) (T.length + 1) cap) (T.length + 1) (takCells T ++ [.int .i64 (a : Int), .int .i64 (k : Int)]))
    (hg : (w.alloc o).drew.grownBy w4 tv.ownBlock) (hat : tv.ownBlock = some g ∨ g = w.heap.size + 1) :
    RefAt (w4.setCell ⟨p, 1, none⟩ (.slice (some ⟨g, 0, none⟩) (T.length + 1) cap)) n p u (.slice (some ⟨g, 0, none⟩) (T.length + 1) cap) U (T ++ [(a, k)]) ∧ KeptF (RFp p u tv) w (w4.setCell ⟨p, 1, none⟩ (.slice (some ⟨g, 0, none⟩) (T.length + 1) cap)) ∧
      ((Value.slice (some ⟨g, 0, none⟩) (T.length + 1) cap).ownBlock = tv.ownBlock ∨ ∃ g', w.heap.size ≤ g' ∧ (Value.slice (some ⟨g, 0, none⟩) (T.length + 1) cap).ownBlock = some g') := by
  obtain ⟨lp, lu, lt⟩ := h.lt
  obtain ⟨a1, a2, a3⟩ := h.apart
  have hb : ∀ i, i < w.heap.size → tv.ownBlock ≠ some i → w4.heap[i]? = w.heap[i]? := fun i hi hne => (hg.block i (by simp; omega) (Ne.symm hne)).trans (Below.heap_alloc _ _ _ hi)
  have hgp : g ≠ p := by
    rcases hat with e | e
    · intro e'; rw [e'] at e; exact a1 e
    · omega
  have hgu : g ≠ u := by
    rcases hat with e | e
    · intro e'; rw [e'] at e; exact a2 e
    · omega
  refine ⟨RefAt.setTaken ((hb p lp a1).trans h.blk) ((hb u lu a2).trans h.usd) ?_ (by simp [Value.ownBlock, hgp]) (by simp [Value.ownBlock, hgu]) a3, ?_, ?_⟩
  · rw [takCells_snoc, List.length_append]; exact hown4
  · have k1 : KeptF (RFp p u tv) w (w.alloc o).drew := ⟨rfl, rfl, rfl, by simp, fun i hi _ => Below.heap_alloc _ _ _ hi⟩
    exact (k1.grown hg fun k hk => .inl (.inr (.inr hk))).setCell _ (.inl (.inl rfl))
  · rcases hat with e | e
    · exact .inl (by rw [e]; rfl)
    · exact .inr ⟨g, by omega, rfl⟩

set_option maxRecDepth 100000 in
set_option maxHeartbeats 2000000 in
theorem rtake_some {w : World} {n p u : Nat} {tv T} (h : RefAt w n p u tv (Bu.used T) T) (hn : n ≤ 1024) (o : Nat) {k0 a : Nat} (hp : Bu.pick (Bu.runs n T) o = some (k0, a)) (hT : T.length ≤ 1024) (hin : a + 2 ^ o ≤ n) :
    Calls Try.prog 38 #[.pointer (some ⟨p, 0, none⟩), .int .i64 (o : Int)] w (RTakePost w n p u tv T a o) := by
  obtain ⟨i0, hi, hz0, hz1, hz2⟩ := info_parts infoP
  obtain ⟨p1, p2, p3, p4⟩ := Bu.pick_some hp
  have H := Lib.hid h
  have P3 := Lib.hid p3
  have P4 := Lib.hid p4
  clear hp h p3 p4
  go_enter Try.func38, Try.ntmps38
  go_wp2_with fail
  go_loopw [6] (fun v wr => RTRel w o k0 v wr) (fun v _ => 11 - (intOf v).toNat)
  case atStart => exact ⟨o, rfl, Nat.le_refl _, p1, Below.refl _ _⟩
  case round =>
    obtain ⟨k, rfl, h1, h2, hb⟩ := hrel
    have hR := H.out.below hb
    have hru := rruns_any hR k (by omega) hn
    rw [runs_ref] at hru
    have HRU := Lib.hid hru
    have HR := Lib.hid hR
    clear hru hR
    have ck : (k : Int) ≤ 10 := by omega
    by_cases e : k = k0
    · subst e
      obtain ⟨l, hl⟩ := P3.out
      have HL := Lib.hid hl
      clear hl
      go_wp2_with fail
      refine HRU.out.mono ?_
      rintro e w1 ⟨v, rfl, hrow, hb1⟩
      rw [HL.out] at hrow
      have hR1 := HR.out.below hb1
      obtain ⟨g, cap, rfl, hg1, hg2, hgc⟩ := own_head hrow (by simp)
      have hc0 := hgc 0 (by simp)
      simp only [intV, List.map_cons, List.getD_cons_zero] at hc0
      simp only [List.length_cons]
      clear hgc hrow
      have hne : (0 : Int) < ((l.length + 1 : Nat) : Int) := by omega
      have HR1 := Lib.hid hR1
      clear hR1
      go_wp2_with fail
      refine (rset_any HR1.out a o true (by omega) hn hin).mono ?_
      rintro e w2 ⟨rfl, hR2, hk2, hs2⟩
      clear hs2
      have hR2 := hR2.congr (fun x _ => used_set T a o x)
      have hgu : g ≠ u := by have := HR.out.lt; omega
      have hgp : g ≠ p := by have := HR.out.lt; omega
      have hc0' : w2.cell? ⟨g, 0, none⟩ = some (.int .i64 (a : Int)) := (World.cell?_of_block (a := ⟨g, 0, none⟩) (hk2.block g hg2 hgu)).trans hc0
      have hcp := hR2.c1
      have hfp := hR2.f1 1
      have hown := hR2.tak
      have lp := hR2.lt.1
      have lg : g < w2.heap.size := by have := hk2.size; omega
      have np : p ≠ w2.heap.size := by omega
      have ng : g ≠ w2.heap.size := by omega
      have ap := hR2.apart.1
      have HR2 := Lib.hid hR2
      have AP := Lib.hid ap
      have AG := Lib.hid (show some g ≠ tv.ownBlock from fun e => by have := H.out.lt.2.2 g e.symm; have := hb.size; omega)
      clear hR2 ap
      go_wp2_with fail
      go_region_law (first
        | (refine step_append_lies _ (by rfl) _ _ _ (by rfl) 0 51 i0 _ 2 16 Try.underlying50 hi hz0 hz1 hz2 rfl (by omega) tv T.length (takCells T) (by rfl) ((hown.alloc _).drew) ⟨w2.heap.size, 0, none⟩ 1 1 [.int .i64 (a : Int), .int .i64 (o : Int)] (by rfl) (by rfl) (World.news_of_block (cs := #[.int .i64 (a : Int), .int .i64 (o : Int)]) (t := 51) (fr := (0, 0)) (heap_alloc_new w2 _)) (by simp [Value.oneCell']) (by omega) (by unfold maxLen; omega) (by omega) (by simp) (w2.heap.size + 1) (by simp) ?_; intro gg gcap w4 hown4 hgrow4 hat4 hlt4; have hbp4 : w4.heap[p]? = w2.heap[p]? := (hgrow4.block p (by simp; omega) (Ne.symm AP.out)).trans (Below.heap_alloc _ _ _ lp); have hcp4 : w4.cell? ⟨p, 1, none⟩ = some tv := (World.cell?_of_block (a := ⟨p, 1, none⟩) hbp4).trans hcp; have hfp4 : w4.frozen? ⟨p, 1, none⟩ = false := (World.frozen?_of_block (a := ⟨p, 1, none⟩) hbp4).trans hfp; have hg4 : w4.cell? ⟨g, 0, none⟩ = some (.int .i64 (a : Int)) := (World.cell?_of_block (a := ⟨g, 0, none⟩) ((hgrow4.block g (by simp; omega) AG.out).trans (Below.heap_alloc _ _ _ lg))).trans hc0'))
      all_goals
        have hfin := Lib.hid (rtake_fin HR2.out hown4 hgrow4 hat4)
        clear hown4 hgrow4 hat4 hbp4 hcp4 hfp4
        go_wp2
        go_ret2
        obtain ⟨f1, f2, f3⟩ := hfin.out
        refine ⟨rfl, _, f1, ?_, ?_⟩
        · exact ((KeptF.of_below hb _).trans (KeptF.of_below (hb1.mono (by have := hb.size; omega)) _)).trans ((hk2.wider fun i _ hi => .inr (.inl hi)).trans f2)
        · rcases f3 with f3 | ⟨g', f3, f4⟩
          · exact .inl f3
          · exact .inr ⟨g', by have := hb.size; have := hb1.size; have := hk2.size; omega, f4⟩
    · have hl := P4.out k h1 (by omega)
      have HL := Lib.hid hl
      clear hl
      go_wp2_with fail
      refine HRU.out.mono ?_
      rintro e w1 ⟨v, rfl, hrow, hb1⟩
      rw [HL.out] at hrow
      obtain ⟨oa, lcap, rfl, _⟩ := own_shape hrow
      clear hrow
      simp only [List.length_nil]
      go_wp2_with fail
      go_roundw
      case rel => exact ⟨k + 1, by go_num, by omega, by omega, hb.trans (hb1.mono hb.size)⟩
      case measure => simp [intOf]; omega

def RTNone (w : World) (o : Nat) (v : Value) (wr : World) : Prop := ∃ k : Nat, v = .int .i64 (k : Int) ∧ o ≤ k ∧ k ≤ 11 ∧ Below w.heap.size w wr

set_option maxRecDepth 100000 in
set_option maxHeartbeats 1000000 in
theorem rtake_none {w : World} {n p u : Nat} {tv T} (h : RefAt w n p u tv (Bu.used T) T) (hn : n ≤ 1024) (o : Nat) (ho : o ≤ 10) (hp : Bu.pick (Bu.runs n T) o = none) :
    Calls Try.prog 38 #[.pointer (some ⟨p, 0, none⟩), .int .i64 (o : Int)] w fun e w' => e = .returned (.tuple #[.int .i64 0, .int .i64 5]) ∧ Below w.heap.size w w' := by
  have P4 := Lib.hid (Bu.pick_none hp)
  have H := Lib.hid h
  clear hp h
  go_enter Try.func38, Try.ntmps38
  go_wp2_with fail
  go_loopw [6] (fun v wr => RTNone w o v wr) (fun v _ => 11 - (intOf v).toNat)
  case atStart => exact ⟨o, rfl, Nat.le_refl _, by omega, Below.refl _ _⟩
  case round =>
    obtain ⟨k, rfl, h1, h2, hb⟩ := hrel
    by_cases e : k = 11
    · have ck : ¬ (k : Int) ≤ 10 := by omega
      clear e
      go_wp2_with fail
      go_ret2
      exact ⟨rfl, hb⟩
    · have hR := H.out.below hb
      have hru := rruns_any hR k (by omega) hn
      rw [runs_ref] at hru
      have HRU := Lib.hid hru
      clear hru hR
      have ck : (k : Int) ≤ 10 := by omega
      have hl := P4.out k h1 (by omega)
      have HL := Lib.hid hl
      clear hl
      go_wp2_with fail
      refine HRU.out.mono ?_
      rintro e w1 ⟨v, rfl, hrow, hb1⟩
      rw [HL.out] at hrow
      obtain ⟨oa, lcap, rfl, _⟩ := own_shape hrow
      clear hrow
      simp only [List.length_nil]
      go_wp2_with fail
      go_roundw
      case rel => exact ⟨k + 1, by go_num, by omega, by omega, hb.trans (hb1.mono hb.size)⟩
      case measure => simp [intOf]; omega

set_option maxHeartbeats 400000 in
theorem rtake_no (a : Addr) (o : Int) (w : World) (h : o < 0 ∨ 10 < o) :
    Calls Try.prog 38 #[.pointer (some a), .int .i64 o] w fun e w' => e = .returned (.tuple #[.int .i64 0, .int .i64 1]) ∧ w = w' := by
  rcases h with h | h
  all_goals
    go_enter Try.func38, Try.ntmps38
    go_wp2_with fail
    go_ret2
    exact ⟨rfl, rfl⟩

end Go.Proofs.Ytikahcbkeempdaa
