/- messuagelaw28: frags, both. -/
import Derived.Test.YtikahcbkeempdaaFrag3
import Derived.Test.YtikahcbkeempdaaRows1
import Derived.Deep.RegionHeld3
namespace Go.Proofs.Ytikahcbkeempdaa
open Go.RowKit Go.Maps

def cntF (F : Nat → List Nat) (k : Nat) : Nat := if k ≤ 10 then (F k).length else 0
theorem cntF_le {n : Nat} {T F} (I : Bu.Inv n T F) (k : Nat) : cntF F k ≤ 1024 := by
  unfold cntF
  split
  · exact I.len_le ‹_›
  · omega
theorem fitF_sum (F : Nat → List Nat) (o : Nat) : ∀ d, o + d ≤ 11 → fitF (cntF F) o d * 2 ^ o + Bu.sumF F o = Bu.sumF F (o + d)
  | 0, _ => by simp [fitF]
  | d + 1, h => by
    have ih := fitF_sum F o d (by omega)
    have h1 : Bu.sumF F (o + (d + 1)) = Bu.sumF F (o + d) + (F (o + d)).length * 2 ^ (o + d) := rfl
    have h2 : cntF F (o + d) = (F (o + d)).length := by unfold cntF; rw [if_pos (by omega)]
    rw [h1, ← ih]
    simp only [fitF, h2]
    rw [Nat.add_mul, Nat.mul_assoc, ← Nat.pow_add, Nat.add_comm d o]
    omega
theorem fitF_zero {F : Nat → List Nat} {o : Nat} (h : o ≤ 11) : fitF (cntF F) 0 o = Bu.sumF F o := by
  have := fitF_sum F 0 o (by omega)
  simpa [Bu.sumF] using this
theorem fitF_le {n : Nat} {T F} (I : Bu.Inv n T F) {o : Nat} (h : o ≤ 11) : fitF (cntF F) o (11 - o) ≤ 1024 := by
  have h1 := fitF_sum F o (11 - o) (by omega)
  have h2 := I.sum_le
  rw [show o + (11 - o) = 11 by omega] at h1
  have h3 := Nat.mul_le_mul_left (fitF (cntF F) o (11 - o)) (Bu.pos2 o)
  omega
theorem fitF_le0 {n : Nat} {T F} (I : Bu.Inv n T F) {o : Nat} (h : o ≤ 11) : fitF (cntF F) 0 o ≤ 1024 := by
  rw [fitF_zero h]
  have := Bu.sumF_mono F h
  have := I.sum_le
  omega

theorem runsLike_bud {w : World} {b n : Nat} {F T} (h : Bud w b n F T) (I : Bu.Inv n T F) : RunsLike w (.pointer (some ⟨b + 1, 0, none⟩)) (cntF F) := fun x hx k hk => by
  have hB : Bud x b n F T := h.same fun i _ hi => hx.block i (by have := h.lt; omega)
  refine (runs_any hB k hk (I.len_le hk)).mono ?_
  rintro e w' ⟨v, rfl, hrow, hb⟩
  obtain ⟨oa, cap, rfl, _⟩ := own_shape hrow
  have : cntF F k = (F k).length := by unfold cntF; rw [if_pos hk]
  exact ⟨oa, cap, by rw [this], hb⟩
theorem freeLike_bud {w : World} {b n : Nat} {F T} (h : Bud w b n F T) (I : Bu.Inv n T F) : FreeLike w (.pointer (some ⟨b + 1, 0, none⟩)) (Bu.sumF F 11) := fun x hx =>
  free_inv (h.same fun i _ hi => hx.block i (by have := h.lt; omega)) I
theorem runsLike_nil (w : World) : RunsLike w (.pointer none) (fun _ => 0) := fun _ _ _ _ => by
  refine (runs_nil _ _).mono ?_
  rintro e w' ⟨rfl, rfl⟩
  exact ⟨none, 0, rfl, Below.refl _ _⟩
theorem freeLike_nil (w : World) : FreeLike w (.pointer none) 0 := fun _ _ => free_nil _
theorem rrunsLike {w : World} {B bb n p u : Nat} {tv F T} (h : Twin w B bb n p u tv F T) : RRunsLike w (.pointer (some ⟨p, 0, none⟩)) (cntF F) := fun x hx k hk => by
  refine ((h.below hx).rruns k hk).mono ?_
  rintro e w' ⟨v, rfl, hrow, hb⟩
  obtain ⟨oa, cap, rfl, _⟩ := own_shape hrow
  have : cntF F k = (F k).length := by unfold cntF; rw [if_pos hk]
  exact ⟨oa, cap, by rw [this], hb⟩
theorem rfreeLike {w : World} {B bb n p u : Nat} {tv F T} (h : Twin w B bb n p u tv F T) : RFreeLike w (.pointer (some ⟨p, 0, none⟩)) (Bu.sumF F 11) := fun _ hx => (h.below hx).free

set_option maxRecDepth 100000 in
set_option maxHeartbeats 1000000 in
theorem frags_any (w : World) : Calls Try.prog 44 #[] w fun e w' => e = .returned (.bool true) ∧ Below w.heap.size w w' := by
  have I0 := Bu.inv_new (n := 8) (N := 3) (by decide) rfl
  have I1 := I0.take_pick (o := 0) (k := 3) (a := 0) rfl
  have e1 : Bu.sumF (Bu.takeF (Bu.newF 8) 3 0 0) 11 = 7 := rfl
  have e2 : 1000 * fitF (cntF (Bu.takeF (Bu.newF 8) 3 0 0)) 0 2 / 7 = 428 := rfl
  have e3 : bestTo (cntF (Bu.takeF (Bu.newF 8) 3 0 0)) 11 = 2 := rfl
  have e4 : fitF (cntF (Bu.takeF (Bu.newF 8) 3 0 0)) 1 (11 - 1) = 3 := rfl
  have hfl := fitF_le I1 (o := 1) (by omega)
  have hf0 := fitF_le0 I1 (o := 2) (by omega)
  have E := Lib.hid (And.intro e1 (And.intro e2 (And.intro e3 (And.intro e4 (And.intro hfl hf0)))))
  clear e1 e2 e3 e4 hfl hf0
  go_enter Try.func44, Try.ntmps44
  go_wp2_with fail
  refine (new_ok 8 3 (by omega) rfl _).mono ?_
  rintro e w1 ⟨rfl, hB1, hb1⟩
  go_wp2_with fail
  refine (take_pick hB1 I0 0 (k := 3) (a := 0) rfl).mono ?_
  rintro e w2 ⟨rfl, hB2, hk2⟩
  have hb2 := hb1.trans (hk2.below (Nat.le_refl _) (hb1.size))
  generalize Bu.takeF (Bu.newF 8) 3 0 0 = G at *
  obtain ⟨e1, e2, e3, e4, hfl, hf0⟩ := E.out
  have hR := runsLike_bud hB2 I1
  have hF := freeLike_bud hB2 I1
  rw [e1] at hF
  have hix := index_any hR hF (by decide) (by decide) (cntF_le I1) 2 (by decide) hf0
  rw [e2] at hix
  have HIX := Lib.hid hix
  have HRL := Lib.hid hR
  clear hix hF hR e1 e2 hf0 hB2 hk2
  go_wp2_with fail
  refine HIX.out.mono ?_
  rintro e w3 ⟨rfl, hb3⟩
  have hlg := largest_any (HRL.out.below hb3) (cntF_le I1)
  rw [e3] at hlg
  have HLG := Lib.hid hlg
  have hb23 := hb2.trans (hb3.mono hb2.size)
  clear hlg e3
  go_wp2_with fail
  refine HLG.out.mono ?_
  rintro e w4 ⟨rfl, hb4⟩
  have hft := fits_any ((HRL.out.below hb3).below hb4) (cntF_le I1) 1 (by decide) hfl
  rw [e4] at hft
  have HFT := Lib.hid hft
  have hb24 := hb23.trans (hb4.mono hb23.size)
  clear hft e4
  go_wp2_with fail
  refine HFT.out.mono ?_
  rintro e w5 ⟨rfl, hb5⟩
  go_wp2_with fail
  go_ret
  exact ⟨rfl, hb24.trans (hb5.mono hb24.size)⟩

def BothPost (w : World) (n : Nat) (e : Ending) (w' : World) : Prop :=
  ∃ bb p u tv F T, e = .returned (.tuple #[.pointer (some ⟨bb + 1, 0, none⟩), .pointer (some ⟨p, 0, none⟩)]) ∧ Twin w' w.heap.size bb n p u tv F T ∧ Below w.heap.size w w'
def BothRel (w : World) (B bb n p u : Nat) (v : Value) (wr : World) : Prop :=
  ∃ (i : Nat) (tv : Value) (F : Nat → List Nat) (T : List (Nat × Nat)), v = .int .i64 (i : Int) ∧ i ≤ 40 ∧ Twin wr B bb n p u tv F T ∧ Below w.heap.size w wr

set_option maxRecDepth 100000 in
set_option maxHeartbeats 4000000 in
theorem both_any (n N : Nat) (hN : N ≤ 10) (hn : n = 2 ^ N) (a : Option Addr) (len cap : Nat) (z : Nat → Nat → Int) (w : World) (hz : RowsAtK w a len [false, true, true] z) (hmax : len ≤ 9223372036854775807) :
    Calls Try.prog 48 #[.int .i64 (n : Int), .slice a len cap] w (BothPost w n) := by
  have HZ := Lib.hid hz
  have HN := Lib.hid hn
  have hnl : n ≤ 1024 := by rw [hn]; exact pow1024 hN
  have hnp : 1 ≤ n := by rw [hn]; exact Bu.pos2 N
  clear hz hn
  go_enter Try.func48, Try.ntmps48
  go_wp2_with fail
  refine (new_ok n N hN HN.out _).mono ?_
  rintro e w2 ⟨rfl, hB2, hb2⟩
  go_wp2_with fail
  refine (rnew_ok n hnp hnl _).mono ?_
  rintro e w3 ⟨rfl, hR3, hb3, hs3⟩
  have hL2 := hB2.lt
  have hTw : Twin w3 w.heap.size w.heap.size n (w2.heap.size + 1) w2.heap.size (.slice none 0 0) (Bu.newF n) [] := by
    refine ⟨hB2.same fun i _ hi => hb3.block i (by omega), hR3, Bu.inv_new (N := N) hN HN.out, ⟨Nat.le_refl _, ?_⟩, ?_⟩
    · rintro i (rfl | rfl | hi)
      · omega
      · omega
      · simp [Value.ownBlock] at hi
    · rintro i (rfl | rfl | hi)
      · omega
      · omega
      · simp [Value.ownBlock] at hi
  have hb13 := hb2.trans (hb3.mono hb2.size)
  clear hR3 hB2 hs3 hb2 hb3
  generalize w2.heap.size + 1 = p at *
  generalize w2.heap.size = u at *
  generalize hbb : w.heap.size = bb at *
  have HBB := Lib.hid hbb
  clear hbb
  go_wp2_with fail
  go_loopw [9] (fun v wr => BothRel w bb bb n p u v wr) (fun v _ => len - (intOf v).toNat)
  case atStart => exact ⟨0, _, _, _, rfl, by omega, hTw, by rw [HBB.out]; exact hb13⟩
  case round =>
    clear hTw hb13
    obtain ⟨i, tv, F, T, rfl, hi, hT, hb⟩ := hrel
    by_cases e : i < len ∧ i < 40
    · obtain ⟨e1, e2⟩ := e
      have c1 : (i : Int) < (len : Int) := by omega
      have c2 : (i : Int) < 40 := by omega
      obtain ⟨b, off, rfl, hbl, hcell⟩ := HZ.out (by omega)
      have hc0 : wr.cell? ⟨b, off + i * 3, none⟩ = some (.bool (decide (z i 0 = 1))) := (hb.cell (p := ⟨b, off + i * 3, none⟩) hbl).trans (hcell i e1 0 (by simp)).1
      have hc1 : wr.cell? ⟨b, off + i * 3 + 1, none⟩ = some (.int .i64 (z i 1)) := (hb.cell (p := ⟨b, off + i * 3 + 1, none⟩) hbl).trans (hcell i e1 1 (by simp)).1
      have hc2 : wr.cell? ⟨b, off + i * 3 + 2, none⟩ = some (.int .i64 (z i 2)) := (hb.cell (p := ⟨b, off + i * 3 + 2, none⟩) hbl).trans (hcell i e1 2 (by simp)).1
      clear hcell
      obtain ⟨gv, hgv⟩ : ∃ gv, decide (z i 0 = 1) = gv := ⟨_, rfl⟩
      rw [hgv] at hc0
      clear hgv
      generalize z i 1 = z1 at *
      generalize z i 2 = z2 at *
      obtain ⟨oa, tcap, rfl, htcap, hsh⟩ := own_shape2 hT.ref.tak
      have hcp := hT.ref.c1
      have hg : (gv = true ∧ 0 < T.length) ∨ (gv = true ∧ ¬ 0 < T.length) ∨ (gv = false ∧ 0 ≤ i) := by
        cases gv
        · exact .inr (.inr ⟨rfl, Nat.zero_le _⟩)
        · by_cases h : 0 < T.length
          · exact .inl ⟨rfl, h⟩
          · exact .inr (.inl ⟨rfl, h⟩)
      rcases hg with ⟨rfl, hT0⟩ | hg
      · obtain ⟨gt, rfl, hgtl, hgt, hcells⟩ := hsh hT0
        have hTl := hT.inv.T_le
        obtain ⟨j, hj, hj1⟩ := u64mod' z2 (T.length : Int) (by omega)
        have hjT : j < T.length := by omega
        have hx0 := hcells (j * 2) (by omega)
        have hy0 := hcells (j * 2 + 1) (by omega)
        rw [(takCells_at T hjT).1] at hx0
        rw [(takCells_at T hjT).2] at hy0
        clear hcells
        have htk := hT.inv.taken _ (List.getElem_mem hjT)
        have hnl2 := hT.inv.n_le
        generalize (T[j]).1 = t1 at *
        generalize (T[j]).2 = t2 at *
        have ht1b : t1 ≤ 1024 := Nat.le_trans (Nat.le_add_right t1 (2 ^ t2)) (Nat.le_trans htk.2.2 hnl2)
        have ht2b := htk.1
        have hwl : IntKind.u64.wrap (T.length : Int) = (T.length : Int) := IntWalk.u64_in _ (by omega)
        have hwj : IntKind.i64.wrap (j : Int) = (j : Int) := IntWalk.i64_in _ (by omega)
        have ht0 : ((T.length : Int) == 0) = false := by rw [beq_eq_false_iff_ne]; omega
        have ht1 : (T.length : Int) ≠ 0 := by omega
        have hj0 : (0 : Int) ≤ (j : Int) := by omega
        have n1 := World.new_ne wr _ hcp
        have n2 := World.new_ne wr _ hc2
        have n3 := World.new_ne wr _ hx0
        have i0 : (0 : Int) ≤ (i : Int) := by omega
        have hTp : (0 : Int) < (T.length : Int) := by omega
        have hT00 : ¬ T.length = 0 := by omega
        generalize htl : T.length = tl at *
        have HTL := Lib.hid htl
        clear htl htk
        go_wp2_with fail
        go_region_held3 (fun w' => w'.cell? ⟨p, 1, none⟩ = some (.slice (some ⟨gt, 0, none⟩) tl tcap) ∧ w'.cell? ⟨b, off + i * 3 + 2, none⟩ = some (.int .i64 z2) ∧ w'.cell? ⟨gt, j * 2, none⟩ = some (.int .i64 (t1 : Int)) ∧ w'.cell? ⟨gt, j * 2 + 1, none⟩ = some (.int .i64 (t2 : Int))) (go_keep) (fail)
        obtain ⟨wb, hwb⟩ : ∃ wb, (wr.alloc (Obj.cells #[Value.int IntKind.i64 (t1 : Int), Value.int IntKind.i64 (t2 : Int)] 51)).drew = wb := ⟨_, rfl⟩
        obtain ⟨g2, hg2'⟩ : ∃ g2, wr.heap.size = g2 := ⟨_, rfl⟩
        have hbw : Below w.heap.size w wb := by rw [← hwb]; exact (hb.alloc hb.size _).trans (drewN_below _ 1 _)
        have hTb : Twin wb bb bb n p u (.slice (some ⟨gt, 0, none⟩) tl tcap) F T := by rw [← hwb]; exact (hT.below ((Below.refl _ _).alloc (Nat.le_refl _) _)).drewN 1
        have hblk : wb.heap[g2]? = some (Obj.cells #[Value.int IntKind.i64 (t1 : Int), Value.int IntKind.i64 (t2 : Int)] 51 (0, 0)) := by rw [← hwb, ← hg2']; exact heap_alloc_new wr _
        have hgl : g2 < wb.heap.size := (Array.getElem?_eq_some_iff.1 hblk).1
        have hgf : ¬ TFp bb p u (.slice (some ⟨gt, 0, none⟩) tl tcap) g2 := fun h => by have := (hT.fp h).2; omega
        have hgb : ¬ (bb ≤ g2 ∧ g2 < bb + 13) := fun h => hgf (.inl h)
        have hx1 : wb.cell? ⟨g2, 0, none⟩ = some (.int .i64 (t1 : Int)) := by simp [World.cell?, hblk]
        have hy1 : wb.cell? ⟨g2, 1, none⟩ = some (.int .i64 (t2 : Int)) := by simp [World.cell?, hblk]
        rw [hwb, hg2']
        obtain ⟨gg, hcall⟩ := twin_give hTb (t1 : Int) (t2 : Int) (wfI (by omega) (by omega))
        have CG := Lib.hid hcall
        clear hwb hg2' hT hb hblk hc0 hc1 hc2 hcp n1 n2 n3 hj hj0 hj1 hwl hwj hcall hx0 hy0
        go_wp2_with fail
        refine (CG.out 0).mono ?_
        rintro e w4 ⟨rfl, hk4, hd4⟩
        have HD4 := Lib.hid hd4
        have hx4 := (World.cell?_of_block (a := ⟨g2, 0, none⟩) (hk4.block g2 hgl hgb)).trans hx1
        have hy4 := (World.cell?_of_block (a := ⟨g2, 1, none⟩) (hk4.block g2 hgl hgb)).trans hy1
        clear hd4
        go_wp2_with fail
        refine (HD4.out 0).mono ?_
        rintro e w5 ⟨rfl, hA5⟩
        have hb5 := hbw.trans (hA5.below hTb (B := bb) hTb.lt |> fun h => (HBB.out ▸ h : Below w.heap.size wb w5))
        obtain ⟨-, tv5, F5, T5, hT5⟩ := hA5
        go_wp2_with fail
        go_roundw
        case rel => exact ⟨i + 1, _, _, _, by go_num, by omega, hT5, hb5⟩
        case measure => simp [intOf]; omega
      · have i0 : (0 : Int) ≤ (i : Int) := by omega
        obtain ⟨q, hq, hq1⟩ := u64mod' z1 5 (by decide)
        obtain ⟨x, gg, hcall⟩ := twin_take hT (q : Int)
        have CALL := Lib.hid hcall
        clear hcall hsh
        rcases hg with ⟨rfl, hT0⟩ | ⟨rfl, hT0⟩
        all_goals
          go_wp2_with fail
          refine CALL.out.mono ?_
          rintro e w4 ⟨rfl, hk4, hd4⟩
          have HD4 := Lib.hid hd4
          clear hd4
          go_wp2_with fail
          refine HD4.out.mono ?_
          rintro e w5 ⟨rfl, hA5⟩
          have hb5 := hb.trans (hA5.below hT (B := bb) hT.lt |> fun h => (HBB.out ▸ h : Below w.heap.size wr w5))
          obtain ⟨-, tv5, F5, T5, hT5⟩ := hA5
          go_wp2_with fail
          go_roundw
          case rel => exact ⟨i + 1, _, _, _, by go_num, by omega, hT5, hb5⟩
          case measure => simp [intOf]; omega
    · have hcase : (¬ (i : Int) < (len : Int)) ∨ ((i : Int) < (len : Int) ∧ ¬ (i : Int) < 40) := by omega
      clear e
      rcases hcase with c1 | ⟨c1, c2⟩
      all_goals
        go_wp2_with fail
        go_ret2
        exact ⟨bb, p, u, tv, F, T, rfl, by rw [HBB.out]; exact hT, hb⟩

end Go.Proofs.Ytikahcbkeempdaa
