/- The law HeapMarks: the walk. -/
import Derived.Test.YtikahcbkeempdaaHeap7
namespace Go.Proofs.Ytikahcbkeempdaa
open Go.RowKit Go.Maps

def hmF (at_ : Nat) (Fa : Nat → List Nat) (j : Nat) : Nat → List Nat := if j = at_ then Fa else Bu.newF 8
def hmT (at_ i : Nat) (j : Nat) : List (Nat × Nat) := if j = at_ then Bu.lowT i 0 else []
def HMRel (w : World) (hp k c : Nat) (nv : Value) (bb : Nat → Nat) (at_ : Nat) (v : Value) (wr : World) : Prop :=
  ∃ (i : Nat) (Fa : Nat → List Nat), v = .int .i64 (i : Int) ∧ i + k ≤ 8 ∧ HeapAt wr hp 8 k k 8 c nv bb (hmF at_ Fa) (hmT at_ i) ∧ Below w.heap.size w wr
def HMRel2 (w : World) (hp k c : Nat) (nv : Value) (bb : Nat → Nat) (at_ : Nat) (Fa : Nat → List Nat) (i : Nat) (v : Value) (wr : World) : Prop :=
  ∃ j : Nat, v = .int .i64 (j : Int) ∧ j ≤ c ∧ HeapAt wr hp 8 k k 8 c nv bb (hmF at_ Fa) (hmT at_ i) ∧ Below w.heap.size w wr

theorem mayF_new8 (k : Nat) (hk : k ≤ 8) : mayF (Bu.newF 8) (k : Int) ((0 : Nat) : Int) = decide (k < 8) := by
  have h1 : Bu.pick (Bu.newF 8) 0 = some (3, 0) := rfl
  have h2 : Bu.sumF (Bu.newF 8) 11 = 8 := rfl
  unfold mayF
  rw [Int.toNat_natCast, h1, h2]
  by_cases e : k < 8
  · simp [e]; omega
  · simp [e]; omega
theorem mayF_low {k i : Nat} {Fa : Nat → List Nat} (I : Bu.Inv 8 (Bu.lowT i 0) Fa) (hi : i + k ≤ 8) : mayF Fa (k : Int) ((0 : Nat) : Int) = decide (i + k < 8) := by
  have hs := I.sum
  rw [Bu.lowT_sum] at hs
  unfold mayF
  rw [Int.toNat_natCast]
  by_cases e : i + k < 8
  · obtain ⟨kk, hp⟩ := Bu.low_pick I (by simp; omega) (by omega)
    rw [hp]
    simp [e]
    omega
  · have : ¬ ((k : Int) ≤ (Bu.sumF Fa 11 : Int) - 2 ^ 0) := by simp; omega
    simp only [this, decide_false, Bool.and_false]
    simp [e]

set_option maxRecDepth 100000 in
set_option maxHeartbeats 4000000 in
theorem heapMarks_walk (a0 a1 a2 : Int) (w : World) :
    Calls Try.prog 13 #[.int .i64 a0, .int .i64 a1, .int .i64 a2] w fun e w' => e = .returned (.bool true) ∧ Below w.heap.size w w' := by
  obtain ⟨q0, hq0, hq1⟩ := u64mod' a0 4 (by decide)
  obtain ⟨k, hk, hk1⟩ := u64mod' a1 9 (by decide)
  obtain ⟨c, hc⟩ : ∃ c : Nat, (1 : Int) + (q0 : Int) = (c : Int) := ⟨1 + q0, by omega⟩
  have hm : IntKind.u64.wrap (c : Int) = (c : Int) := by simp [IntKind.wrap, IntKind.bits, IntKind.signed]; omega
  obtain ⟨at_, ha, ha1⟩ := u64mod' a2 (c : Int) (by omega)
  have hne : ((c : Int) == 0) = false := by rw [beq_eq_false_iff_ne]; omega
  have hne' : ¬ (c : Int) = 0 := by omega
  have hcl : 1 ≤ c ∧ c ≤ 4 := by omega
  obtain ⟨hc1, hc4⟩ := hcl
  go_enter Try.func13, Try.ntmps13
  go_wp2_with fail
  refine (hnew_any c 8 3 k k 8 _ hc1 (by omega) (by omega) rfl).mono ?_
  rintro e w1 hpost
  obtain ⟨hp, nv, bb, rfl, hH1, hS, hb1⟩ := hpost.ok ⟨by omega, by omega, by omega, by omega⟩
  have HS := Lib.hid hS
  have H1 := Lib.hid (hH1.congr (F' := hmF at_ (Bu.newF 8)) (T' := hmT at_ 0) (fun j _ => by unfold hmF; split <;> rfl) (fun j _ => by unfold hmT; split <;> rfl))
  clear hpost hH1 hS hq0 hk hc ha hm hne hne'
  go_wp2_with fail
  refine (heaps_any _).mono ?_
  rintro e w2 ⟨rfl, hb2⟩
  have H2 := Lib.hid (H1.out.below hb2)
  have hb12 := hb1.trans (hb2.mono hb1.size)
  clear H1 hb1 hb2
  go_wp2_with fail
  go_loopw [12] (fun v wr => HMRel w hp k c nv bb at_ v wr) (fun v _ => 9 - (intOf v).toNat)
  case atStart => exact ⟨0, Bu.newF 8, rfl, by omega, H2.out, hb12⟩
  case round =>
    clear hb12
    obtain ⟨i, Fa, rfl, hi, hH, hb⟩ := hrel
    have HH := Lib.hid hH
    have hI : Bu.Inv 8 (Bu.lowT i 0) Fa := by
      have := hH.inv at_ (by omega)
      unfold hmF hmT at this
      rwa [if_pos rfl, if_pos rfl] at this
    have hml := mayF_low hI hi
    have hFa : hmF at_ Fa at_ = Fa := by unfold hmF; rw [if_pos rfl]
    have hTa : hmT at_ i at_ = Bu.lowT i 0 := by unfold hmT; rw [if_pos rfl]
    have y1 := may_yes hH at_ (by omega) ((0 : Nat) : Int)
    rw [hFa] at y1
    by_cases e : i + k < 8
    · have ci : (i : Int) < 8 - (k : Int) := by omega
      rw [decide_eq_true e] at hml
      rw [hml] at y1
      have Y1 := Lib.hid y1
      have HM := Lib.hid hml
      have HI := Lib.hid hI
      clear y1 hml hH hI hFa hTa H2
      go_wp2_with fail
      refine Y1.out.mono ?_
      rintro e w3 ⟨rfl, k3, hw3⟩
      have hH3 : HeapAt w3 hp 8 k k 8 c nv bb (hmF at_ Fa) (hmT at_ i) := by rw [hw3]; exact HH.out.drewN k3
      have hb3 : Below w.heap.size w w3 := by rw [hw3]; exact hb.trans (drewN_below _ _ _)
      obtain ⟨kk, hpk⟩ := Bu.low_pick HI.out (i := i) (o := 0) (by simp; omega) (by omega)
      have hI' := HI.out.take_pick hpk
      have ht := htake_ok hH3 (by omega) at_ (by omega) 0 (by omega) (by unfold hmF; rw [if_pos rfl]; exact HM.out) (kk := kk) (x := i * 2 ^ 0) (by unfold hmF; rw [if_pos rfl]; exact hpk)
      have hx : i * 2 ^ 0 = i := by simp
      rw [hx] at ht hI'
      obtain ⟨f, hf⟩ : ∃ f, at_ * 8 + i = f := ⟨_, rfl⟩
      unfold HTakePost at ht
      rw [hf] at ht
      have hq1 : (f : Int).tdiv 8 = (at_ : Int) := by rw [Int.tdiv_eq_ediv_of_nonneg (by omega)]; omega
      have hq2 : (f : Int) / 8 = (at_ : Int) := by omega
      have HT := Lib.hid ht
      have HI' := Lib.hid hI'
      clear ht hI' hx hpk hH3 hw3 Y1 hb hf
      go_wp2_with fail
      refine HT.out.mono ?_
      rintro e w4 ⟨rfl, hk4, hH4⟩
      have H4 := Lib.hid hH4
      have hb4 := hb3.trans (hk4.below (HS.out.bb at_ (by omega)).1 hb3.size)
      clear hH4 hk4 hb3
      go_wp2_with fail
      go_roundw
      case rel =>
        refine ⟨i + 1, Bu.takeF Fa kk 0 i, by go_num, by omega, H4.out.congr (fun j _ => ?_) (fun j _ => ?_), hb4⟩
        · unfold hmF
          by_cases ej : j = at_
          · rw [if_pos ej, if_pos ej, if_pos rfl]
          · rw [if_neg ej, if_neg ej, if_neg ej]
        · unfold hmT
          by_cases ej : j = at_
          · rw [if_pos ej, if_pos ej, if_pos rfl, Bu.lowT_succ]; simp
          · rw [if_neg ej, if_neg ej, if_neg ej]
      case measure => simp [intOf]; omega
    · have ci : ¬ (i : Int) < 8 - (k : Int) := by omega
      rw [decide_eq_false e] at hml
      have ht := htake_nomem hH at_ (by omega) 0 (by omega) (by rw [hFa]; exact hml)
      have HT := Lib.hid ht
      have HM := Lib.hid hml
      have hs := hI.sum
      rw [Bu.lowT_sum] at hs
      have hsk := Lib.hid (show Bu.sumF Fa 11 = k by simp at hs; omega)
      clear ht hml hs hH hI hFa hTa y1 H2
      go_wp2_with fail
      refine HT.out.mono ?_
      rintro e w3 ⟨rfl, k3, hw3⟩
      have H3 : HeapAt w3 hp 8 k k 8 c nv bb (hmF at_ Fa) (hmT at_ i) := by rw [hw3]; exact HH.out.drewN k3
      have H3 := Lib.hid H3
      have hb3 : Below w.heap.size w w3 := by rw [hw3]; exact hb.trans (drewN_below _ _ _)
      clear hw3 HH hb
      go_wp2_with fail
      go_loopw [17] (fun v wr => HMRel2 w hp k c nv bb at_ Fa i v wr) (fun v _ => c - (intOf v).toNat)
      case atStart => exact ⟨0, rfl, by omega, H3.out, hb3⟩
      case round =>
        clear hb3
        obtain ⟨j, rfl, hj, hH, hb⟩ := hrel
        have HH := Lib.hid hH
        by_cases ej : j < c
        · have cj : (j : Int) < (c : Int) := by omega
          have hfr := hfree_yes hH j ej
          have y1 := may_yes hH j ej ((0 : Nat) : Int)
          by_cases ea : j = at_
          · have hFj : hmF at_ Fa j = Fa := by unfold hmF; rw [if_pos ea]
            rw [hFj, hsk.out] at hfr
            rw [hFj, HM.out] at y1
            have hcja : ((j : Int) == (at_ : Int)) = true := by simp [ea]
            have hcjb : ((j : Int) != (at_ : Int)) = false := by simp [ea]
            have hcja' : (j == at_) = true := by simp [ea]
            have hcjb' : (j != at_) = false := by simp [ea]
            have HF := Lib.hid hfr
            have Y1 := Lib.hid y1
            clear hfr y1 hFj ea hH
            go_wp2_with fail
            refine HF.out.mono ?_
            rintro e w4 ⟨rfl, rfl⟩
            go_wp2_with fail
            refine Y1.out.mono ?_
            rintro e w5 ⟨rfl, k5, hw5⟩
            have H5 : HeapAt w5 hp 8 k k 8 c nv bb (hmF at_ Fa) (hmT at_ i) := by rw [hw5]; exact HH.out.drewN k5
            have H5 := Lib.hid H5
            have hb5 : Below w.heap.size w w5 := by rw [hw5]; exact hb.trans (drewN_below _ _ _)
            clear hw5 HH hb
            go_wp2_with fail
            go_roundw
            case rel => exact ⟨j + 1, by go_num, by omega, H5.out, hb5⟩
            case measure => simp [intOf]; omega
          · have hFj : hmF at_ Fa j = Bu.newF 8 := by unfold hmF; rw [if_neg ea]
            rw [hFj, show Bu.sumF (Bu.newF 8) 11 = 8 from rfl] at hfr
            rw [hFj, mayF_new8 k (by omega)] at y1
            have hcja : ((j : Int) == (at_ : Int)) = false := by rw [beq_eq_false_iff_ne]; omega
            have hcjb : ((j : Int) != (at_ : Int)) = true := by simp; omega
            have HF := Lib.hid hfr
            have HFn : ¬ (j : Int) = (at_ : Int) := by omega
            by_cases e8 : k < 8
            · have c8 : (k : Int) < 8 := by omega
              rw [decide_eq_true e8] at y1
              have Y1 := Lib.hid y1
              clear hfr y1 hFj hH
              go_wp2_with fail
              refine HF.out.mono ?_
              rintro e w4 ⟨rfl, rfl⟩
              go_wp2_with fail
              refine Y1.out.mono ?_
              rintro e w5 ⟨rfl, k5, hw5⟩
              have H5 : HeapAt w5 hp 8 k k 8 c nv bb (hmF at_ Fa) (hmT at_ i) := by rw [hw5]; exact HH.out.drewN k5
              have H5 := Lib.hid H5
              have hb5 : Below w.heap.size w w5 := by rw [hw5]; exact hb.trans (drewN_below _ _ _)
              clear hw5 HH hb
              go_wp2_with fail
              go_roundw
              case rel => exact ⟨j + 1, by go_num, by omega, H5.out, hb5⟩
              case measure => simp [intOf]; omega
            · have c8 : ¬ (k : Int) < 8 := by omega
              rw [decide_eq_false e8] at y1
              have Y1 := Lib.hid y1
              clear hfr y1 hFj hH
              go_wp2_with fail
              refine HF.out.mono ?_
              rintro e w4 ⟨rfl, rfl⟩
              go_wp2_with fail
              refine Y1.out.mono ?_
              rintro e w5 ⟨rfl, k5, hw5⟩
              have H5 : HeapAt w5 hp 8 k k 8 c nv bb (hmF at_ Fa) (hmT at_ i) := by rw [hw5]; exact HH.out.drewN k5
              have H5 := Lib.hid H5
              have hb5 : Below w.heap.size w w5 := by rw [hw5]; exact hb.trans (drewN_below _ _ _)
              clear hw5 HH hb
              go_wp2_with fail
              go_roundw
              case rel => exact ⟨j + 1, by go_num, by omega, H5.out, hb5⟩
              case measure => simp [intOf]; omega
        · have cj : ¬ (j : Int) < (c : Int) := by omega
          go_wp2_with fail
          go_ret
          exact ⟨rfl, hb⟩

end Go.Proofs.Ytikahcbkeempdaa
