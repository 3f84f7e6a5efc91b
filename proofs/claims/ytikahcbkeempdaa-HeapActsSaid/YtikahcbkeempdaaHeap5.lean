/- heap: All, Whole, Marks walked. -/
import Derived.Test.YtikahcbkeempdaaHeap4
namespace Go.Proofs.Ytikahcbkeempdaa
open Go.RowKit Go.Maps

def AllRel (w : World) (F : Nat → Nat → List Nat) (mn o : Int) (c : Nat) (vi v : Value) (wr : World) : Prop :=
  ∃ i : Nat, vi = .int .i64 (i : Int) ∧ i ≤ c ∧ wr.ownsRow w.heap.size 4 1 v i ((List.range i).map fun j => .bool (mayF (F j) mn o)) ∧ Below w.heap.size w wr

set_option maxHeartbeats 400000 in
theorem hall_nil (o : Int) (w : World) : Calls Try.prog 59 #[.pointer none, .int .i64 o] w fun e w' => e = .returned (.slice none 0 0) ∧ w = w' := by
  go_enter Try.func59, Try.ntmps59
  go_wp2_with fail
  go_ret
  exact ⟨rfl, rfl⟩

def HAllPost (w : World) (F : Nat → Nat → List Nat) (mn o : Int) (c : Nat) (e : Ending) (w' : World) : Prop :=
  ∃ v, e = .returned v ∧ w'.ownsRow w.heap.size 4 1 v c ((List.range c).map fun j => .bool (mayF (F j) mn o)) ∧ Below w.heap.size w w'

section
variable {w : World} {hp each c : Nat} {mn lo hi : Int} {nv : Value} {bb : Nat → Nat} {F : Nat → Nat → List Nat} {T : Nat → List (Nat × Nat)}

set_option maxRecDepth 100000 in
set_option maxHeartbeats 1000000 in
theorem hall_any (h : HeapAt w hp each mn lo hi c nv bb F T) (hc : c ≤ 8) (o : Int) :
    Calls Try.prog 59 #[.pointer (some ⟨hp, 0, none⟩), .int .i64 o] w (HAllPost w F mn o c) := by
  obtain ⟨i0, hi0, hz0, hz1, hz2⟩ := info_parts infoB
  have h4 := h.c4
  obtain ⟨oa, cap, rfl, _⟩ := h.shape
  have H := Lib.hid h
  clear h
  go_enter Try.func59, Try.ntmps59
  go_wp2_with fail
  go_loopw [14, 5] (fun vi v wr => AllRel w F mn o c vi v wr) (fun vi _ _ => c - (intOf vi).toNat)
  case atStart => exact ⟨0, rfl, Nat.zero_le _, World.ownsRow_nil _ _ _ _, Below.refl _ _⟩
  case round =>
    obtain ⟨i, rfl, hi', hrow, hb⟩ := hrel
    by_cases e : i < c
    · have ci : (i : Int) < (c : Int) := by omega
      have HM := Lib.hid (may_yes (H.out.below hb) i e o)
      obtain ⟨bv, hbv⟩ : ∃ bv, mayF (F i) mn o = bv := ⟨_, rfl⟩
      rw [hbv] at HM
      have HBV := Lib.hid hbv
      clear hbv h4
      go_wp2_with fail
      refine HM.out.mono ?_
      rintro e w2 ⟨rfl, m, hw2⟩
      have hrow2 : w2.ownsRow w.heap.size 4 1 u5 i ((List.range i).map fun j => .bool (mayF (F j) mn o)) := by rw [hw2]; exact ownsRow_same hrow fun _ _ => rfl
      have hb2 : Below w.heap.size w w2 := by rw [hw2]; exact hb.trans (drewN_below _ _ _)
      clear hw2 hrow hb
      go_wp2_with (first
        | (at_builtin; refine wpList_append_own _ rfl _ _ 49 rfl w.heap.size 4 i0 (.bool false) 1 1 Try.underlying49 hi0 hz0 hz1 hz2 rfl (by decide) _ _ _ rfl (hrow2.alloc _) ⟨w2.heap.size, 0, none⟩ 1 1 [.bool bv] rfl rfl (cell_one_new _ _ _) (by simp [Value.oneCell']) (by unfold maxLen; omega) (by omega) (by have := hb2.size; simp; omega) ?_; intro v' w3 hown' hg3 hnil3; go_frame))
      go_roundw
      case rel =>
        refine ⟨i + 1, by go_num, by omega, ?_, (hb2.alloc hb2.size _).grown hg3 (by have := hb2.size; simp; omega) (fun j hj => (hrow2.lt j hj).1)⟩
        rw [List.range_succ, List.map_append, List.map_singleton, HBV.out]
        exact hown'
      case measure => simp [intOf]; omega
    · have ci : ¬ (i : Int) < (c : Int) := by omega
      obtain rfl : i = c := by omega
      go_wp2_with fail
      go_ret
      exact ⟨_, rfl, hrow, hb⟩

def WholeRel (w : World) (F : Nat → Nat → List Nat) (each c : Nat) (vi : Value) (wr : World) : Prop :=
  ∃ i m : Nat, vi = .int .i64 (i : Int) ∧ i ≤ c ∧ (∀ j, j < i → Bu.sumF (F j) 11 = each) ∧ wr = w.drewN m
def wholeH (F : Nat → Nat → List Nat) (each c : Nat) : Bool := (List.range c).all fun j => decide (Bu.sumF (F j) 11 = each)
theorem wholeH_true {F : Nat → Nat → List Nat} {each c : Nat} (h : ∀ j, j < c → Bu.sumF (F j) 11 = each) : wholeH F each c = true := by
  unfold wholeH
  rw [List.all_eq_true]
  exact fun j hj => by simpa using h j (List.mem_range.1 hj)
theorem wholeH_false {F : Nat → Nat → List Nat} {each c i : Nat} (hi : i < c) (h : ¬ Bu.sumF (F i) 11 = each) : wholeH F each c = false := by
  unfold wholeH
  rw [List.all_eq_false]
  exact ⟨i, List.mem_range.2 hi, by simpa using h⟩

def HWholePost (w : World) (F : Nat → Nat → List Nat) (each c : Nat) (e : Ending) (w' : World) : Prop :=
  e = .returned (.bool (wholeH F each c)) ∧ ∃ m, w' = w.drewN m

set_option maxRecDepth 100000 in
set_option maxHeartbeats 1000000 in
theorem hwhole_any (h : HeapAt w hp each mn lo hi c nv bb F T) (hc : c ≤ 8) :
    Calls Try.prog 57 #[.pointer (some ⟨hp, 0, none⟩)] w (HWholePost w F each c) := by
  have h0 := h.c0
  have h4 := h.c4
  obtain ⟨oa, cap, rfl, hsh⟩ := h.shape
  have H := Lib.hid h
  clear h hsh
  go_enter Try.func57, Try.ntmps57
  go_wp2_with fail
  go_loopw [12] (fun vi wr => WholeRel w F each c vi wr) (fun vi _ => c - (intOf vi).toNat)
  case atStart => exact ⟨0, 0, rfl, Nat.zero_le _, (fun j hj => absurd hj (by omega)), rfl⟩
  case round =>
    obtain ⟨i, m, rfl, hi', hall, hwr⟩ := hrel
    have HA := Lib.hid hall
    have HR : HeapAt wr hp each mn lo hi c (.slice oa c cap) bb F T := by rw [hwr]; exact H.out.drewN m
    have h0 := HR.c0
    have hsh := HR.shape
    have HW := Lib.hid hwr
    have H := Lib.hid HR
    clear hall hwr HR
    by_cases e : i < c
    · have ci : (i : Int) < (c : Int) := by omega
      have c0 : (0 : Int) ≤ (i : Int) := by omega
      obtain ⟨oa', cap', hv, hsh⟩ := hsh
      obtain ⟨rfl, rfl⟩ : oa = oa' ∧ cap = cap' := by cases hv; exact ⟨rfl, rfl⟩
      obtain ⟨g, rfl, _, _, hcl⟩ := hsh (by omega)
      have hci := hcl i e
      clear hv
      have HF := Lib.hid (fun k => free_inv ((H.out.bud i e).drewN k) (H.out.inv i e))
      have hs := (H.out.inv i e).sum_le
      obtain ⟨sf, hsf⟩ : ∃ sf, Bu.sumF (F i) 11 = sf := ⟨_, rfl⟩
      rw [hsf] at HF hs
      have HSF := Lib.hid hsf
      clear hcl hsf
      by_cases es : sf = each
      · have hd : ((sf : Int) != (each : Int)) = false := by rw [es]; simp
        have ES := Lib.hid es
        clear es
        go_wp2_with fail
        go_quiet ((go_at_call 31; exact quiet_left (HF.out _)))
        go_wp2_with fail
        go_roundw
        case rel =>
          refine ⟨i + 1, m + nq, by go_num, by omega, fun j hj => ?_, by rw [HW.out, World.drewN_drewN]⟩
          by_cases ej : j = i
          · rw [ej, HSF.out, ES.out]
          · exact HA.out j (by omega)
        case measure => simp [intOf]; omega
      · have hd : ((sf : Int) != (each : Int)) = true := by simp; omega
        have ES := Lib.hid es
        clear es
        go_wp2_with fail
        go_quiet ((go_at_call 31; exact quiet_left (HF.out _)))
        go_wp2_with fail
        go_ret
        exact ⟨by rw [wholeH_false e (by rw [HSF.out]; exact ES.out)]; rfl, m + nq, by rw [HW.out, World.drewN_drewN]⟩
    · have ci : ¬ (i : Int) < (c : Int) := by omega
      go_wp2_with fail
      go_ret
      exact ⟨by rw [wholeH_true (each := each) (fun j hj => HA.out j (by omega))]; rfl, m, HW.out⟩

set_option maxHeartbeats 400000 in
theorem hwhole_nil (w : World) : Calls Try.prog 57 #[.pointer none] w fun e w' => e = .returned (.bool false) ∧ w = w' := by
  go_enter Try.func57, Try.ntmps57
  go_wp2_with fail
  go_ret
  exact ⟨rfl, rfl⟩

set_option maxHeartbeats 400000 in
theorem hmarks_nil (w : World) : Calls Try.prog 62 #[.pointer none] w fun e w' => e = .returned (.agg #[.int .i64 0, .int .i64 0, .int .i64 0]) ∧ Below w.heap.size w w' := by
  go_enter Try.func62, Try.ntmps62
  go_wp2_with fail
  refine bodyPost_ret (v := .agg #[.int .i64 0, .int .i64 0, .int .i64 0]) (by simp [results, Try.results62, go_sem]) rfl ⟨rfl, ?_⟩
  first | exact (Below.refl _ _).alloc (Nat.le_refl _) _ | exact ((Below.refl _ _).alloc (Nat.le_refl _) _).setCell (Nat.le_refl _) _

set_option maxHeartbeats 400000 in
theorem hmarks_any (h : HeapAt w hp each mn lo hi c nv bb F T) : Calls Try.prog 62 #[.pointer (some ⟨hp, 0, none⟩)] w fun e w' => e = .returned (.agg #[.int .i64 mn, .int .i64 lo, .int .i64 hi]) ∧ Below w.heap.size w w' := by
  have h1 := h.c1
  have h2 := h.c2
  have h3 := h.c3
  have hl := h.lt
  have k1 : ∀ o, (w.alloc o).cell? ⟨hp, 1, none⟩ = some (.int .i64 mn) := fun o => (World.cell?_alloc_lt (w := w) (a := ⟨hp, 1, none⟩) o hl).trans h1
  have k2 : ∀ o, (w.alloc o).cell? ⟨hp, 2, none⟩ = some (.int .i64 lo) := fun o => (World.cell?_alloc_lt (w := w) (a := ⟨hp, 2, none⟩) o hl).trans h2
  have k3 : ∀ o, (w.alloc o).cell? ⟨hp, 3, none⟩ = some (.int .i64 hi) := fun o => (World.cell?_alloc_lt (w := w) (a := ⟨hp, 3, none⟩) o hl).trans h3
  clear h
  go_enter Try.func62, Try.ntmps62
  go_wp2_with fail
  refine bodyPost_ret (v := .agg #[.int .i64 mn, .int .i64 lo, .int .i64 hi]) (by simp [results, Try.results62, go_sem]) rfl ⟨rfl, ?_⟩
  exact (Below.refl _ _).alloc (Nat.le_refl _) _
end

end Go.Proofs.Ytikahcbkeempdaa
