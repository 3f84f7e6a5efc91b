/- The reference's heap: May. -/
import Derived.Test.YtikahcbkeempdaaRHeap0
namespace Go.Proofs.Ytikahcbkeempdaa
open Go.RowKit Go.Maps

theorem pick_up {F : Nat → List Nat} {k : Nat} (hk : k ≤ 10) : (Bu.pick F k).isSome = (decide (0 < (F k).length) || (Bu.pick F (k + 1)).isSome) := by
  have : 11 - k = (11 - (k + 1)) + 1 := by omega
  unfold Bu.pick
  rw [this]
  conv => lhs; unfold Bu.pickFrom
  cases F k <;> simp
theorem pick_top (F : Nat → List Nat) : (Bu.pick F 11).isSome = false := rfl

def RMRel (w : World) (F : Nat → List Nat) (o : Nat) (vk vh : Value) (wr : World) : Prop :=
  ∃ (k : Nat) (b : Bool), vk = .int .i64 (k : Int) ∧ vh = .bool b ∧ k ≤ 11 ∧ (Bu.pick F o).isSome = (b || (Bu.pick F k).isSome) ∧ Below w.heap.size w wr
def RMayPost (w : World) (b : Bool) (e : Ending) (w' : World) : Prop := e = .returned (.bool b) ∧ Below w.heap.size w w'

section
variable {w w' : World} {rp each c : Nat} {mn : Int} {rv : Value} {pp uu : Nat → Nat} {tt : Nat → Value} {T : Nat → List (Nat × Nat)} {F : Nat → Nat → List Nat}
theorem RHeap.runs (h : RHeap w rp each mn c rv pp uu tt T) (hI : ∀ j, j < c → Bu.Inv each (T j) (F j)) {i : Nat} (hi : i < c) (k : Nat) (hk : k ≤ 10) :
    Calls Try.prog 41 #[.pointer (some ⟨pp i, 0, none⟩), .int .i64 (k : Int)] w fun e w' => ∃ v, e = .returned v ∧ w'.ownsRow w.heap.size 3 1 v (F i k).length (intV (F i k)) ∧ Below w.heap.size w w' := by
  have := rruns_any (h.ref i hi) k hk (hI i hi).n_le
  rwa [runs_ref, ← (hI i hi).runs_eq hk] at this
theorem RHeap.free (h : RHeap w rp each mn c rv pp uu tt T) (hI : ∀ j, j < c → Bu.Inv each (T j) (F j)) {i : Nat} (hi : i < c) :
    Calls Try.prog 40 #[.pointer (some ⟨pp i, 0, none⟩)] w fun e w' => e = .returned (.int .i64 (Bu.sumF (F i) 11 : Int)) ∧ w = w' := by
  have := rFree_any (h.ref i hi) (hI i hi).n_le
  rwa [freeTo_inv (hI i hi)] at this

set_option maxHeartbeats 1000000 in
theorem rmay_no (h : RHeap w rp each mn c rv pp uu tt T) (n o : Int) (hn : n < 0 ∨ (c : Int) ≤ n) :
    Calls Try.prog 66 #[.pointer (some ⟨rp, 0, none⟩), .int .i64 n, .int .i64 o] w (RMayPost w false) := by
  have HN := Lib.hid (rnode_no h n hn)
  clear h hn
  go_enter Try.func66, Try.ntmps66
  go_wp2_with fail
  refine HN.out.mono ?_
  rintro e w1 ⟨rfl, rfl⟩
  go_wp2_with fail
  go_ret
  exact ⟨rfl, Below.refl _ _⟩

set_option maxHeartbeats 1000000 in
theorem rmay_order (h : RHeap w rp each mn c rv pp uu tt T) (i : Nat) (hi : i < c) (o : Int) (ho : o < 0 ∨ 10 < o) :
    Calls Try.prog 66 #[.pointer (some ⟨rp, 0, none⟩), .int .i64 (i : Int), .int .i64 o] w (RMayPost w false) := by
  have HN := Lib.hid (rnode_yes h i hi)
  clear h
  rcases ho with ho | ho
  · go_enter Try.func66, Try.ntmps66
    go_wp2_with fail
    refine HN.out.mono ?_
    rintro e w1 ⟨rfl, rfl⟩
    go_wp2_with fail
    go_ret
    exact ⟨rfl, Below.refl _ _⟩
  · have h0 : ¬ o < 0 := by omega
    go_enter Try.func66, Try.ntmps66
    go_wp2_with fail
    refine HN.out.mono ?_
    rintro e w1 ⟨rfl, rfl⟩
    go_wp2_with fail
    go_ret
    exact ⟨rfl, Below.refl _ _⟩

set_option maxRecDepth 100000 in
set_option maxHeartbeats 4000000 in
theorem rmay_yes (h : RHeap w rp each mn c rv pp uu tt T) (hI : ∀ j, j < c → Bu.Inv each (T j) (F j)) (i : Nat) (hi : i < c) (o : Nat) (ho : o ≤ 10) :
    Calls Try.prog 66 #[.pointer (some ⟨rp, 0, none⟩), .int .i64 (i : Int), .int .i64 (o : Int)] w (RMayPost w (mayF (F i) mn (o : Int))) := by
  have HN := Lib.hid (rnode_yes h i hi)
  have hs := (hI i hi).sum_le
  have HI := Lib.hid hI
  have H := Lib.hid h
  have o0 : ¬ (o : Int) < 0 := by omega
  have o10 : ¬ (10 : Int) < (o : Int) := by omega
  have hm : mayF (F i) mn (o : Int) = ((Bu.pick (F i) o).isSome && decide (mn ≤ (Bu.sumF (F i) 11 : Int) - 2 ^ o)) := by
    unfold mayF
    rw [Int.toNat_natCast, decide_eq_true (by omega), Bool.true_and]
  rw [hm]
  clear h hI hm
  go_enter Try.func66, Try.ntmps66
  go_wp2_with fail
  refine HN.out.mono ?_
  rintro e w1 ⟨rfl, rfl⟩
  go_wp2_with fail
  go_loopw [8, 7] (fun vk vh wr => RMRel w (F i) o vk vh wr) (fun vk _ _ => 11 - (intOf vk).toNat)
  case atStart => exact ⟨o, false, rfl, rfl, by omega, by simp, Below.refl _ _⟩
  case round =>
    obtain ⟨k, b, rfl, rfl, hk, hb0, hb⟩ := hrel
    have hH := H.out.below hb
    have h2 := hH.c2
    obtain ⟨g, cap, rfl, hp⟩ := hH.ptr hi
    have c0 : (0 : Int) ≤ (i : Int) := by omega
    have c1 : (i : Int) < (c : Int) := by omega
    by_cases e : k ≤ 10
    · have ck : (k : Int) ≤ 10 := by omega
      have hup := pick_up (F := F i) e
      cases b with
      | true =>
        have HB0 := Lib.hid hb0
        clear hb0 hup
        go_wp2_with fail
        go_roundw
        case rel => exact ⟨k + 1, true, by go_num, rfl, by omega, by rw [HB0.out]; simp, hb⟩
        case measure => simp [intOf]; omega
      | false =>
        have HR := Lib.hid (hH.runs HI.out hi k e)
        have HB0 := Lib.hid hb0
        have HUP := Lib.hid hup
        clear hb0 hup
        go_wp2_with fail
        refine HR.out.mono ?_
        rintro e w3 ⟨v, rfl, hrow, hb3⟩
        obtain ⟨oa, cap3, rfl, _⟩ := own_shape hrow
        have hb4 := hb.trans (hb3.mono hb.size)
        clear hrow
        go_wp2_with fail
        go_roundw
        case rel => exact ⟨k + 1, decide (0 < (F i k).length), by go_num, by first | rfl | simp, by omega, by rw [HB0.out, Bool.false_or]; exact HUP.out, hb4⟩
        case measure => simp [intOf]; omega
    · obtain rfl : k = 11 := by omega
      rw [pick_top, Bool.or_false] at hb0
      have h1 := hH.c1
      cases b with
      | false =>
        have HB0 := Lib.hid hb0
        clear hb0
        go_wp2_with fail
        go_quiet (fail)
        go_wp2_with fail
        go_ret
        exact ⟨by rw [HB0.out]; rfl, hb.trans (drewN_below _ _ _)⟩
      | true =>
        have HB0 := Lib.hid hb0
        clear hb0
        have HF := Lib.hid (fun m => (hH.drewN m).free HI.out hi)
        have hp := powI (k := o) (by omega)
        have w1 : IntKind.i64.wrap ((2 : Int) ^ o) = (2 : Int) ^ o := IntWalk.i64_in _ (by omega)
        obtain ⟨sf, hsf⟩ : ∃ sf, Bu.sumF (F i) 11 = sf := ⟨_, rfl⟩
        rw [hsf] at HF hs
        have HSF := Lib.hid hsf
        have w2 : IntKind.i64.wrap ((sf : Int) - (2 : Int) ^ o) = (sf : Int) - (2 : Int) ^ o := IntWalk.i64_in _ (by omega)
        clear hsf hp
        go_wp2_with fail
        go_quiet ((go_at_call 40; exact quiet_left (HF.out _)))
        go_wp2_with fail
        go_ret
        exact ⟨by rw [HB0.out, Bool.true_and, HSF.out]; rfl, hb.trans (drewN_below _ _ _)⟩
end
end Go.Proofs.Ytikahcbkeempdaa
