/- heap: May, Free, Marks, Poor, Rich walked. -/
import Derived.Test.YtikahcbkeempdaaHeap0
import Derived.Deep.QuietTactic
import Derived.BigQuiet
namespace Go.Proofs.Ytikahcbkeempdaa
open Go.RowKit Go.Maps

def mayF (F : Nat → List Nat) (mn o : Int) : Bool := decide (0 ≤ o ∧ o ≤ 10) && (Bu.pick F o.toNat).isSome && decide (mn ≤ (Bu.sumF F 11 : Int) - 2 ^ o.toNat)
def mayH (c : Nat) (F : Nat → Nat → List Nat) (mn n o : Int) : Bool := decide (0 ≤ n ∧ n < c) && mayF (F n.toNat) mn o

theorem hasF_any {w : World} {b n : Nat} {F T} (hB : Bud w b n F T) (o : Int) :
    Calls Try.prog 32 #[.pointer (some ⟨b + 1, 0, none⟩), .int .i64 o] w fun e w' => e = .returned (.bool (decide (0 ≤ o ∧ o ≤ 10) && (Bu.pick F o.toNat).isSome)) ∧ w = w' := by
  by_cases h : 0 ≤ o ∧ o ≤ 10
  · obtain ⟨k, rfl⟩ : ∃ k : Nat, o = (k : Int) := ⟨o.toNat, by omega⟩
    have := has_pick hB k (by omega)
    rw [decide_eq_true h, Bool.true_and, Int.toNat_natCast]
    exact this
  · have := has_no ⟨b + 1, 0, none⟩ o w (by omega)
    rw [decide_eq_false h, Bool.false_and]
    exact this

def MayPost (w : World) (b : Bool) (e : Ending) (w' : World) : Prop := e = .returned (.bool b) ∧ ∃ m, w' = w.drewN m

set_option maxHeartbeats 1000000 in
theorem may_nil (n o : Int) (w : World) : Calls Try.prog 53 #[.pointer none, .int .i64 n, .int .i64 o] w (MayPost w false) := by
  go_enter Try.func53, Try.ntmps53
  go_wp2_with fail
  refine (node_nil n _).mono ?_
  rintro e w1 ⟨rfl, rfl⟩
  go_wp2_with fail
  go_quiet ((go_at_call 32; exact quiet_left (has_nil _ _)))
  go_wp2_with fail
  go_ret
  exact ⟨rfl, _, rfl⟩

set_option maxHeartbeats 1000000 in
theorem may_no {w : World} {hp each c : Nat} {mn lo hi : Int} {nv : Value} {bb : Nat → Nat} {F T} (h : HeapAt w hp each mn lo hi c nv bb F T) (n o : Int) (hn : n < 0 ∨ (c : Int) ≤ n) :
    Calls Try.prog 53 #[.pointer (some ⟨hp, 0, none⟩), .int .i64 n, .int .i64 o] w (MayPost w false) := by
  have HN := Lib.hid (node_no h n hn)
  clear h hn
  go_enter Try.func53, Try.ntmps53
  go_wp2_with fail
  refine HN.out.mono ?_
  rintro e w1 ⟨rfl, rfl⟩
  go_wp2_with fail
  go_quiet ((go_at_call 32; exact quiet_left (has_nil _ _)))
  go_wp2_with fail
  go_ret
  exact ⟨rfl, _, rfl⟩

set_option maxHeartbeats 1000000 in
theorem may_yes {w : World} {hp each c : Nat} {mn lo hi : Int} {nv : Value} {bb : Nat → Nat} {F T} (h : HeapAt w hp each mn lo hi c nv bb F T) (i : Nat) (hi' : i < c) (o : Int) :
    Calls Try.prog 53 #[.pointer (some ⟨hp, 0, none⟩), .int .i64 (i : Int), .int .i64 o] w (MayPost w (mayF (F i) mn o)) := by
  have HN := Lib.hid (node_yes h i hi')
  have HH := Lib.hid (fun m => hasF_any ((h.bud i hi').drewN m) o)
  have HF := Lib.hid (fun m => free_inv ((h.bud i hi').drewN m) (h.inv i hi'))
  have hs := (h.inv i hi').sum_le
  have hc1 := h.c1
  clear h
  obtain ⟨hb, hhb⟩ : ∃ hb, (decide (0 ≤ o ∧ o ≤ 10) && (Bu.pick (F i) o.toNat).isSome) = hb := ⟨_, rfl⟩
  have hm : mayF (F i) mn o = (hb && decide (mn ≤ (Bu.sumF (F i) 11 : Int) - 2 ^ o.toNat)) := by rw [← hhb]; rfl
  rw [hhb] at HH
  rw [hm]
  cases hb with
  | false =>
    clear hhb hm
    go_enter Try.func53, Try.ntmps53
    go_wp2_with fail
    refine HN.out.mono ?_
    rintro e w1 ⟨rfl, rfl⟩
    go_wp2_with fail
    go_quiet ((go_at_call 32; exact quiet_left (HH.out _)))
    go_wp2_with fail
    go_ret
    exact ⟨rfl, _, rfl⟩
  | true =>
    have ho : 0 ≤ o ∧ o ≤ 10 := by
      rw [Bool.and_eq_true] at hhb
      exact of_decide_eq_true hhb.1
    obtain ⟨k, rfl⟩ : ∃ k : Nat, o = (k : Int) := ⟨o.toNat, by omega⟩
    rw [Int.toNat_natCast]
    have hp := powI (k := k) (by omega)
    have k0 : (0 : Int) ≤ (k : Int) := by omega
    have w1 : IntKind.i64.wrap ((2 : Int) ^ k) = (2 : Int) ^ k := IntWalk.i64_in _ (by omega)
    obtain ⟨sf, hsf⟩ : ∃ sf, Bu.sumF (F i) 11 = sf := ⟨_, rfl⟩
    rw [hsf] at HF hs
    rw [hsf]
    have w2 : IntKind.i64.wrap ((sf : Int) - (2 : Int) ^ k) = (sf : Int) - (2 : Int) ^ k := IntWalk.i64_in _ (by omega)
    clear hhb hm hsf hp
    go_enter Try.func53, Try.ntmps53
    go_wp2_with fail
    refine HN.out.mono ?_
    rintro e w3 ⟨rfl, rfl⟩
    go_wp2_with fail
    go_quiet (first
      | (go_at_call 32; exact quiet_left (HH.out _))
      | (go_at_call 31; exact quiet_left (HF.out _)))
    go_wp2_with fail
    go_ret
    exact ⟨rfl, _, rfl⟩

end Go.Proofs.Ytikahcbkeempdaa
