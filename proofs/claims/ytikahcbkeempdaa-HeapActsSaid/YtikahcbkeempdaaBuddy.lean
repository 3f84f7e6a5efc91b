/- The buddy's contracts, over the invariant. -/
import Derived.Test.YtikahcbkeempdaaBuPick
import Derived.Test.YtikahcbkeempdaaGiveOk
import Derived.Test.YtikahcbkeempdaaFree
import Derived.Test.YtikahcbkeempdaaNew
namespace Go.Proofs.Ytikahcbkeempdaa
open Go.RowKit Go.Maps

theorem take_pick {w : World} {b n : Nat} {F T} (hB : Bud w b n F T) (I : Bu.Inv n T F) (o : Nat) {k a : Nat} (hp : Bu.pick F o = some (k, a)) :
    Calls Try.prog 30 #[.pointer (some ⟨b + 1, 0, none⟩), .int .i64 (o : Int)] w (TakePost w b n o a (Bu.takeF F k o a) T) := by
  obtain ⟨h1, h2, ⟨l, hl⟩, h4⟩ := Bu.pick_some hp
  have hm : a ∈ F k := by rw [hl]; simp
  exact take_ok hB o k h1 h2 h4 hl (I.len_le h2) (by have := I.mem_le h2 hm; omega) I.T_le (I.not_taken h2 hm)

theorem take_nomem {w : World} {b n : Nat} {F T} (hB : Bud w b n F T) (o : Nat) (ho : o ≤ 10) (hp : Bu.pick F o = none) :
    Calls Try.prog 30 #[.pointer (some ⟨b + 1, 0, none⟩), .int .i64 (o : Int)] w fun e w' => e = .returned (.tuple #[.int .i64 0, .int .i64 5]) ∧ w = w' :=
  take_none hB o ho fun j h1 h2 => by rw [Bu.pick_none hp j h1 h2]; simp

theorem has_pick {w : World} {b n : Nat} {F T} (hB : Bud w b n F T) (o : Nat) (ho : o ≤ 10) :
    Calls Try.prog 32 #[.pointer (some ⟨b + 1, 0, none⟩), .int .i64 (o : Int)] w fun e w' => e = .returned (.bool (Bu.pick F o).isSome) ∧ w = w' := by
  cases hp : Bu.pick F o with
  | none => exact has_none hB o ho fun j h1 h2 => by rw [Bu.pick_none hp j h1 h2]; simp
  | some x =>
    obtain ⟨k, a⟩ := x
    obtain ⟨h1, h2, ⟨l, hl⟩, h4⟩ := Bu.pick_some hp
    exact has_some hB o k h1 h2 (by rw [hl]; simp) fun j j1 j2 => by rw [h4 j j1 j2]; simp

theorem free_inv {w : World} {b n : Nat} {F T} (hB : Bud w b n F T) (I : Bu.Inv n T F) :
    Calls Try.prog 31 #[.pointer (some ⟨b + 1, 0, none⟩)] w fun e w' => e = .returned (.int .i64 (Bu.sumF F 11 : Int)) ∧ w = w' :=
  free_any hB I.sum_le

end Go.Proofs.Ytikahcbkeempdaa
