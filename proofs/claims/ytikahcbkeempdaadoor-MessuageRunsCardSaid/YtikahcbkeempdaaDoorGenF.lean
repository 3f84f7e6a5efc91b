/- frag: what a buddy answers (printed by genx.py out of Frag4). -/
import Derived.Test.YtikahcbkeempdaaDoorFrag2
namespace Go.Proofs.YtikahcbkeempdaaDoor
open Go.RowKit Go.Maps

def cntF (F : Nat → List Nat) (k : Nat) : Nat := if k ≤ 10 then (F k).length else 0
theorem cntF_le {n : Nat} {T F} (I : Bu.Inv n T F) (k : Nat) : cntF F k ≤ 1024 := by
  unfold cntF
  split
  · exact I.len_le ‹_›
  · omega
theorem fitF_sum (F : Nat → List Nat) (o : Nat) : ∀ d, o + d ≤ 11 → fitF (cntF F) o d * 2 ^ o + Bu.sumF F o = Bu.sumF F (o + d)
  | 0, _ => by simp [fitF]
  | d + 1, h => by
    have ih := fitF_sum F o d (by omega)
    have h1 : Bu.sumF F (o + (d + 1)) = Bu.sumF F (o + d) + (F (o + d)).length * 2 ^ (o + d) := rfl
    have h2 : cntF F (o + d) = (F (o + d)).length := by unfold cntF; rw [if_pos (by omega)]
    rw [h1, ← ih]
    simp only [fitF, h2]
    rw [Nat.add_mul, Nat.mul_assoc, ← Nat.pow_add, Nat.add_comm d o]
    omega
theorem fitF_zero {F : Nat → List Nat} {o : Nat} (h : o ≤ 11) : fitF (cntF F) 0 o = Bu.sumF F o := by
  have := fitF_sum F 0 o (by omega)
  simpa [Bu.sumF] using this
theorem fitF_le {n : Nat} {T F} (I : Bu.Inv n T F) {o : Nat} (h : o ≤ 11) : fitF (cntF F) o (11 - o) ≤ 1024 := by
  have h1 := fitF_sum F o (11 - o) (by omega)
  have h2 := I.sum_le
  rw [show o + (11 - o) = 11 by omega] at h1
  have h3 := Nat.mul_le_mul_left (fitF (cntF F) o (11 - o)) (Bu.pos2 o)
  omega
theorem fitF_le0 {n : Nat} {T F} (I : Bu.Inv n T F) {o : Nat} (h : o ≤ 11) : fitF (cntF F) 0 o ≤ 1024 := by
  rw [fitF_zero h]
  have := Bu.sumF_mono F h
  have := I.sum_le
  omega
theorem runsLike_bud {w : World} {b n : Nat} {F T} (h : Bud w b n F T) (I : Bu.Inv n T F) : RunsLike w (.pointer (some ⟨b + 1, 0, none⟩)) (cntF F) := fun x hx k hk => by
  have hB : Bud x b n F T := h.same fun i _ hi => hx.block i (by have := h.lt; omega)
  refine (runs_any hB k hk (I.len_le hk)).mono ?_
  rintro e w' ⟨v, rfl, hrow, hb⟩
  obtain ⟨oa, cap, rfl, _⟩ := own_shape hrow
  have : cntF F k = (F k).length := by unfold cntF; rw [if_pos hk]
  exact ⟨oa, cap, by rw [this], hb⟩
theorem freeLike_bud {w : World} {b n : Nat} {F T} (h : Bud w b n F T) (I : Bu.Inv n T F) : FreeLike w (.pointer (some ⟨b + 1, 0, none⟩)) (Bu.sumF F 11) := fun x hx =>
  free_inv (h.same fun i _ hi => hx.block i (by have := h.lt; omega)) I

end Go.Proofs.YtikahcbkeempdaaDoor
