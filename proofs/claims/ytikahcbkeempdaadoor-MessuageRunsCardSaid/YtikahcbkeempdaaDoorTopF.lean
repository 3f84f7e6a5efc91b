/- The law MessuageFrags: its state; halves; the plain part. -/
import Derived.Test.YtikahcbkeempdaaDoorGenF
import Derived.Test.YtikahcbkeempdaaDoorStands
import Derived.Test.YtikahcbkeempdaaDoorRows0
namespace Go.Proofs.YtikahcbkeempdaaDoor
open Go.RowKit Go.Maps

set_option maxRecDepth 100000 in
set_option maxHeartbeats 1000000 in
theorem halvesT_any (w : World) : Calls Tryd.prog 25 #[] w fun e w' => e = .returned (.bool true) ∧ Below w.heap.size w w' := by
  have I0 := Bu.inv_new (n := 4) (N := 2) (by decide) rfl
  have I1 := I0.take_pick (o := 0) (k := 2) (a := 0) rfl
  have e1 : Bu.sumF (Bu.takeF (Bu.newF 4) 2 0 0) 11 = 3 := rfl
  have E := Lib.hid e1
  clear e1
  go_enter Tryd.func25, Tryd.ntmps25
  go_wp2_with fail
  refine (new_ok 4 2 (by omega) rfl _).mono ?_
  rintro e w1 ⟨rfl, hB1, hb1⟩
  go_wp2_with fail
  refine (take_pick hB1 I0 0 (k := 2) (a := 0) rfl).mono ?_
  rintro e w2 ⟨rfl, hB2, hk2⟩
  have hb2 := hb1.trans (hk2.below (Nat.le_refl _) (hb1.size))
  have hf := free_inv hB2 I1
  rw [E.out] at hf
  have HF := Lib.hid hf
  clear hf
  go_wp2_with fail
  refine HF.out.mono ?_
  rintro e w3 ⟨rfl, rfl⟩
  go_wp2_with fail
  go_ret
  exact ⟨rfl, hb2⟩

theorem fit_half (L : Nat → Nat) (o : Nat) : ∀ d, fitF L o (d + 1) = L o + 2 * fitF L (o + 1) d
  | 0 => by simp [fitF]
  | d + 1 => by
    have ih := fit_half L o d
    have h1 : fitF L o (d + 1 + 1) = fitF L o (d + 1) + L (o + (d + 1)) * 2 ^ (d + 1) := rfl
    have h2 : fitF L (o + 1) (d + 1) = fitF L (o + 1) d + L (o + 1 + d) * 2 ^ d := rfl
    rw [h1, ih, h2, show o + (d + 1) = o + 1 + d by omega, Nat.pow_succ, ← Nat.mul_assoc]
    generalize L (o + 1 + d) * 2 ^ d = x
    omega

theorem Bu.Inv.gone2 {n : Nat} {T F} (I : Bu.Inv n T F) (t : Nat × Nat) (ht : t ∈ T) : t ∉ T.erase t := fun h =>
  Bu.disj_sym I.disj ht h t.1 ((Bu.cov_iff _ _).2 ⟨Nat.le_refl _, by have := Bu.pos2 t.2; omega⟩) ((Bu.cov_iff _ _).2 ⟨Nat.le_refl _, by have := Bu.pos2 t.2; omega⟩)
theorem Bu.Inv.erase_nth {n : Nat} {T F} (I : Bu.Inv n T F) {j : Nat} (hj : j < T.length) : T.erase T[j] = T.take j ++ T.drop (j + 1) := by
  have hnb := I.gone2
  have hid : T.idxOf T[j] = j := by
    by_cases e : T.idxOf T[j] < j
    · exfalso
      refine hnb T[j] (List.getElem_mem hj) ?_
      rw [erase_idx, List.mem_append]
      right
      rw [List.mem_drop_iff_getElem]
      exact ⟨j - (T.idxOf T[j] + 1), by omega, by congr 1; omega⟩
    · have h1 : T.idxOf T[j] < T.length := List.idxOf_lt_length_of_mem (List.getElem_mem hj)
      by_cases e3 : j < T.idxOf T[j]
      · have := List.not_of_lt_findIdx (p := (· == T[j])) (xs := T) e3
        simp at this
      · omega
  rw [erase_idx, hid]

structure FGSt (w : World) (b C : Nat) (v : Value) (F : Nat → List Nat) (T : List (Nat × Nat)) : Prop where
  bud : Bud w b 64 F T
  inv : Bu.Inv 64 T F
  tak : w.ownsRow C 53 2 v T.length (takCells T)
  lt : b + 12 < C ∧ C ≤ w.heap.size

section
variable {w w' : World} {b C : Nat} {v v' : Value} {F F' : Nat → List Nat} {T T' : List (Nat × Nat)}
theorem FGSt.below (h : FGSt w b C v F T) (k : Below w.heap.size w w') : FGSt w' b C v F T :=
  ⟨h.bud.same fun i _ hi => k.block i (by have := h.lt; omega), h.inv, ownsRow_same h.tak fun g hg => k.block g (h.tak.lt g hg).2, h.lt.1, Nat.le_trans h.lt.2 k.size⟩
/-- The buddy has turned; the row not yet. -/
theorem FGSt.row (h : FGSt w b C v F T) (k : Kept b (b + 13) w w') : w'.ownsRow C 53 2 v T.length (takCells T) :=
  ownsRow_same h.tak fun g hg => k.block g (h.tak.lt g hg).2 (by have := (h.tak.lt g hg).1; have := h.lt.1; omega)
theorem FGSt.app {o : Obj} (hB : Bud w b 64 F T) (I : Bu.Inv 64 T F) (hl : b + 12 < C ∧ C ≤ w.heap.size) (hv : ∀ g, v.ownBlock = some g → C ≤ g) (hg : (w.alloc o).grownBy w' v.ownBlock) (hown : w'.ownsRow C 53 2 v' T.length (takCells T)) : FGSt w' b C v' F T :=
  ⟨hB.same fun i _ hi => (hg.block i (by simp; omega) fun e => by have := hv i e.symm; omega).trans (Below.heap_alloc _ _ _ (by omega)), I, hown, hl.1, by have := hg.size; simp at this; omega⟩
theorem FGSt.newS (hB : Bud w b 64 F T) (I : Bu.Inv 64 T F) (hl : b + 12 < C ∧ C ≤ w.heap.size) (k : Below w.heap.size w w') (hown : w'.ownsRow w.heap.size 53 2 v' T.length (takCells T)) : FGSt w' b C v' F T :=
  ⟨hB.same fun i _ hi => k.block i (by omega), I, hown.mono hl.2, hl.1, Nat.le_trans hl.2 k.size⟩
end

/-- Take, whether there is a run or not. -/
theorem take_either {w : World} {b : Nat} {F T} (hB : Bud w b 64 F T) (I : Bu.Inv 64 T F) (o : Nat) (ho : o ≤ 10) : ∃ (x : Nat) (g : Int) (F' : Nat → List Nat) (T' : List (Nat × Nat)),
    (Calls Tryd.prog 26 #[.pointer (some ⟨b + 1, 0, none⟩), .int .i64 (o : Int)] w fun e w' => e = .returned (.tuple #[.int .i64 (x : Int), .int .i64 g]) ∧ Bud w' b 64 F' T' ∧ Kept b (b + 13) w w') ∧
    Bu.Inv 64 T' F' ∧ ((g = 0 ∧ T' = T ++ [(x, o)]) ∨ (g = 5 ∧ T' = T)) := by
  cases hp : Bu.pick F o with
  | none =>
    refine ⟨0, 5, F, T, (take_nomem hB o ho hp).mono ?_, I, .inr ⟨rfl, rfl⟩⟩
    rintro e w' ⟨rfl, rfl⟩
    exact ⟨rfl, hB, Kept.refl _ _ _⟩
  | some y =>
    obtain ⟨kk, x⟩ := y
    refine ⟨x, 0, _, _, (take_pick hB I o hp).mono ?_, I.take_pick hp, .inl ⟨rfl, rfl⟩⟩
    rintro e w' ⟨rfl, hB', hk⟩
    exact ⟨rfl, hB', hk⟩

end Go.Proofs.YtikahcbkeempdaaDoor
