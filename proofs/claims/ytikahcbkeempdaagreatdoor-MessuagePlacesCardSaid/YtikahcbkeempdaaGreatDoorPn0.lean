/- MessuagePlaces: the plain part. -/
import Derived.Test.YtikahcbkeempdaaGreatDoorLi1
import Derived.Test.YtikahcbkeempdaaGreatDoorHeap7
namespace Go.Proofs.YtikahcbkeempdaaGreatDoor
open Go.RowKit Go.Maps Go.Shelf

theorem ordF_perm (m k : Nat) : (ordF m k).Perm (List.finRange (m + 1)) := List.mergeSort_perm _ _
theorem ordF_sorted (m k : Nat) : (ordF m k).Pairwise fun x y => distN k x.val ≤ distN k y.val := by
  have h := List.pairwise_mergeSort (le := fun x y : Fin (m + 1) => !(ltOf (cfF m k)) y x) (fun x y z h1 h2 => by
    rw [ltF] at *
    simp only [Bool.not_eq_true', decide_eq_false_iff_not] at *
    omega) (fun x y => by
    rw [ltF, ltF]
    simp only [Bool.or_eq_true, Bool.not_eq_true', decide_eq_false_iff_not]
    omega) (List.finRange (m + 1))
  refine h.imp fun {x y} h1 => ?_
  rw [ltF] at h1
  simp only [Bool.not_eq_true', decide_eq_false_iff_not] at h1
  omega

/-- The nodes of s as numbers, the nearest one to k first. -/
def plN (m k s : Nat) : List Nat := (nodesF m k s).map (·.val)
theorem plN_len (m k s : Nat) : (plN m k s).length = (nodesF m k s).length := by simp [plN]
theorem plN_at (m k s : Nat) {j : Nat} (hj : j < (nodesF m k s).length) : (nodesF m k s)[j].val = (plN m k s)[j]'(by rw [plN_len]; exact hj) := by simp [plN]
theorem plN_nodup (m k s : Nat) : (plN m k s).Nodup := by
  have h1 : (ordF m k).Nodup := (ordF_perm m k).nodup_iff.2 (List.nodup_finRange _)
  have h2 : (nodesF m k s).Nodup := h1.filter _
  unfold plN
  exact List.Pairwise.map _ (fun a b h e => h (Fin.ext e)) h2
theorem plN_mem (m k s j : Nat) (hj : j < m + 1) : j ∈ plN m k s ↔ s.testBit j = true := by
  unfold plN nodesF
  simp only [List.mem_map, List.mem_filter]
  constructor
  · rintro ⟨x, ⟨_, h⟩, rfl⟩; exact h
  · intro h
    exact ⟨⟨j, hj⟩, ⟨(ordF_perm m k).mem_iff.2 (List.mem_finRange _), h⟩, rfl⟩
theorem plN_lt (m k s : Nat) : ∀ j ∈ plN m k s, j < m + 1 := by
  unfold plN
  intro j hj
  obtain ⟨x, _, rfl⟩ := List.mem_map.1 hj
  exact x.isLt
theorem plN_sorted (m k s : Nat) : (plN m k s).Pairwise fun x y => distN k x ≤ distN k y := by
  unfold plN nodesF
  rw [List.pairwise_map]
  exact (ordF_sorted m k).filter _
theorem fin_len : ∀ m ∈ List.range 6, ∀ s ∈ List.range 64, ((List.finRange (m + 1)).filter fun x => s.testBit x.val).length = ((List.range (m + 1)).filter (s.testBit ·)).length := by decide +kernel
theorem plN_ones (m k s : Nat) (hm : m ≤ 5) (hs : s < 2 ^ (m + 1)) (hs64 : s < 64) : Lib.onesCount s = ((plN m k s).length : Int) := by
  rw [ones_u8 (m + 1) s (by omega) hs, plN_len, ← fin_len m (List.mem_range.2 (by omega)) s (List.mem_range.2 hs64)]
  unfold nodesF
  rw [((ordF_perm m k).filter _).length_eq]

/-- How many frames of node j are free when i are taken. -/
def frN (L : List Nat) (i j : Nat) : Nat := 8 - min 6 (i - 6 * L.idxOf j)
theorem idx_at {L : List Nat} (hn : L.Nodup) {q : Nat} (hq : q < L.length) : L.idxOf L[q] = q := hn.idxOf_getElem q hq
theorem frN_zero (L : List Nat) (j : Nat) : frN L 0 j = 8 := by unfold frN; omega
theorem frN_out {L : List Nat} {i j : Nat} (hj : j ∉ L) (hi : i ≤ 6 * L.length) : frN L i j = 8 := by
  unfold frN
  rw [List.idxOf_eq_length hj]
  omega
theorem frN_last {L : List Nat} {j : Nat} (hj : j ∈ L) : frN L (6 * L.length) j = 2 := by
  unfold frN
  have := List.idxOf_lt_length_of_mem hj
  omega
theorem frN_step {L : List Nat} (hn : L.Nodup) {i : Nat} (hi : i / 6 < L.length) (j : Nat) : frN L (i + 1) j = if j = L[i / 6] then frN L i j - 1 else frN L i j := by
  unfold frN
  by_cases e : j = L[i / 6]
  · rw [if_pos e, e, idx_at hn hi]
    omega
  · rw [if_neg e]
    have hne : L.idxOf j ≠ i / 6 := fun h => by
      by_cases hm : j ∈ L
      · have h1 := List.idxOf_lt_length_of_mem hm
        have h2 := List.getElem_idxOf (x := j) (xs := L) h1
        simp only [h] at h2
        exact e h2.symm
      · rw [List.idxOf_eq_length hm] at h
        omega
    omega
theorem frN_now {L : List Nat} (hn : L.Nodup) {i : Nat} (hi : i / 6 < L.length) : 3 ≤ frN L i L[i / 6] ∧ frN L i L[i / 6] ≤ 8 := by
  unfold frN
  rw [idx_at hn hi]
  omega
theorem frN_done {L : List Nat} (hn : L.Nodup) {i q : Nat} (hq : q < L.length) (h : q < i / 6) : frN L i L[q] = 2 := by
  unfold frN
  rw [idx_at hn hq]
  omega

theorem pick0_of {F : Nat → List Nat} (h : 0 < Bu.sumF F 11) : (Bu.pick F 0).isSome = true := by
  cases hp : Bu.pick F 0 with
  | some x => rfl
  | none =>
    have hn := Bu.pick_none hp
    have h1 : Bu.sumF F 11 = Bu.sumF (fun _ => []) 11 := Bu.sumF_congr 11 fun j _ => by rw [hn j (by omega) (by omega)]
    have h2 : Bu.sumF (fun _ => []) 11 = 0 := rfl
    omega
theorem mayF_zero (F : Nat → List Nat) : mayF F 2 0 = decide (3 ≤ Bu.sumF F 11) := by
  unfold mayF
  by_cases h : 3 ≤ Bu.sumF F 11
  · have hp := pick0_of (F := F) (by omega)
    have h0 : ((0 : Int)).toNat = 0 := rfl
    rw [h0, hp, decide_eq_true h]
    simp
    omega
  · rw [decide_eq_false h]
    simp
    intros
    omega

section
variable {w : World} {m cb cc db dc : Nat} {rg rc : Nat → Nat}
/-- The node that is chosen when i frames are taken; none behind the last. -/
theorem place_step (h : TopoAt w (m + 1) cb db rg rc) (hm : m ≤ 5) (k s : Nat) (hk : k < m + 1) (h0 : 0 < s) (hs : s < 2 ^ (m + 1)) (ma mc : Nat) (F : Nat → Nat → List Nat) (hmay : ∀ j, j < m + 1 → w.cell? ⟨ma, j, none⟩ = some (.bool (mayF (F j) 2 0)))
    {i : Nat} (hi : i / 6 < (plN m k s).length) (hF : ∀ j, j < m + 1 → Bu.sumF (F j) 11 = frN (plN m k s) i j) :
    Calls Tryz.prog 10 #[.agg #[.int .i64 ((m + 1 : Nat) : Int), .int .i64 8, .slice (some ⟨cb, 0, none⟩) (m + 1) cc, .slice (some ⟨db, 0, none⟩) (m + 1) dc], .agg #[.int .i64 1, .int .u8 (s : Int), .int .i64 0], .int .i64 (k : Int), .int .i64 0, .slice (some ⟨ma, 0, none⟩) (m + 1) mc] w fun e w' =>
      e = .returned (.tuple #[.agg #[.int .i64 (((plN m k s)[i / 6] : Nat) : Int), .int .i64 (k : Int), .int .i64 0], .int .i64 0]) ∧ Below w.heap.size w w' := by
  refine (chnode_any h hm k s hk h0 hs ma mc (fun j => mayF (F j) 2 0) hmay).mono ?_
  rintro e w' ⟨hb, hr⟩
  have hnd := plN_nodup m k s
  have hmv : ∀ q (hq : q < (nodesF m k s).length), mayF (F (nodesF m k s)[q].val) 2 0 = decide (3 ≤ frN (plN m k s) i ((plN m k s)[q]'(by rw [plN_len]; exact hq))) := fun q hq => by
    rw [mayF_zero, hF _ (nodesF m k s)[q].isLt, plN_at m k s hq]
  have hq : i / 6 < (nodesF m k s).length := by rw [← plN_len]; exact hi
  have hnow : mayF (F (nodesF m k s)[i / 6].val) 2 0 = true := by rw [hmv _ hq]; exact decide_eq_true (frN_now hnd hi).1
  rcases hr with ⟨j, hj, rfl, h1, h2⟩ | ⟨_, h2⟩
  · have hji : j = i / 6 := by
      by_cases e1 : j < i / 6
      · have h3 := hmv j hj
        rw [frN_done hnd (by rw [plN_len]; exact hj) e1] at h3
        simp only at h1
        rw [h1] at h3
        simp at h3
      · by_cases e2 : i / 6 < j
        · have := h2 (i / 6) hq e2
          simp only at this
          rw [hnow] at this
          simp at this
        · omega
    subst hji
    exact ⟨by rw [plN_at m k s hq], hb⟩
  · have := h2 (i / 6) hq
    simp only at this
    rw [hnow] at this
    simp at this
theorem place_end (h : TopoAt w (m + 1) cb db rg rc) (hm : m ≤ 5) (k s : Nat) (hk : k < m + 1) (h0 : 0 < s) (hs : s < 2 ^ (m + 1)) (ma mc : Nat) (F : Nat → Nat → List Nat) (hmay : ∀ j, j < m + 1 → w.cell? ⟨ma, j, none⟩ = some (.bool (mayF (F j) 2 0)))
    (hF : ∀ j, j < m + 1 → Bu.sumF (F j) 11 = frN (plN m k s) (6 * (plN m k s).length) j) :
    Calls Tryz.prog 10 #[.agg #[.int .i64 ((m + 1 : Nat) : Int), .int .i64 8, .slice (some ⟨cb, 0, none⟩) (m + 1) cc, .slice (some ⟨db, 0, none⟩) (m + 1) dc], .agg #[.int .i64 1, .int .u8 (s : Int), .int .i64 0], .int .i64 (k : Int), .int .i64 0, .slice (some ⟨ma, 0, none⟩) (m + 1) mc] w fun e w' =>
      e = .returned (.tuple #[.agg #[.int .i64 0, .int .i64 (k : Int), .int .i64 0], .int .i64 5]) ∧ Below w.heap.size w w' := by
  refine (chnode_any h hm k s hk h0 hs ma mc (fun j => mayF (F j) 2 0) hmay).mono ?_
  rintro e w' ⟨hb, hr⟩
  rcases hr with ⟨j, hj, _, h1, _⟩ | ⟨rfl, _⟩
  · have h3 : mayF (F (nodesF m k s)[j].val) 2 0 = true := h1
    rw [mayF_zero, hF _ (nodesF m k s)[j].isLt, plN_at m k s hj, frN_last (List.getElem_mem _)] at h3
    simp at h3
  · exact ⟨rfl, hb⟩
end

/-- How far the last node was. -/
def lastN (k : Nat) (L : List Nat) (i : Nat) : Nat := if i = 0 then 0 else distN k (L.getD ((i - 1) / 6) 0)
theorem lastN_le {k : Nat} {L : List Nat} (hs : L.Pairwise fun x y => distN k x ≤ distN k y) {i : Nat} (hi : i / 6 < L.length) : lastN k L i ≤ distN k L[i / 6] := by
  unfold lastN
  by_cases e : i = 0
  · rw [if_pos e]; omega
  · rw [if_neg e]
    have h1 : (i - 1) / 6 < L.length := by omega
    rw [List.getD_eq_getElem?_getD, List.getElem?_eq_getElem h1, Option.getD_some]
    by_cases e2 : (i - 1) / 6 = i / 6
    · simp only [e2]; exact Nat.le_refl _
    · exact List.pairwise_iff_getElem.1 hs _ _ h1 hi (by omega)
theorem lastN_step (k : Nat) (L : List Nat) {i : Nat} (hi : i / 6 < L.length) : lastN k L (i + 1) = distN k L[i / 6] := by
  unfold lastN
  rw [if_neg (by omega), Nat.add_sub_cancel, List.getD_eq_getElem?_getD, List.getElem?_eq_getElem hi, Option.getD_some]
end Go.Proofs.YtikahcbkeempdaaGreatDoor
