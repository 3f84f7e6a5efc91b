/- The law MessuageRuns: its state, and the plain part. -/
import Derived.Test.YtikahcbkeempdaaDoorHeap8
import Derived.Test.YtikahcbkeempdaaDoorHeap7
import Derived.Test.YtikahcbkeempdaaDoorMem1
import Derived.Test.YtikahcbkeempdaaDoorTopF
import Derived.Test.YtikahcbkeempdaaDoorRows0
namespace Go.Proofs.YtikahcbkeempdaaDoor
open Go.RowKit Go.Maps

theorem cell_new (w : World) (v : Value) (t : TypeId) : (w.alloc (.cells #[v] t)).cell? ⟨w.heap.size, 0, none⟩ = some v := by
  rw [World.cell?]
  simp only [heap_alloc_new]
  rfl

theorem HeapAt.low {w w' : World} {hp each c : Nat} {mn lo hi : Int} {nv : Value} {bb : Nat → Nat} {F T} {B C1 : Nat} (h : HeapAt w hp each mn lo hi c nv bb F T) (hS : HSpan B C1 hp c nv bb) (e : ∀ i, i < C1 → w'.heap[i]? = w.heap[i]?) : HeapAt w' hp each mn lo hi c nv bb F T :=
  ⟨(e hp hS.hp.2).trans h.blk, ownsRow_same h.own fun g hg => e g (hS.nv g hg).2, fun j hj => (h.bud j hj).same fun g _ h2 => e g (by have := (hS.bb j hj).2; omega), h.inv, h.off, h.apart, h.nvp⟩

/-- What the numbers say: the runs R, the frames of the pages P, the nodes' runs T. -/
structure RunN (R : List (Nat × Nat)) (P : List Nat) (T : Nat → List (Nat × Nat)) : Prop where
  spl : ∀ j, j < 4 → T j = spl 16 R j
  rnd : R.Nodup
  rlt : ∀ t ∈ R, t.1 < 64
  pnd : P.Nodup
  plt : ∀ f ∈ P, f < 64
  cov : ∀ f ∈ P, ∃ t ∈ R, t.1 ≤ f ∧ f < t.1 + 2 ^ t.2

/-- In the midst of a new run's frames. -/
structure RunI (R : List (Nat × Nat)) (P : List Nat) (f0 k : Nat) : Prop where
  pnd : P.Nodup
  plt : ∀ f ∈ P, f < 64
  cov : ∀ f ∈ P, (∃ t ∈ R, t.1 ≤ f ∧ f < t.1 + 2 ^ t.2) ∨ (f0 ≤ f ∧ f < f0 + k)

theorem RunN.enter {R P T} (h : RunN R P T) (f0 : Nat) : RunI R P f0 0 := ⟨h.pnd, h.plt, fun f hf => .inl (h.cov f hf)⟩

theorem RunN.fresh {R P T} (h : RunN R P T) {F : Nat → Nat → List Nat} (hI : ∀ j, j < 4 → Bu.Inv 16 (T j) (F j)) {n x o : Nat} {Fn : Nat → List Nat} (hI3 : Bu.Inv 16 (T n ++ [(x, o)]) Fn) {f : Nat} (h1 : n * 16 + x ≤ f) (h2 : f < n * 16 + x + 2 ^ o) :
    ¬ ∃ t ∈ R, t.1 ≤ f ∧ f < t.1 + 2 ^ t.2 := by
  rintro ⟨t, ht, h3, h4⟩
  have hj : t.1 / 16 < 4 := by have := h.rlt t ht; omega
  have hm := spl_mem (each := 16) ht
  rw [← h.spl _ hj] at hm
  have ht2 := ((hI _ hj).taken _ hm).2.2
  simp only at ht2
  have hx2 := (hI3.taken (x, o) (by simp)).2.2
  simp only at hx2
  obtain ⟨q, hq⟩ : ∃ q, 2 ^ t.2 = q := ⟨_, rfl⟩
  obtain ⟨r, hr⟩ : ∃ r, 2 ^ o = r := ⟨_, rfl⟩
  rw [hq] at ht2 h4
  rw [hr] at hx2 h2
  have hjn : t.1 / 16 = n := by omega
  rw [hjn] at hm
  have hd := (List.pairwise_append.1 hI3.disj).2.2 _ hm (x, o) (by simp) (f % 16)
  exact hd ((Bu.cov_iff _ _).2 ⟨by simp only; omega, by simp only [hq]; omega⟩) ((Bu.cov_iff _ _).2 ⟨by simp only; omega, by simp only [hr]; omega⟩)

theorem RunI.step {R P f0 k} (h : RunI R P f0 k) (hf : f0 + k < 64) (hn : ¬ ∃ t ∈ R, t.1 ≤ f0 + k ∧ f0 + k < t.1 + 2 ^ t.2) : f0 + k ∉ P ∧ RunI R (P ++ [f0 + k]) f0 (k + 1) := by
  have hnot : f0 + k ∉ P := fun hm => by
    rcases h.cov _ hm with hc | hc
    · exact hn hc
    · omega
  refine ⟨hnot, ?_, ?_, ?_⟩
  · rw [List.nodup_append]
    refine ⟨h.pnd, by simp, fun a ha b hb e => ?_⟩
    rw [List.mem_singleton] at hb
    subst hb
    exact hnot (e ▸ ha)
  · intro f hf'
    rcases List.mem_append.1 hf' with hf' | hf'
    · exact h.plt f hf'
    · rw [List.mem_singleton] at hf'; omega
  · intro f hf'
    rcases List.mem_append.1 hf' with hf' | hf'
    · rcases h.cov f hf' with hc | hc
      · exact .inl hc
      · exact .inr ⟨hc.1, by omega⟩
    · rw [List.mem_singleton] at hf'
      exact .inr ⟨by omega, by omega⟩

theorem RunN.leave {R P P' T T3} (h : RunN R P T) {n x o : Nat} (hn : n < 4) (hx : x < 16) (hT3 : ∀ j, j < 4 → T3 j = if j = n then T n ++ [(x, o)] else T j) (h' : RunI R P' (n * 16 + x) (2 ^ o)) (hnew : ∀ t ∈ R, t ≠ (n * 16 + x, o)) : RunN (R ++ [(n * 16 + x, o)]) P' T3 := by
  refine ⟨fun j hj => ?_, ?_, ?_, h'.pnd, h'.plt, ?_⟩
  · rw [spl_snoc hx, hT3 j hj]
    by_cases e : j = n
    · rw [if_pos e, if_pos e, h.spl n hn]
    · rw [if_neg e, if_neg e, h.spl j hj]
  · rw [List.nodup_append]
    refine ⟨h.rnd, by simp, fun a ha b hb e => ?_⟩
    rw [List.mem_singleton] at hb
    exact hnew a ha (e.trans hb)
  · intro t ht
    rcases List.mem_append.1 ht with ht | ht
    · exact h.rlt t ht
    · rw [List.mem_singleton] at ht
      subst ht
      simp only
      omega
  · intro f hf
    rcases h'.cov f hf with ⟨t, ht, hc⟩ | hc
    · exact ⟨t, by simp [ht], hc⟩
    · exact ⟨(n * 16 + x, o), by simp, hc⟩

theorem sumT_pos {t : Nat × Nat} : ∀ {T : List (Nat × Nat)}, t ∈ T → 0 < Bu.sumT T
  | a :: T, _ => by
    have hp := Bu.pos2 a.2
    simp only [Bu.sumT, List.map_cons, List.sum_cons]
    omega
theorem spl_head (t : Nat × Nat) (S : List (Nat × Nat)) (j : Nat) : spl 16 (t :: S) j = if j = t.1 / 16 then (t.1 % 16, t.2) :: spl 16 S j else spl 16 S j := by
  unfold spl
  rw [List.filter_cons]
  by_cases e : j = t.1 / 16
  · subst e; simp
  · have : (t.1 / 16 == j) = false := by rw [beq_eq_false_iff_ne]; exact fun h => e h.symm
    rw [if_neg (by rw [this]; decide), if_neg e]

theorem zip_snoc (P : List Nat) (f : Nat) : (P ++ [f]).zipIdx 1 = P.zipIdx 1 ++ [(f, P.length + 1)] := by
  rw [List.zipIdx_append]
  simp [Nat.add_comm]
theorem zip_fst (P : List Nat) : (P.zipIdx 1).map (·.1) = P := by simp
theorem zip_snd (P : List Nat) : (P.zipIdx 1).map (·.2) = List.range' 1 P.length := by simp
theorem zip_mem {P : List Nat} {i : Nat} (h : i < P.length) : (P[i], i + 1) ∈ P.zipIdx 1 := by
  rw [List.mk_mem_zipIdx_iff_le_and_getElem?_sub]
  refine ⟨by omega, ?_⟩
  simp [h]

structure RunW (wr : World) (hp mb sb fb tb mt mf C1 C : Nat) (nv : Value) (bb : Nat → Nat) (v : Value) (R : List (Nat × Nat)) (P : List Nat) (F : Nat → Nat → List Nat) (T : Nat → List (Nat × Nat)) : Prop where
  heap : HeapAt wr hp 16 1 1 1 4 nv bb F T
  mach : MachAt wr mb sb fb tb mt mf ((P.zipIdx 1).map Prod.swap) (P.zipIdx 1)
  row : wr.ownsRow C 53 2 v R.length (takCells R)
  ord : C1 ≤ fb ∧ mb < C ∧ C ≤ wr.heap.size

section
variable {w w' : World} {hp mb sb fb tb mt mf C1 C : Nat} {nv v : Value} {bb : Nat → Nat} {R : List (Nat × Nat)} {P P' : List Nat} {F F' : Nat → Nat → List Nat} {T T' : Nat → List (Nat × Nat)}
theorem RunW.below (h : RunW w hp mb sb fb tb mt mf C1 C nv bb v R P F T) (b : Below w.heap.size w w') : RunW w' hp mb sb fb tb mt mf C1 C nv bb v R P F T :=
  ⟨h.heap.below b, h.mach.below b, ownsRow_same h.row fun g hg => b.block g (h.row.lt g hg).2, h.ord.1, h.ord.2.1, Nat.le_trans h.ord.2.2 b.size⟩
theorem RunW.drewN (h : RunW w hp mb sb fb tb mt mf C1 C nv bb v R P F T) (m : Nat) : RunW (w.drewN m) hp mb sb fb tb mt mf C1 C nv bb v R P F T := h.below (drewN_below _ _ _)
/-- A node's buddy has turned. -/
theorem RunW.onHeap (h : RunW w hp mb sb fb tb mt mf C1 C nv bb v R P F T) {n : Nat} (hb : bb n + 13 ≤ C1) (hk : Kept (bb n) (bb n + 13) w w') (hH : HeapAt w' hp 16 1 1 1 4 nv bb F' T') : RunW w' hp mb sb fb tb mt mf C1 C nv bb v R P F' T' := by
  have ho := h.ord
  have hml := h.mach.lt
  refine ⟨hH, h.mach.same fun i h1 h2 => hk.block i (by omega) (by omega), ownsRow_same h.row fun g hg => hk.block g (h.row.lt g hg).2 (by have := (h.row.lt g hg).1; have := h.mach.ord; omega), ho.1, ho.2.1, Nat.le_trans ho.2.2 hk.size⟩
/-- The memory has turned. -/
theorem RunW.onMach (h : RunW w hp mb sb fb tb mt mf C1 C nv bb v R P F T) {B lo hi : Nat} (hS : HSpan B C1 hp 4 nv bb) (hk : Kept lo hi w w') (h1 : fb ≤ lo) (h2 : hi ≤ mb) (hM : MachAt w' mb sb fb tb mt mf ((P'.zipIdx 1).map Prod.swap) (P'.zipIdx 1)) : RunW w' hp mb sb fb tb mt mf C1 C nv bb v R P' F T := by
  have ho := h.ord
  have hml := h.mach.lt
  have hmo := h.mach.ord
  refine ⟨h.heap.low hS fun i hi => hk.block i (by omega) (by omega), hM, ownsRow_same h.row fun g hg => hk.block g (h.row.lt g hg).2 (by have := (h.row.lt g hg).1; omega), ho.1, ho.2.1, Nat.le_trans ho.2.2 hk.size⟩
/-- A run is noted. -/
theorem RunW.onRow (h : RunW w hp mb sb fb tb mt mf C1 C nv bb v R P F T) {B : Nat} (hS : HSpan B C1 hp 4 nv bb) {v' : Value} {R' : List (Nat × Nat)} {o : Obj} (hg : (w.alloc o).grownBy w' v.ownBlock) (hown : w'.ownsRow C 53 2 v' R'.length (takCells R')) : RunW w' hp mb sb fb tb mt mf C1 C nv bb v' R' P F T := by
  have ho := h.ord
  have hml := h.mach.lt
  have hmo := h.mach.ord
  have hs := hg.size
  simp at hs
  have hk : ∀ g, g < C → w'.heap[g]? = w.heap[g]? := fun g hg' => (hg.block g (by simp; omega) fun e => by have := (h.row.lt g e.symm).1; omega).trans (Below.heap_alloc _ _ _ (by omega))
  exact ⟨h.heap.low hS fun i hi => hk i (by omega), h.mach.same fun i _ h2 => hk i (by omega), hown, ho.1, ho.2.1, by omega⟩
theorem RunW.gave (h : RunW w hp mb sb fb tb mt mf C1 C nv bb v R P F T) {n a o : Nat} (hb : bb n + 13 ≤ C1) (hR : HGiveR w hp 16 1 1 1 4 nv bb F T n a o w') :
    RunW w' hp mb sb fb tb mt mf C1 C nv bb v R P (fun j => if j = n then Bu.giveF (10 - o) (F n) a o else F j) (fun j => if j = n then (T n).erase (a, o) else T j) := by
  obtain ⟨⟨m, hk⟩, hH⟩ := hR
  exact (h.drewN m).onHeap hb hk hH
end
end Go.Proofs.YtikahcbkeempdaaDoor
