/- A heap and its reference side by side: what a Take, a Give makes of them. -/
import Derived.Test.YtikahcbkeempdaaRHeap4
namespace Go.Proofs.Ytikahcbkeempdaa
open Go.RowKit Go.Maps

/-- What stands when both have given: all but the row of the runs. -/
def TPair (w0 w : World) (hp each : Nat) (mn lo hi : Int) (c : Nat) (nv : Value) (bb : Nat → Nat) (rp : Nat) (rv : Value) (pp uu : Nat → Nat) (C1 : Nat) (tt : Nat → Value) (v : Value) (F : Nat → Nat → List Nat) (T : Nat → List (Nat × Nat)) : Prop :=
  HeapAt w hp each mn lo hi c nv bb F T ∧ RHeap w rp each mn c rv pp uu tt T ∧ (∀ x, RHF rp rv pp uu tt c x → C1 ≤ x) ∧ (∀ i, i < c → mn ≤ (Bu.sumF (F i) 11 : Int)) ∧
    (∀ g, v.ownBlock = some g → w.heap[g]? = w0.heap[g]? ∧ ¬ RHF rp rv pp uu tt c g) ∧ w0.heap.size ≤ w.heap.size

section
variable {w w2 w3 w4 : World} {hp each c rp C1 C2 B : Nat} {mn lo hi : Int} {nv rv v v' : Value} {bb pp uu : Nat → Nat} {tt tt' : Nat → Value} {R R' : List (Nat × Nat)} {F F' : Nat → Nat → List Nat} {T T' : Nat → List (Nat × Nat)}

theorem TH.turned (h : TH w hp each mn lo hi c nv bb rp rv pp uu C1 C2 tt v R F T) (hS : HSpan B C1 hp c nv bb) {i m : Nat} (hi' : i < c) {Fi : Nat → List Nat} {Ti : List (Nat × Nat)}
    (hk : Kept (bb i) (bb i + 13) w w2) (hH : HeapAt w2 hp each mn lo hi c nv bb (fun j => if j = i then Fi else F j) (fun j => if j = i then Ti else T j))
    (hG : RHTurn (w2.drewN m) rp each mn c rv pp uu tt T i Ti w3) (hmn : mn ≤ (Bu.sumF Fi 11 : Int)) :
    ∃ tt', TPair w w3 hp each mn lo hi c nv bb rp rv pp uu C1 tt' v (fun j => if j = i then Fi else F j) (fun j => if j = i then Ti else T j) := by
  obtain ⟨tv', hR3, hk3, hn⟩ := hG
  have hb := (hS.bb i hi').2
  have hs2 := hk.size
  have hs3 : w2.heap.size ≤ w3.heap.size := hk3.size
  have hfp : ∀ x, RHF rp rv pp uu (fun j => if j = i then tv' else tt j) c x → RHF rp rv pp uu tt c x ∨ w2.heap.size ≤ x := fun x hx => RHF.turn hn hi' hx
  refine ⟨_, ?_, hR3, fun x hx => ?_, fun j hj => ?_, fun g hg => ⟨?_, fun hx => ?_⟩, Nat.le_trans hs2 hs3⟩
  · exact hH.lowK hS fun x hx => hk3.block x (by have := h.ord; show x < w2.heap.size; omega) fun hs => by have := h.ge x (RHF.node hi' hs); omega
  · rcases hfp x hx with h1 | h1
    · exact h.ge x h1
    · have := h.ord; omega
  · by_cases e : j = i
    · simp only [e, if_pos]; exact hmn
    · simp only [if_neg e]; exact h.mns j hj
  · have hgl := (h.row.lt g hg).2
    refine (hk3.block g (Nat.lt_of_lt_of_le hgl hs2) fun hs => h.dis g hg (RHF.node hi' hs)).trans (hk.block g hgl ?_)
    have := (h.row.lt g hg).1
    have := h.ord
    omega
  · rcases hfp g hx with h1 | h1
    · exact h.dis g hg h1
    · have := (h.row.lt g hg).2; omega

theorem mn_take {n x o : Nat} {Ti : List (Nat × Nat)} {Fi F2 : Nat → List Nat} (I : Bu.Inv n Ti Fi) (I2 : Bu.Inv n (Ti ++ [(x, o)]) F2) (hm : mayF Fi mn (o : Int) = true) : mn ≤ (Bu.sumF F2 11 : Int) := by
  have h1 := I.sum
  have h2 := I2.sum
  rw [sumT_app] at h2
  have h3 : Bu.sumT [(x, o)] = 2 ^ o := by simp [Bu.sumT]
  rw [h3] at h2
  unfold mayF at hm
  rw [Bool.and_eq_true, decide_eq_true_eq, Int.toNat_natCast] at hm
  have h4 := hm.2
  have h5 : ((2 ^ o : Nat) : Int) = (2 : Int) ^ o := by simp
  rw [← h5] at h4
  omega
theorem mn_give {n : Nat} {t : Nat × Nat} {Ti : List (Nat × Nat)} {Fi F2 : Nat → List Nat} (I : Bu.Inv n Ti Fi) (I2 : Bu.Inv n (Ti.erase t) F2) (hm : mn ≤ (Bu.sumF Fi 11 : Int)) : mn ≤ (Bu.sumF F2 11 : Int) := by
  have h1 := I.sum
  have h2 := I2.sum
  have h3 := sumT_erase t Ti
  omega

/-- A run is noted. -/
theorem TPair.app (hP : TPair w w3 hp each mn lo hi c nv bb rp rv pp uu C1 tt v F' T') (hS : HSpan B C1 hp c nv bb) (h : TH w hp each mn lo hi c nv bb rp rv pp uu C1 C2 tt' v R F T) {o : Obj} {g cap : Nat} {t : Nat × Nat}
    (hg : (w3.alloc o).grownBy w4 v.ownBlock) (hown : w4.ownsRow C2 51 2 (.slice (some ⟨g, 0, none⟩) (R.length + 1) cap) (R.length + 1) (takCells R ++ [.int .i64 (t.1 : Int), .int .i64 (t.2 : Int)])) (hat : v.ownBlock = some g ∨ g = w3.heap.size + 1)
    (hspl : ∀ j, j < c → T' j = spl each (R ++ [t]) j) (hnd : t ∉ R) (hlt : t.1 < each * c) :
    TH w4 hp each mn lo hi c nv bb rp rv pp uu C1 C2 tt (.slice (some ⟨g, 0, none⟩) (R.length + 1) cap) (R ++ [t]) F' T' := by
  obtain ⟨hH, hR, hge, hmn, hv, hs⟩ := hP
  have ho := h.ord
  have hs4 := hg.size
  simp at hs4
  have hk : ∀ x, x < w3.heap.size → v.ownBlock ≠ some x → w4.heap[x]? = w3.heap[x]? := fun x hx hne => (hg.block x (by simp; omega) hne.symm).trans (Below.heap_alloc _ _ _ hx)
  refine ⟨hH.lowK hS fun x hx => hk x (by omega) fun e => by have := (h.row.lt x e).1; omega, hR.same fun x hx => hk x (hR.fp_lt hx) fun e => (hv x e).2 hx, ?_, hge, ?_, ⟨ho.1, by omega⟩, hmn, hspl, ?_, ?_⟩
  · rw [takCells_app, List.length_append]
    exact hown
  · intro x hx hf
    have hxg : g = x := by simpa [Value.ownBlock] using hx
    rcases hat with e | e
    · exact (hv x (by rw [e, hxg])).2 hf
    · have := hR.fp_lt hf; omega
  · rw [List.nodup_append]
    refine ⟨h.rnd, by simp, fun a ha b hb e => ?_⟩
    rw [List.mem_singleton] at hb
    subst hb
    exact hnd (e ▸ ha)
  · intro s hs'
    rcases List.mem_append.1 hs' with hs' | hs'
    · exact h.rlt s hs'
    · rw [List.mem_singleton] at hs'; subst hs'; exact hlt

/-- The row is a new one. -/
theorem TPair.newRow (hP : TPair w w3 hp each mn lo hi c nv bb rp rv pp uu C1 tt v F' T') (ho : C1 ≤ C2 ∧ C2 ≤ w3.heap.size) (hb : Below w3.heap.size w3 w4) (hown : w4.ownsRow w3.heap.size 51 2 v' R'.length (takCells R'))
    (hspl : ∀ j, j < c → T' j = spl each R' j) (hnd : R'.Nodup) (hlt : ∀ t ∈ R', t.1 < each * c) :
    TH w4 hp each mn lo hi c nv bb rp rv pp uu C1 C2 tt v' R' F' T' := by
  obtain ⟨hH, hR, hge, hmn, hv, hs⟩ := hP
  refine ⟨hH.below hb, hR.below hb, hown.mono ho.2, hge, fun g hg hf => ?_, ⟨ho.1, Nat.le_trans ho.2 hb.size⟩, hmn, hspl, hnd, hlt⟩
  have := (hown.lt g hg).1
  have := hR.fp_lt hf
  omega
theorem TH.pair (h : TH w hp each mn lo hi c nv bb rp rv pp uu C1 C2 tt v R F T) (b : Below w.heap.size w w3) : TPair w w3 hp each mn lo hi c nv bb rp rv pp uu C1 tt v F T :=
  ⟨h.heap.below b, h.rh.below b, h.ge, h.mns, fun g hg => ⟨b.block g (h.row.lt g hg).2, h.dis g hg⟩, b.size⟩
end
end Go.Proofs.Ytikahcbkeempdaa
