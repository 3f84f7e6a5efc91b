/- A heap and its reference side by side. -/
import Derived.Test.YtikahcbkeempdaaRHeap3
namespace Go.Proofs.Ytikahcbkeempdaa
open Go.RowKit Go.Maps

section
variable {w w' : World} {rp each c : Nat} {mn : Int} {rv : Value} {pp uu : Nat → Nat} {tt : Nat → Value} {T : Nat → List (Nat × Nat)} {F : Nat → Nat → List Nat}

theorem rmay_all (h : RHeap w rp each mn c rv pp uu tt T) (hI : ∀ j, j < c → Bu.Inv each (T j) (F j)) (i : Nat) (hi : i < c) (o : Int) :
    Calls Try.prog 66 #[.pointer (some ⟨rp, 0, none⟩), .int .i64 (i : Int), .int .i64 o] w (RMayPost w (mayF (F i) mn o)) := by
  by_cases ho : o < 0 ∨ 10 < o
  · have : mayF (F i) mn o = false := by
      unfold mayF
      rw [decide_eq_false (by omega), Bool.false_and, Bool.false_and]
    rw [this]
    exact rmay_order h i hi o ho
  · obtain ⟨k, rfl⟩ : ∃ k : Nat, o = (k : Int) := ⟨o.toNat, by omega⟩
    exact rmay_yes h hI i hi k (by omega)

def RHGivePost (w : World) (rp each : Nat) (mn : Int) (c : Nat) (rv : Value) (pp uu : Nat → Nat) (tt : Nat → Value) (T : Nat → List (Nat × Nat)) (i a o : Nat) (w' : World) : Prop :=
  ∃ m, RHTurn (w.drewN m) rp each mn c rv pp uu tt T i ((T i).erase (a, o)) w'

theorem rhgive_ok (h : RHeap w rp each mn c rv pp uu tt T) (hI : ∀ j, j < c → Bu.Inv each (T j) (F j)) (hc : c ≤ 8) (i : Nat) (hi : i < c) (a o : Nat) (ht : (a, o) ∈ T i) :
    Calls Try.prog 65 #[.pointer (some ⟨rp, 0, none⟩), .int .i64 ((i * each + a : Nat) : Int), .int .i64 (o : Int)] w fun e w' => e = .returned (.int .i64 0) ∧ RHGivePost w rp each mn c rv pp uu tt T i a o w' := by
  have I := hI i hi
  have htn := I.taken _ ht
  have hp2 := Bu.pos2 o
  refine rhgive_at h I.n_le hc i a hi (by have := htn.2.2; simp only at this; omega) (o : Int) 0 _ fun m => ?_
  refine (rgive_ok ((h.drewN m).ref i hi) I.n_le a o ht htn.1 htn.2.2 I.T_le I.disj).mono ?_
  rintro e w' ⟨rfl, tv', hR3, hk3, hob⟩
  exact ⟨rfl, m, tv', (h.drewN m).turn hi hR3 hk3 hob, hk3, hob⟩

theorem rhgive_bad (h : RHeap w rp each mn c rv pp uu tt T) (hI : ∀ j, j < c → Bu.Inv each (T j) (F j)) (hc : c ≤ 8) (i : Nat) (hi : i < c) (a o : Nat) (ha : a < each) (ho : o ≤ 10) (hn : (a, o) ∉ T i) :
    Calls Try.prog 65 #[.pointer (some ⟨rp, 0, none⟩), .int .i64 ((i * each + a : Nat) : Int), .int .i64 (o : Int)] w fun e w' => e = .returned (.int .i64 6) ∧ ∃ m, w' = w.drewN m := by
  have I := hI i hi
  refine rhgive_at h I.n_le hc i a hi ha (o : Int) 6 _ fun m => (rgive_bad ((h.drewN m).ref i hi) (a : Int) o ho I.T_le fun t ht hc => hn ?_).mono ?_
  · have : t = (a, o) := Prod.ext (by have := hc.1; simp only; omega) hc.2
    rwa [this] at ht
  · rintro e w' ⟨rfl, rfl⟩
    exact ⟨rfl, m, rfl⟩
theorem rhgive_order (h : RHeap w rp each mn c rv pp uu tt T) (hI : ∀ j, j < c → Bu.Inv each (T j) (F j)) (hc : c ≤ 8) (i : Nat) (hi : i < c) (a : Nat) (ha : a < each) (o : Int) (ho : o < 0 ∨ 10 < o) :
    Calls Try.prog 65 #[.pointer (some ⟨rp, 0, none⟩), .int .i64 ((i * each + a : Nat) : Int), .int .i64 o] w fun e w' => e = .returned (.int .i64 1) ∧ ∃ m, w' = w.drewN m := by
  refine rhgive_at h (hI i hi).n_le hc i a hi ha o 1 _ fun m => (rgive_no _ (a : Int) o _ ho).mono ?_
  rintro e w' ⟨rfl, rfl⟩
  exact ⟨rfl, m, rfl⟩
end

theorem HeapAt.lowK {w w' : World} {hp each c : Nat} {mn lo hi : Int} {nv : Value} {bb : Nat → Nat} {F T} {B C1 : Nat} (h : HeapAt w hp each mn lo hi c nv bb F T) (hS : HSpan B C1 hp c nv bb) (e : ∀ i, i < C1 → w'.heap[i]? = w.heap[i]?) : HeapAt w' hp each mn lo hi c nv bb F T :=
  ⟨(e hp hS.hp.2).trans h.blk, ownsRow_same h.own fun g hg => e g (hS.nv g hg).2, fun j hj => (h.bud j hj).same fun g _ h2 => e g (by have := (hS.bb j hj).2; omega), h.inv, h.off, h.apart, h.nvp⟩

/-- A heap, its reference, and the row v of the runs R that are taken. -/
structure TH (w : World) (hp each : Nat) (mn lo hi : Int) (c : Nat) (nv : Value) (bb : Nat → Nat) (rp : Nat) (rv : Value) (pp uu : Nat → Nat) (C1 C2 : Nat) (tt : Nat → Value) (v : Value) (R : List (Nat × Nat)) (F : Nat → Nat → List Nat) (T : Nat → List (Nat × Nat)) : Prop where
  heap : HeapAt w hp each mn lo hi c nv bb F T
  rh : RHeap w rp each mn c rv pp uu tt T
  row : w.ownsRow C2 51 2 v R.length (takCells R)
  ge : ∀ x, RHF rp rv pp uu tt c x → C1 ≤ x
  dis : ∀ g, v.ownBlock = some g → ¬ RHF rp rv pp uu tt c g
  ord : C1 ≤ C2 ∧ C2 ≤ w.heap.size
  mns : ∀ i, i < c → mn ≤ (Bu.sumF (F i) 11 : Int)
  spl : ∀ j, j < c → T j = spl each R j
  rnd : R.Nodup
  rlt : ∀ t ∈ R, t.1 < each * c

section
variable {w w' : World} {hp each c rp C1 C2 B : Nat} {mn lo hi : Int} {nv rv v v' : Value} {bb pp uu : Nat → Nat} {tt : Nat → Value} {R R' : List (Nat × Nat)} {F F' : Nat → Nat → List Nat} {T T' : Nat → List (Nat × Nat)}
theorem TH.below (h : TH w hp each mn lo hi c nv bb rp rv pp uu C1 C2 tt v R F T) (b : Below w.heap.size w w') : TH w' hp each mn lo hi c nv bb rp rv pp uu C1 C2 tt v R F T :=
  ⟨h.heap.below b, h.rh.below b, ownsRow_same h.row fun g hg => b.block g (h.row.lt g hg).2, h.ge, h.dis, ⟨h.ord.1, Nat.le_trans h.ord.2 b.size⟩, h.mns, h.spl, h.rnd, h.rlt⟩
theorem TH.drewN (h : TH w hp each mn lo hi c nv bb rp rv pp uu C1 C2 tt v R F T) (m : Nat) : TH (w.drewN m) hp each mn lo hi c nv bb rp rv pp uu C1 C2 tt v R F T := h.below (drewN_below _ _ _)

theorem sumT_app (S T : List (Nat × Nat)) : Bu.sumT (S ++ T) = Bu.sumT S + Bu.sumT T := by simp [Bu.sumT]
theorem sumT_erase (t : Nat × Nat) : ∀ T : List (Nat × Nat), Bu.sumT (T.erase t) ≤ Bu.sumT T
  | [] => Nat.le_refl _
  | a :: T => by
    by_cases e : a = t
    · subst e
      rw [List.erase_cons_head]
      simp [Bu.sumT]
    · have h1 : (a :: T).erase t = a :: T.erase t := by rw [List.erase_cons]; simp [e]
      rw [h1]
      have := sumT_erase t T
      simp only [Bu.sumT, List.map_cons, List.sum_cons] at this ⊢
      omega

/-- A node's buddy has turned: the reference, the row and the heap's blocks of the others are as they were. -/
theorem TH.afterHeap (h : TH w hp each mn lo hi c nv bb rp rv pp uu C1 C2 tt v R F T) (hS : HSpan B C1 hp c nv bb) {i : Nat} (hi' : i < c) (hk : Kept (bb i) (bb i + 13) w w') :
    RHeap w' rp each mn c rv pp uu tt T ∧ w'.ownsRow C2 51 2 v R.length (takCells R) := by
  have hb := (hS.bb i hi').2
  refine ⟨h.rh.same fun x hx => hk.block x (h.rh.fp_lt hx) (by have := h.ge x hx; omega), ownsRow_same h.row fun g hg => hk.block g (h.row.lt g hg).2 (by have := (h.row.lt g hg).1; have := h.ord; omega)⟩

theorem RHF.turn {i : Nat} {tv' : Value} {N : Nat} (hn : ∀ g, tv'.ownBlock = some g → (tt i).ownBlock = some g ∨ N ≤ g) (hi' : i < c) {x : Nat} (hx : RHF rp rv pp uu (fun j => if j = i then tv' else tt j) c x) : RHF rp rv pp uu tt c x ∨ N ≤ x := by
  rcases hx with hx | hx | ⟨j, hj, hx⟩
  · exact .inl (.inl hx)
  · exact .inl (.inr (.inl hx))
  · by_cases e : j = i
    · subst e
      simp only [if_pos] at hx
      rcases hx with hx | hx | hx
      · exact .inl (.inr (.inr ⟨j, hj, .inl hx⟩))
      · exact .inl (.inr (.inr ⟨j, hj, .inr (.inl hx)⟩))
      · rcases hn x hx with e | e
        · exact .inl (.inr (.inr ⟨j, hj, .inr (.inr e)⟩))
        · exact .inr e
    · simp only [if_neg e] at hx
      exact .inl (.inr (.inr ⟨j, hj, hx⟩))
end
end Go.Proofs.Ytikahcbkeempdaa
