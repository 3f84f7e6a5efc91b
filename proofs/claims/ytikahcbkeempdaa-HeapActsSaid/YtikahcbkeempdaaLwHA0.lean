/- HeapActs: what its regions and its walk share. -/
import Derived.Test.YtikahcbkeempdaaRHeap6
namespace Go.Proofs.Ytikahcbkeempdaa
open Go.RowKit Go.Maps

/-- The region that bears the number k. -/
def findRg (k : Nat) : Code → Option Code
  | .region i o b => if i = k then some (.region i o b) else none
  | .loop c => findRg k c
  | .seq a b => match findRg k a with
    | some c => some c
    | none => findRg k b
  | .block _ c => findRg k c
  | .scope c => findRg k c
  | .cond _ a b => match findRg k a with
    | some c => some c
    | none => findRg k b
  | _ => none

theorem sumT_pos : ∀ {T : List (Nat × Nat)} {t : Nat × Nat}, t ∈ T → 0 < Bu.sumT T
  | a :: T, t, h => by
    simp only [Bu.sumT, List.map_cons, List.sum_cons]
    have := Bu.pos2 a.2
    omega

def HA3Rel (wc : World) (R : List (Nat × Nat)) (x o : Int) (vk vl : Value) (wr : World) : Prop :=
  ∃ k : Nat, vk = .int .i64 (k : Int) ∧ k ≤ R.length ∧ wr.ownsRow wc.heap.size 51 2 vl (gone (R.take k) x o).length (takCells (gone (R.take k) x o)) ∧ Below wc.heap.size wc wr
theorem gone_step {R : List (Nat × Nat)} {x o : Int} {k : Nat} (hk : k < R.length) : gone (R.take (k + 1)) x o = if (decide (((R[k]).1 : Int) = x) && decide (((R[k]).2 : Int) = o)) = true then gone (R.take k) x o else gone (R.take k) x o ++ [((R[k]).1, (R[k]).2)] := by
  unfold gone
  rw [List.take_succ_eq_append_getElem hk, List.filter_append]
  cases h : (decide (((R[k]).1 : Int) = x) && decide (((R[k]).2 : Int) = o)) with
  | false => rw [if_neg (by decide), List.filter_cons_of_pos (by show (!(_ && _)) = true; rw [h]; rfl)]; rfl
  | true => rw [if_pos rfl, List.filter_cons_of_neg (by show ¬ (!(_ && _)) = true; rw [h]; decide)]; simp

def HALRel (wl : World) (c : Nat) (vn : Value) (wr : World) : Prop := ∃ n : Nat, vn = .int .i64 (n : Int) ∧ n ≤ c ∧ Below wl.heap.size wl wr

theorem TH.whole {w : World} {hp each c rp C1 C2 : Nat} {mn lo hi : Int} {nv rv v : Value} {bb pp uu : Nat → Nat} {tt : Nat → Value} {R : List (Nat × Nat)} {F : Nat → Nat → List Nat} {T : Nat → List (Nat × Nat)} (h : TH w hp each mn lo hi c nv bb rp rv pp uu C1 C2 tt v R F T) :
    ((R.length : Int) == 0) = wholeH F each c := by
  cases hR : R with
  | nil =>
    rw [wholeH_true fun j hj => ?_]
    · rfl
    · have h1 := (h.heap.inv j hj).sum
      have h2 : T j = [] := by rw [h.spl j hj, hR]; rfl
      rw [h2] at h1
      simpa [Bu.sumT] using h1
  | cons t R' =>
    have ht : t ∈ R := by rw [hR]; exact List.mem_cons_self ..
    have h2 : t.1 / each < c := Nat.div_lt_of_lt_mul (h.rlt t ht)
    have hm := spl_mem (each := each) ht
    rw [← h.spl _ h2] at hm
    have h1 := (h.heap.inv _ h2).sum
    have hp := sumT_pos hm
    rw [wholeH_false h2 (by omega), beq_eq_false_iff_ne, List.length_cons]
    omega
end Go.Proofs.Ytikahcbkeempdaa
