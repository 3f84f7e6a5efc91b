/- The reference's heap: in memory; node, May. -/
import Derived.Test.YtikahcbkeempdaaHeap8
import Derived.Deep.Cut
import Derived.Deep.RegionHeld3
namespace Go.Proofs.Ytikahcbkeempdaa
open Go.RowKit Go.Maps

def rptrs (pp : Nat → Nat) (c : Nat) : List Value := (List.range c).map fun i => .pointer (some ⟨pp i, 0, none⟩)

/-- Block rp is the reference's heap of c nodes: node i's buddy is block pp i. -/
structure RHeap (w : World) (rp each : Nat) (mn : Int) (c : Nat) (rv : Value) (pp uu : Nat → Nat) (tt : Nat → Value) (T : Nat → List (Nat × Nat)) : Prop where
  blk : w.heap[rp]? = some (.cells #[.int .i64 (each : Int), .int .i64 mn, rv] 96 (0, 0))
  own : w.ownsRow 0 60 1 rv c (rptrs pp c)
  ref : ∀ i, i < c → RefAt w each (pp i) (uu i) (tt i) (Bu.used (T i)) (T i)
  off : ∀ i, i < c → ∀ x, RFp (pp i) (uu i) (tt i) x → x ≠ rp ∧ rv.ownBlock ≠ some x
  apart : ∀ i j, i < c → j < c → i ≠ j → ∀ x, RFp (pp i) (uu i) (tt i) x → ¬ RFp (pp j) (uu j) (tt j) x
  nvp : rv.ownBlock ≠ some rp

/-- The blocks of the reference's heap. -/
def RHF (rp : Nat) (rv : Value) (pp uu : Nat → Nat) (tt : Nat → Value) (c x : Nat) : Prop := x = rp ∨ rv.ownBlock = some x ∨ ∃ i, i < c ∧ RFp (pp i) (uu i) (tt i) x

section
variable {w w' : World} {rp each c : Nat} {mn : Int} {rv : Value} {pp uu : Nat → Nat} {tt : Nat → Value} {T : Nat → List (Nat × Nat)}
theorem RHeap.c0 (h : RHeap w rp each mn c rv pp uu tt T) : w.cell? ⟨rp, 0, none⟩ = some (.int .i64 (each : Int)) := by simp [World.cell?, h.blk]
theorem RHeap.c1 (h : RHeap w rp each mn c rv pp uu tt T) : w.cell? ⟨rp, 1, none⟩ = some (.int .i64 mn) := by simp [World.cell?, h.blk]
theorem RHeap.c2 (h : RHeap w rp each mn c rv pp uu tt T) : w.cell? ⟨rp, 2, none⟩ = some rv := by simp [World.cell?, h.blk]
theorem RHeap.lt (h : RHeap w rp each mn c rv pp uu tt T) : rp < w.heap.size := (Array.getElem?_eq_some_iff.1 h.blk).1
theorem RHeap.fp_lt (h : RHeap w rp each mn c rv pp uu tt T) {x : Nat} (hx : RHF rp rv pp uu tt c x) : x < w.heap.size := by
  rcases hx with rfl | hx | ⟨i, hi, hx⟩
  · exact h.lt
  · exact (h.own.lt x hx).2
  · exact hx.lt (h.ref i hi)
theorem RHeap.same (h : RHeap w rp each mn c rv pp uu tt T) (k : ∀ x, RHF rp rv pp uu tt c x → w'.heap[x]? = w.heap[x]?) : RHeap w' rp each mn c rv pp uu tt T :=
  ⟨(k rp (.inl rfl)).trans h.blk, ownsRow_same h.own fun g hg => k g (.inr (.inl hg)), fun i hi => (h.ref i hi).same (k _ (.inr (.inr ⟨i, hi, .inl rfl⟩))) (k _ (.inr (.inr ⟨i, hi, .inr (.inl rfl)⟩))) fun g hg => k g (.inr (.inr ⟨i, hi, .inr (.inr hg)⟩)), h.off, h.apart, h.nvp⟩
theorem RHeap.below (h : RHeap w rp each mn c rv pp uu tt T) (b : Below w.heap.size w w') : RHeap w' rp each mn c rv pp uu tt T := h.same fun x hx => b.block x (h.fp_lt hx)
theorem RHeap.drewN (h : RHeap w rp each mn c rv pp uu tt T) (m : Nat) : RHeap (w.drewN m) rp each mn c rv pp uu tt T := h.below (drewN_below _ _ _)
/-- One node's reference has turned. -/
theorem RHeap.turn (h : RHeap w rp each mn c rv pp uu tt T) {i : Nat} (hi : i < c) {tv' : Value} {T' : List (Nat × Nat)} (hR : RefAt w' each (pp i) (uu i) tv' (Bu.used T') T') (k : KeptF (RFp (pp i) (uu i) (tt i)) w w')
    (hn : ∀ g, tv'.ownBlock = some g → (tt i).ownBlock = some g ∨ w.heap.size ≤ g) :
    RHeap w' rp each mn c rv pp uu (fun j => if j = i then tv' else tt j) (fun j => if j = i then T' else T j) := by
  have hfp : ∀ x, RFp (pp i) (uu i) tv' x → RFp (pp i) (uu i) (tt i) x ∨ w.heap.size ≤ x := by
    rintro x (hx | hx | hx)
    · exact .inl (.inl hx)
    · exact .inl (.inr (.inl hx))
    · rcases hn x hx with e | e
      · exact .inl (.inr (.inr e))
      · exact .inr e
  refine ⟨(k.block rp h.lt fun hs => (h.off i hi rp hs).1 rfl).trans h.blk, ownsRow_same h.own fun g hg => k.block g (h.own.lt g hg).2 fun hs => (h.off i hi g hs).2 hg, fun j hj => ?_, fun j hj x hx => ?_, fun j l hj hl hne x hx hx' => ?_, h.nvp⟩
  · by_cases e : j = i
    · subst e; simpa using hR
    · simp only [if_neg e]
      have hk : ∀ x, RFp (pp j) (uu j) (tt j) x → w'.heap[x]? = w.heap[x]? := fun x hx => k.block x (hx.lt (h.ref j hj)) fun hs => h.apart i j hi hj (Ne.symm e) x hs hx
      exact (h.ref j hj).same (hk _ (.inl rfl)) (hk _ (.inr (.inl rfl))) fun g hg => hk g (.inr (.inr hg))
  · by_cases e : j = i
    · subst e
      simp only [if_pos] at hx
      rcases hfp x hx with h1 | h1
      · exact h.off j hj x h1
      · refine ⟨by have := h.lt; omega, fun e2 => ?_⟩
        have := (h.own.lt x e2).2
        omega
    · simp only [if_neg e] at hx
      exact h.off j hj x hx
  · by_cases e : j = i
    · subst e
      simp only [if_pos] at hx
      simp only [if_neg (Ne.symm hne)] at hx'
      rcases hfp x hx with h1 | h1
      · exact h.apart j l hj hl hne x h1 hx'
      · have := hx'.lt (h.ref l hl); omega
    · by_cases e2 : l = i
      · subst e2
        simp only [if_pos] at hx'
        simp only [if_neg hne] at hx
        rcases hfp x hx' with h1 | h1
        · exact h.apart j l hj hl hne x hx h1
        · have := hx.lt (h.ref j hj); omega
      · simp only [if_neg e] at hx
        simp only [if_neg e2] at hx'
        exact h.apart j l hj hl hne x hx hx'
/-- What a turn of one node leaves as it was. -/
theorem RHF.node {i : Nat} (hi : i < c) {x : Nat} (hx : RFp (pp i) (uu i) (tt i) x) : RHF rp rv pp uu tt c x := .inr (.inr ⟨i, hi, hx⟩)

theorem RHeap.ptr (h : RHeap w rp each mn c rv pp uu tt T) {i : Nat} (hi : i < c) : ∃ g cap, rv = .slice (some ⟨g, 0, none⟩) c cap ∧ w.cell? ⟨g, i, none⟩ = some (.pointer (some ⟨pp i, 0, none⟩)) := by
  obtain ⟨g, cap, rfl, _, _, hc⟩ := own_head h.own (by omega)
  refine ⟨g, cap, rfl, ?_⟩
  rw [hc i hi]
  simp [rptrs, hi]

set_option maxHeartbeats 1000000 in
theorem rnode_yes (h : RHeap w rp each mn c rv pp uu tt T) (i : Nat) (hi : i < c) : Calls Try.prog 76 #[.pointer (some ⟨rp, 0, none⟩), .int .i64 (i : Int)] w fun e w' => e = .returned (.bool true) ∧ w = w' := by
  have h2 := h.c2
  obtain ⟨g, cap, rfl, _⟩ := h.ptr hi
  have c1 : (i : Int) < (c : Int) := by omega
  clear h
  go_enter Try.func76, Try.ntmps76
  go_wp2_with fail
  go_ret
  exact ⟨rfl, rfl⟩
set_option maxHeartbeats 1000000 in
theorem rnode_no (h : RHeap w rp each mn c rv pp uu tt T) (n : Int) (hn : n < 0 ∨ (c : Int) ≤ n) : Calls Try.prog 76 #[.pointer (some ⟨rp, 0, none⟩), .int .i64 n] w fun e w' => e = .returned (.bool false) ∧ w = w' := by
  have h2 := h.c2
  obtain ⟨oa, cap, rfl, _⟩ := own_shape h.own
  clear h
  rcases hn with hn | hn
  · have c1 : ¬ (0 : Int) ≤ n := by omega
    go_enter Try.func76, Try.ntmps76
    go_wp2_with fail
    go_ret
    exact ⟨rfl, rfl⟩
  · have c0 : (0 : Int) ≤ n := by omega
    have c1 : ¬ n < (c : Int) := by omega
    go_enter Try.func76, Try.ntmps76
    go_wp2_with fail
    go_ret
    exact ⟨rfl, rfl⟩
end
end Go.Proofs.Ytikahcbkeempdaa
