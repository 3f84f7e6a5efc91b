/- The ring of whole numbers, and that of texts: their functions walked. (Printed by ringgen.py.) -/
import Derived.Test.YtikahcbkeempdaaDoorRing0
import Derived.Deep.Cut
import Derived.Deep.QuietTactic
import Derived.BigQuiet
import Derived.Lib.Hide
namespace Go.Proofs.YtikahcbkeempdaaDoor
open Go.RowKit Go.Conc

/-- Block p is a ring: a channel, block c, with so much room, that holds l. -/
def RingAt (T : TypeId) (w : World) (p c cap : Nat) (l : List Value) : Prop :=
  w.heap[p]? = some (.cells #[.chan (some c)] T (0, 0)) ∧ ∃ s r, w.heap[c]? = some (.chan cap l.toArray false s r false)

theorem RingAt.ne {T : TypeId} {w : World} {p c cap : Nat} {l : List Value} (h : RingAt T w p c cap l) : p ≠ c := by
  obtain ⟨hp, s, r, hc⟩ := h
  intro e
  subst e
  rw [hp] at hc
  cases hc
theorem RingAt.same {T : TypeId} {w w' : World} {p c cap : Nat} {l : List Value} (h : RingAt T w p c cap l) (e1 : w'.heap[p]? = w.heap[p]?) (e2 : w'.heap[c]? = w.heap[c]?) : RingAt T w' p c cap l :=
  ⟨e1.trans h.1, let ⟨s, r, hc⟩ := h.2; ⟨s, r, e2.trans hc⟩⟩
theorem RingAt.lt {T : TypeId} {w : World} {p c cap : Nat} {l : List Value} (h : RingAt T w p c cap l) : p < w.heap.size ∧ c < w.heap.size :=
  ⟨(Array.getElem?_eq_some_iff.1 h.1).1, let ⟨_, _, hc⟩ := h.2; (Array.getElem?_eq_some_iff.1 hc).1⟩
theorem RingAt.kept {T : TypeId} {w w' : World} {p c cap lo hi : Nat} {l : List Value} (h : RingAt T w p c cap l) (k : Kept lo hi w w') (hp : ¬ (lo ≤ p ∧ p < hi)) (hc : ¬ (lo ≤ c ∧ c < hi)) : RingAt T w' p c cap l :=
  h.same (k.block p h.lt.1 hp) (k.block c h.lt.2 hc)
theorem Kept.setChan {lo hi : Nat} {a w : World} (h : Kept lo hi a w) (c cap : Nat) (buf : Array Value) (cl : Bool) (s r : Nat) (tm : Bool) (hc : lo ≤ c ∧ c < hi) : Kept lo hi a (w.setChan c cap buf cl s r tm) :=
  h.trans ⟨rfl, rfl, rfl, by simp [World.setChan], fun i _ hn => by simp only [World.setChan]; rw [Array.getElem?_setIfInBounds_ne (fun e => hn (by rw [← e]; exact hc))]⟩
theorem RingAt.setChan {T : TypeId} {w : World} {p c cap : Nat} {l : List Value} (h : RingAt T w p c cap l) (l' : List Value) (s r : Nat) : RingAt T (w.setChan c cap l'.toArray false s r false) p c cap l' := by
  have hne := h.ne
  have hlt := h.lt
  refine ⟨?_, s, r, heap_setChan _ _ _ _ _ _ _ _ hlt.2⟩
  simp only [World.setChan]
  rw [Array.getElem?_setIfInBounds_ne (Ne.symm hne)]
  exact h.1

theorem ne_own {w : World} {base e n k : Nat} {v : Value} {xs : List Value} (h : w.ownsRow base e 1 v n xs) (hk : k < base) : some k ≠ v.ownBlock := fun e => by
  have := (h.lt k e.symm).1
  omega

def ringLen (w : World) (c : Nat) : Nat := match w.heap[c]? with | some (.chan _ b _ _ _ _) => b.size | _ => 0
theorem ringLen_eq {T : TypeId} {w : World} {p c cap : Nat} {l : List Value} (h : RingAt T w p c cap l) : ringLen w c = l.length := by
  obtain ⟨_, s, r, hc⟩ := h
  simp [ringLen, hc]

theorem ownsRow_kept {w w' : World} {base lo hi : Nat} {e : TypeId} {n : Nat} {v : Value} {xs : List Value} (h : w.ownsRow base e 1 v n xs) (k : Kept lo hi w w') (hv : ∀ g, v.ownBlock = some g → ¬ (lo ≤ g ∧ g < hi)) : w'.ownsRow base e 1 v n xs := by
  refine ⟨h.1, ?_⟩
  rcases h.2 with h2 | ⟨g, cap, cur, rfl, hg, hb, r⟩
  · exact .inl h2
  · exact .inr ⟨g, cap, cur, rfl, hg, (k.block g (Array.getElem?_eq_some_iff.1 hb).1 (hv g rfl)).trans hb, r⟩

/-! ### int -/
theorem infoIr : (Tryd.prog.info? 3).map (fun i => (i.zero, i.size, i.bytes)) = some (some (.int .i64 0), 1, 8) := by kernel_rfl

set_option maxHeartbeats 400000 in
theorem putI_ok {w : World} {p c cap : Nat} {l : List Value} (h : RingAt 84 w p c cap l) (hroom : l.length < cap) (x : Int) :
    Calls Tryd.prog 16 #[.pointer (some ⟨p, 0, none⟩), (Value.int .i64) x] w fun e w' => e = .returned (.bool true) ∧ RingAt 84 w' p c cap (l ++ [(Value.int .i64) x]) ∧ Kept c (c + 1) w w' := by
  have h' := h
  obtain ⟨hp, s, r, hc⟩ := h
  have hcell : w.cell? ⟨p, 0, none⟩ = some (.chan (some c)) := by simp [World.cell?, hp]
  have HC := Lib.hid hc
  have H := Lib.hid h'
  clear hp hc h'
  go_enter Tryd.func16, Tryd.ntmps16
  go_upto_region 5 with (fail)
  refine wp_select_send (x := (Value.int .i64) x) (z := .int .i64 0) rfl (by simp [go_sem, execOp, scase, Act.eval]) HC.out hroom ?_
  go_wp2
  go_ret
  exact ⟨rfl, H.out.setChan _ _ _, (Kept.refl _ _ _).setChan _ _ _ _ _ _ _ ⟨by omega, by omega⟩⟩

set_option maxHeartbeats 400000 in
theorem putI_full {w : World} {p c cap : Nat} {l : List Value} (h : RingAt 84 w p c cap l) (hfull : cap ≤ l.length) (x : Int) :
    Calls Tryd.prog 16 #[.pointer (some ⟨p, 0, none⟩), (Value.int .i64) x] w fun e w' => e = .returned (.bool false) ∧ w = w' := by
  obtain ⟨hp, s, r, hc⟩ := h
  have hcell : w.cell? ⟨p, 0, none⟩ = some (.chan (some c)) := by simp [World.cell?, hp]
  have HC := Lib.hid hc
  clear hp hc
  go_enter Tryd.func16, Tryd.ntmps16
  go_upto_region 5 with (fail)
  refine wp_select_full (x := (Value.int .i64) x) (z := .int .i64 0) rfl (by simp [go_sem, execOp, scase, Act.eval]) HC.out hfull ?_
  go_wp2
  go_ret
  exact ⟨rfl, rfl⟩

set_option maxHeartbeats 400000 in
theorem takeI_ok {w : World} {p c cap : Nat} {x : Int} {l : List Value} (h : RingAt 84 w p c cap ((Value.int .i64) x :: l)) :
    Calls Tryd.prog 20 #[.pointer (some ⟨p, 0, none⟩)] w fun e w' => e = .returned (.tuple #[(Value.int .i64) x, .bool true]) ∧ RingAt 84 w' p c cap l ∧ Kept c (c + 1) w w' := by
  have h' := h
  obtain ⟨hp, s, r, hc⟩ := h
  have hcell : w.cell? ⟨p, 0, none⟩ = some (.chan (some c)) := by simp [World.cell?, hp]
  have HC := Lib.hid hc
  have H := Lib.hid h'
  clear hp hc h'
  go_enter Tryd.func20, Tryd.ntmps20
  go_upto_region 5 with (fail)
  refine wp_select_recv (z := .int .i64 0) rfl (by simp [go_sem, execOp, rcase, Act.eval]) HC.out ?_
  go_wp2
  go_ret2
  exact ⟨rfl, H.out.setChan _ _ _, (Kept.refl _ _ _).setChan _ _ _ _ _ _ _ ⟨by omega, by omega⟩⟩

set_option maxHeartbeats 400000 in
theorem takeI_none {w : World} {p c cap : Nat} (h : RingAt 84 w p c cap []) :
    Calls Tryd.prog 20 #[.pointer (some ⟨p, 0, none⟩)] w fun e w' => e = .returned (.tuple #[.int .i64 0, .bool false]) ∧ w = w' := by
  obtain ⟨hp, s, r, hc⟩ := h
  have hcell : w.cell? ⟨p, 0, none⟩ = some (.chan (some c)) := by simp [World.cell?, hp]
  have HC := Lib.hid hc
  clear hp hc
  go_enter Tryd.func20, Tryd.ntmps20
  go_upto_region 5 with (fail)
  refine wp_select_empty (z := .int .i64 0) rfl (by simp [go_sem, execOp, rcase, Act.eval]) HC.out ?_
  go_wp2
  go_ret2
  exact ⟨rfl, rfl⟩

set_option maxHeartbeats 400000 in
theorem lenI_any {w : World} {p c cap : Nat} {l : List Value} (h : RingAt 84 w p c cap l) :
    Calls Tryd.prog 23 #[.pointer (some ⟨p, 0, none⟩)] w fun e w' => e = .returned (.int .i64 l.length) ∧ w = w' := by
  obtain ⟨hp, s, r, hc⟩ := h
  have hcell : w.cell? ⟨p, 0, none⟩ = some (.chan (some c)) := by simp [World.cell?, hp]
  have hlen := fun ty => run_len_chan (P := Tryd.prog) 82 ty Tryd.underlying82 hc
  clear hp hc
  go_enter Tryd.func23, Tryd.ntmps23
  go_wp2
  go_ret
  exact ⟨by simp, rfl⟩


set_option maxRecDepth 100000 in
set_option maxHeartbeats 400000 in
theorem newRI_ok (n : Nat) (w : World) (h1 : 1 ≤ n) (h2 : n ≤ 64) :
    Calls Tryd.prog 9 #[.int .i64 (n : Int)] w fun e w' => e = .returned (.tuple #[.pointer (some ⟨w.heap.size + 1, 0, none⟩), .int .i64 0]) ∧ RingAt 84 w' (w.heap.size + 1) w.heap.size n [] ∧ Below w.heap.size w w' ∧ w'.heap.size = w.heap.size + 2 := by
  obtain ⟨i0, hi, hz0, hz1, hz2⟩ := info_parts infoIr
  have hmk := Conc.run_makeChan (P := Tryd.prog) (w := w) (t := 82) Tryd.underlying82 hi .i64 n (by omega) (by rw [hz2]; omega)
  clear hi hz0 hz1 hz2
  go_enter Tryd.func9, Tryd.ntmps9
  go_wp2
  go_ret2
  refine ⟨rfl, ⟨?_, 0, 0, ?_⟩, ((Below.refl _ _).alloc (Nat.le_refl _) _).alloc (by simp) _, by simp⟩
  · have := heap_alloc_new (w.alloc (.chan n #[] false 0 0 false)) (.cells #[.chan (some w.heap.size)] 84)
    rw [World.size_alloc] at this
    exact this
  · rw [Below.heap_alloc _ _ _ (by simp)]
    exact heap_alloc_new w _

def AllIRel (w : World) (p c cap : Nat) (l : List Int) (v : Value) (wr : World) : Prop :=
  ∃ done rest : List Int, l = done ++ rest ∧ RingAt 84 wr p c cap (rest.map (Value.int .i64)) ∧ wr.ownsRow w.heap.size 3 1 v done.length (done.map (Value.int .i64)) ∧ Kept c (c + 1) w wr

set_option maxRecDepth 100000 in
set_option maxHeartbeats 1000000 in
theorem allI_any {w : World} {p c cap : Nat} {l : List Int} (h : RingAt 84 w p c cap (l.map (Value.int .i64))) (hle : l.length ≤ 64) :
    Calls Tryd.prog 18 #[.pointer (some ⟨p, 0, none⟩)] w fun e w' => ∃ v, e = .returned v ∧ w'.ownsRow w.heap.size 3 1 v l.length (l.map (Value.int .i64)) ∧ RingAt 84 w' p c cap [] ∧ Kept c (c + 1) w w' := by
  obtain ⟨i0, hi, hz0, hz1, hz2⟩ := info_parts infoIr
  have hlt := h.lt
  have H := Lib.hid h
  clear h
  go_enter Tryd.func18, Tryd.ntmps18
  go_wp2
  go_loopw [3] (fun v wr => AllIRel w p c cap l v wr) (fun _ wr => ringLen wr c)
  case atStart => exact ⟨[], l, rfl, H.out, World.ownsRow_nil _ _ _ _, Kept.refl _ _ _⟩
  case round =>
    obtain ⟨done, rest, hl, hr, hrow, hk⟩ := hrel
    cases rest with
    | nil =>
      have HL := Lib.hid hl
      have HR := Lib.hid hr
      clear hl hr H
      go_wp2_with (go_at_call 20; refine (takeI_none HR.out).mono ?_; rintro e w' ⟨rfl, rfl⟩)
      go_ret
      refine ⟨_, rfl, ?_, HR.out, hk⟩
      rw [HL.out, List.append_nil]
      exact hrow
    | cons x rest =>
      have hlen : done.length < 64 := by rw [hl] at hle; simp at hle; omega
      have HL := Lib.hid hl
      have HR := Lib.hid hr
      clear hl hr H hle
      go_wp2_with (first
        | (go_at_call 20; refine (takeI_ok HR.out).mono ?_; rintro e w2 ⟨rfl, hr2, hk2⟩; have hrow2 : w2.ownsRow w.heap.size 3 1 _ done.length (done.map (Value.int .i64)) := ownsRow_kept hrow hk2 (fun k hkk => by have := (hrow.lt k hkk).1; omega); have HR2 := Lib.hid hr2; clear hr2)
        | (at_builtin; refine wpList_append_own _ rfl _ _ 22 rfl w.heap.size 3 i0 (.int .i64 0) 1 8 Tryd.underlying22 hi hz0 hz1 hz2 rfl (by decide) _ _ _ rfl (hrow2.alloc _) ⟨w2.heap.size, 0, none⟩ 1 1 [(Value.int .i64) x] rfl rfl (cell_one_new _ _ _) (by simp [Value.oneCell']) (by unfold maxLen; omega) (by omega) (by have := hk.size; have := hk2.size; simp; omega) ?_; intro v' w3 hown' hg3 hnil3; go_frame)
        | go_in)
      have hr3 := (HR2.out.same (w' := w2.alloc (.cells #[(Value.int .i64) x] 3)) (Below.heap_alloc _ _ _ HR2.out.lt.1) (Below.heap_alloc _ _ _ HR2.out.lt.2)).same (hg3.block _ (by have := HR2.out.lt.1; simp; omega) (ne_own hrow2 (by have := HR2.out.lt.1; have := hk.size; have := hk2.size; omega))) (hg3.block _ (by have := HR2.out.lt.2; simp; omega) (ne_own hrow2 (by omega)))
      have hkk := (((hk.trans hk2).alloc (.cells #[(Value.int .i64) x] 3)).grown hg3 (fun k e => .inr (hrow2.lt k e).1))
      go_roundw
      case rel =>
        refine ⟨done ++ [x], rest, by rw [HL.out]; simp, hr3, by simpa using hown', hkk⟩
      case measure => rw [ringLen_eq hr3, ringLen_eq HR.out]; simp

set_option maxHeartbeats 400000 in
theorem putRI_nil (x : Int) (w : World) : Calls Tryd.prog 16 #[.pointer none, (Value.int .i64) x] w fun e w' => e = .returned (.bool false) ∧ w = w' := by
  go_enter Tryd.func16, Tryd.ntmps16
  go_wp2
  go_ret
  exact ⟨rfl, rfl⟩

/-! ### string -/











end Go.Proofs.YtikahcbkeempdaaDoor
