/- heap: New walked. -/
import Derived.Test.YtikahcbkeempdaaHeap5
import Derived.Deep.AppendLies
namespace Go.Proofs.Ytikahcbkeempdaa
open Go.RowKit Go.Maps

theorem infoPB : (Try.prog.info? 44).map (fun i => (i.zero, i.size, i.bytes)) = some (some (.pointer none), 1, 8) := by kernel_rfl

theorem ptrs_snoc (bb : Nat → Nat) (i b : Nat) : ptrs (fun j => if j = i then b else bb j) (i + 1) = ptrs bb i ++ [.pointer (some ⟨b + 1, 0, none⟩)] := by
  unfold ptrs
  rw [List.range_succ, List.map_append, List.map_singleton]
  congr 1
  · exact List.map_congr_left fun j hj => by
      have := List.mem_range.1 hj
      have e : j ≠ i := by omega
      simp [e]
  · simp

theorem HeapAt.push {w2 w3 : World} {hp each i : Nat} {mn lo hi : Int} {nv : Value} {bb : Nat → Nat} {F0 : Nat → List Nat} {T0 : List (Nat × Nat)} (h : HeapAt w2 hp each mn lo hi i nv bb (fun _ => F0) (fun _ => T0)) {b : Nat} (hB : Bud w2 b each F0 T0) (I : Bu.Inv each T0 F0)
    (hfar : ∀ j, j < i → bb j + 13 ≤ b) (hb1 : hp < b) (hnvb : ∀ g, nv.ownBlock = some g → g < b) {o : Obj} (hg : (w2.alloc o).grownBy w3 nv.ownBlock) {g cap : Nat}
    (hown : w3.ownsRow 0 44 1 (.slice (some ⟨g, 0, none⟩) (i + 1) cap) (i + 1) (ptrs bb i ++ [.pointer (some ⟨b + 1, 0, none⟩)])) (hat : nv.ownBlock = some g ∨ g = w2.heap.size + 1) :
    HeapAt (w3.setCell ⟨hp, 4, none⟩ (.slice (some ⟨g, 0, none⟩) (i + 1) cap)) hp each mn lo hi (i + 1) (.slice (some ⟨g, 0, none⟩) (i + 1) cap) (fun j => if j = i then b else bb j) (fun _ => F0) (fun _ => T0) := by
  have hbl := hB.lt
  have hpl := h.lt
  have hgp : g ≠ hp := by
    rcases hat with e | e
    · exact fun e2 => h.nvp (by rw [e, e2])
    · omega
  have hk : ∀ x, x < w2.heap.size → nv.ownBlock ≠ some x → w3.heap[x]? = w2.heap[x]? := fun x hx hne => (hg.block x (by simp; omega) hne.symm).trans (Below.heap_alloc _ _ _ hx)
  have hk' : ∀ x, x < w2.heap.size → nv.ownBlock ≠ some x → x ≠ hp → (w3.setCell ⟨hp, 4, none⟩ (.slice (some ⟨g, 0, none⟩) (i + 1) cap)).heap[x]? = w2.heap[x]? := fun x hx hne hp' => (Below.heap_setCell _ _ _ _ hp').trans (hk x hx hne)
  have h3 := (hk hp hpl h.nvp).trans h.blk
  refine ⟨?_, ?_, fun j hj => ?_, fun j hj => I, fun j hj x hx => ?_, fun j k hj hk2 hne => ?_, fun e => hgp (by simpa [Value.ownBlock] using e)⟩
  · simp [World.setCell, Array.getElem?_modify, h3]
  · rw [ptrs_snoc]
    exact ownsRow_same hown fun x hx => Below.heap_setCell _ _ _ _ (by
      have : g = x := by simpa [Value.ownBlock] using hx
      show x ≠ hp
      omega)
  · by_cases e : j = i
    · rw [if_pos e]
      exact hB.same fun x h1 h2 => hk' x (by omega) (fun e2 => by have := hnvb x e2; omega) (by omega)
    · rw [if_neg e]
      have hj' : j < i := by omega
      exact (h.bud j hj').same fun x h1 h2 => hk' x (by have := (h.bud j hj').lt; omega) (fun e2 => h.off j hj' x (.inr e2) ⟨h1, h2⟩) (fun e2 => h.off j hj' x (.inl e2) ⟨h1, h2⟩)
  · have hx' : x = hp ∨ x = g := by
      rcases hx with e | e
      · exact .inl e
      · exact .inr (by simpa [Value.ownBlock] using e.symm)
    by_cases e : j = i
    · rw [if_pos e]
      rcases hx' with e2 | e2
      · omega
      · rcases hat with e3 | e3
        · have := hnvb g e3; omega
        · omega
    · rw [if_neg e]
      have hj' : j < i := by omega
      rcases hx' with e2 | e2
      · exact h.off j hj' x (.inl e2)
      · rcases hat with e3 | e3
        · exact h.off j hj' x (.inr (by rw [e3, e2]))
        · have := (h.bud j hj').lt; omega
  · by_cases e : j = i <;> by_cases e2 : k = i
    · omega
    · rw [if_pos e, if_neg e2]; have := hfar k (by omega); omega
    · rw [if_neg e, if_pos e2]; have := hfar j (by omega); omega
    · rw [if_neg e, if_neg e2]; exact h.apart j k (by omega) (by omega) hne

/-- All of a heap lies in the blocks from B on, below C. -/
structure HSpan (B C hp c : Nat) (nv : Value) (bb : Nat → Nat) : Prop where
  hp : B ≤ hp ∧ hp < C
  nv : ∀ g, nv.ownBlock = some g → B ≤ g ∧ g < C
  bb : ∀ i, i < c → B ≤ bb i ∧ bb i + 13 ≤ C

def HNewOk (w : World) (each : Nat) (mn lo hi : Int) (c : Nat) (e : Ending) (w' : World) : Prop :=
  ∃ hp nv bb, e = .returned (.tuple #[.pointer (some ⟨hp, 0, none⟩), .int .i64 0]) ∧ HeapAt w' hp each mn lo hi c nv bb (fun _ => Bu.newF each) (fun _ => []) ∧ HSpan w.heap.size w'.heap.size hp c nv bb ∧ Below w.heap.size w w'
def HNewPost (w : World) (each : Nat) (mn lo hi : Int) (c : Nat) (e : Ending) (w' : World) : Prop :=
  ((0 ≤ mn ∧ mn ≤ lo ∧ lo ≤ hi ∧ hi ≤ (each : Int)) ∧ HNewOk w each mn lo hi c e w') ∨
    (¬ (0 ≤ mn ∧ mn ≤ lo ∧ lo ≤ hi ∧ hi ≤ (each : Int)) ∧ e = .returned (.tuple #[.pointer none, .int .i64 1]) ∧ Below w.heap.size w w')

def marksBlk (mn lo hi : Int) : Obj := .cells #[.int .i64 mn, .int .i64 lo, .int .i64 hi] 82 (0, 0)
def HNewRel (w : World) (each : Nat) (mn lo hi : Int) (c : Nat) (vi : Value) (wr : World) : Prop :=
  ∃ (i : Nat) (nv : Value) (bb : Nat → Nat), vi = .int .i64 (i : Int) ∧ i ≤ c ∧ HeapAt wr (w.heap.size + 1) each mn lo hi i nv bb (fun _ => Bu.newF each) (fun _ => []) ∧ (∀ j, j < i → w.heap.size + 2 ≤ bb j) ∧
    (∀ g, nv.ownBlock = some g → w.heap.size + 2 ≤ g) ∧ wr.heap[w.heap.size]? = some (marksBlk mn lo hi) ∧ Below w.heap.size w wr

set_option maxHeartbeats 400000 in
theorem hnew_no (c each mn lo hi : Int) (w : World) (hc : c < 1 ∨ 8 < c) :
    Calls Try.prog 51 #[.int .i64 c, .int .i64 each, .agg #[.int .i64 mn, .int .i64 lo, .int .i64 hi]] w fun e w' => e = .returned (.tuple #[.pointer none, .int .i64 3]) ∧ Below w.heap.size w w' := by
  rcases hc with hc | hc
  · go_enter Try.func51, Try.ntmps51
    go_wp2_with fail
    go_ret2
    exact ⟨rfl, (Below.refl _ _).alloc (Nat.le_refl _) _⟩
  · have h1 : ¬ c < 1 := by omega
    go_enter Try.func51, Try.ntmps51
    go_wp2_with fail
    go_ret2
    exact ⟨rfl, (Below.refl _ _).alloc (Nat.le_refl _) _⟩

set_option maxRecDepth 100000 in
set_option maxHeartbeats 1000000 in
theorem hnew_each (c each mn lo hi : Int) (w : World) (hc1 : 1 ≤ c) (hc8 : c ≤ 8) (he : each < 1 ∨ 1024 < each ∨ (1 ≤ each ∧ each ≤ 1024 ∧ bits .and .i64 each (each - 1) ≠ 0)) :
    Calls Try.prog 51 #[.int .i64 c, .int .i64 each, .agg #[.int .i64 mn, .int .i64 lo, .int .i64 hi]] w fun e w' => e = .returned (.tuple #[.pointer none, .int .i64 3]) ∧ Below w.heap.size w w' := by
  have HE := Lib.hid he
  have h1 : ¬ c < 1 := by omega
  have h2 : ¬ 8 < c := by omega
  clear he
  go_enter Try.func51, Try.ntmps51
  go_wp2_with fail
  go_loopw [22] (fun vi wr => vi = .int .i64 0 ∧ Below w.heap.size w wr) (fun _ _ => 0)
  case atStart => exact ⟨rfl, ((Below.refl _ _).alloc (Nat.le_refl _) _).alloc (by simp) _⟩
  case round =>
    obtain ⟨rfl, hb⟩ := hrel
    have c0 : (0 : Int) < c := by omega
    go_wp2_with fail
    refine (new_no _ _ HE.out).mono ?_
    rintro e w2 ⟨rfl, rfl⟩
    go_wp2_with fail
    go_ret2
    exact ⟨rfl, hb⟩

set_option maxRecDepth 100000 in
set_option maxHeartbeats 2000000 in
theorem hnew_any (c each N : Nat) (mn lo hi : Int) (w : World) (hc1 : 1 ≤ c) (hc8 : c ≤ 8) (hN : N ≤ 10) (hn : each = 2 ^ N) :
    Calls Try.prog 51 #[.int .i64 (c : Int), .int .i64 (each : Int), .agg #[.int .i64 mn, .int .i64 lo, .int .i64 hi]] w (HNewPost w each mn lo hi c) := by
  obtain ⟨i0, hi0, hz0, hz1, hz2⟩ := info_parts infoPB
  have HIN := Lib.hid (Bu.inv_new hN hn)
  have HN := Lib.hid hn
  have c1 : ¬ (c : Int) < 1 := by omega
  have c8 : ¬ (8 : Int) < (c : Int) := by omega
  clear hn
  go_enter Try.func51, Try.ntmps51
  go_wp2_with fail
  go_loopw [22] (fun vi wr => HNewRel w each mn lo hi c vi wr) (fun vi _ => c - (intOf vi).toNat)
  case atStart =>
    refine ⟨0, .slice none 0 0, fun _ => 0, rfl, Nat.zero_le _, ⟨?_, ?_, (fun j hj => absurd hj (by omega)), (fun j hj => absurd hj (by omega)), (fun j hj => absurd hj (by omega)), (fun j k hj => absurd hj (by omega)), (by simp [Value.ownBlock])⟩, (fun j hj => absurd hj (by omega)), (by simp [Value.ownBlock]), ?_, ((Below.refl _ _).alloc (Nat.le_refl _) _).alloc (by simp) _⟩
    · have := heap_alloc_new (w.alloc (marksBlk mn lo hi)) (.cells #[.int .i64 (each : Int), .int .i64 mn, .int .i64 lo, .int .i64 hi, .slice none 0 0] 117)
      rw [World.size_alloc] at this
      exact this
    · exact World.ownsRow_nil _ _ _ _
    · exact (Below.heap_alloc _ _ _ (by simp)).trans (heap_alloc_new w (marksBlk mn lo hi))
  case round =>
    obtain ⟨i, nv, bb, rfl, hi', hH, hbb, hnb, hmk, hb⟩ := hrel
    have HM := Lib.hid hmk
    have HBB := Lib.hid hbb
    have HNB := Lib.hid hnb
    by_cases e : i < c
    · have ci : (i : Int) < (c : Int) := by omega
      have hnew := Lib.hid (new_ok each N hN HN.out wr)
      have HH := Lib.hid hH
      clear hH hmk hbb hnb
      go_wp2_with fail
      refine hnew.out.mono ?_
      rintro e w2 ⟨rfl, hB2, hb2⟩
      have hH2 := HH.out.below hb2
      have h4 := hH2.c4
      have hown := hH2.own
      have hs2 := hb2.size
      have hs := hb.size
      have hpl := hH2.lt
      have HH2 := Lib.hid hH2
      have HB2 := Lib.hid hB2
      have hb12 := hb.trans (hb2.mono hb.size)
      clear hH2 hB2
      go_wp2_with (first
        | (at_builtin; refine wpList_append_lies _ rfl _ _ 115 rfl 0 44 i0 (.pointer none) 1 8 Try.underlying115 hi0 hz0 hz1 hz2 rfl (by decide) _ _ _ rfl (hown.alloc _) ⟨w2.heap.size, 0, none⟩ 1 1 [.pointer (some ⟨wr.heap.size + 1, 0, none⟩)] rfl rfl (cell_one_new _ _ _) (by simp [Value.oneCell']) (by decide) (by unfold maxLen; omega) (by omega) (by simp) (w2.heap.size + 1) (by simp) ?_; intro g3 cap3 w3 hown3 hg3 hat3 hlt3; have hblk3 := (hg3.block (w.heap.size + 1) (by simp; omega) HH2.out.nvp.symm).trans ((Below.heap_alloc _ _ _ hpl).trans HH2.out.blk); have hc3 : w3.cell? ⟨w.heap.size + 1, 4, none⟩ = some nv := (by simp [World.cell?, hblk3]); have hf3 : w3.frozen? ⟨w.heap.size + 1, 4, none⟩ = false := (by simp [World.frozen?, hblk3]); clear hblk3))
      go_roundw
      case rel =>
        have hbl : ∀ j, j < i → bb j + 13 ≤ wr.heap.size := fun j hj => by have := (HH.out.bud j hj).lt; omega
        refine ⟨i + 1, _, fun j => if j = i then wr.heap.size else bb j, by go_num, by omega, HH2.out.push HB2.out HIN.out hbl (by have := HH.out.lt; omega) (fun g hg => (HH.out.own.lt g hg).2) hg3 hown3 hat3, fun j hj => ?_, fun g hg => ?_, ?_, ?_⟩
        · show w.heap.size + 2 ≤ if j = i then wr.heap.size else bb j
          split
          · have := HH.out.lt; omega
          · exact HBB.out j (by omega)
        · have hg' : g3 = g := by simpa [Value.ownBlock] using hg
          rcases hat3 with e3 | e3
          · exact HNB.out g (e3.trans (congrArg some hg'))
          · have := HH.out.lt; omega
        · have hne : nv.ownBlock ≠ some w.heap.size := fun e2 => by have := HNB.out _ e2; omega
          exact (Below.heap_setCell _ _ _ _ (by show w.heap.size ≠ w.heap.size + 1; omega)).trans ((hg3.block _ (by simp; omega) hne.symm).trans ((Below.heap_alloc _ _ _ (by omega)).trans ((hb2.block _ (by have := HH.out.lt; omega)).trans HM.out)))
        · exact ((hb12.alloc (by omega) _).grown hg3 (by simp; omega) (fun g hg => by have := HNB.out g hg; omega)).setCell (p := ⟨w.heap.size + 1, 4, none⟩) (by show w.heap.size ≤ w.heap.size + 1; omega) _
      case measure => simp [intOf]; omega
    · have ci : ¬ (i : Int) < (c : Int) := by omega
      obtain rfl : i = c := by omega
      have m0 : wr.cell? ⟨w.heap.size, 0, none⟩ = some (.int .i64 mn) := by simp [World.cell?, hmk, marksBlk]
      have m1 : wr.cell? ⟨w.heap.size, 1, none⟩ = some (.int .i64 lo) := by simp [World.cell?, hmk, marksBlk]
      have m2 : wr.cell? ⟨w.heap.size, 2, none⟩ = some (.int .i64 hi) := by simp [World.cell?, hmk, marksBlk]
      have HH := Lib.hid hH
      clear hmk hH hbb hnb
      by_cases b1 : mn < 0
      · have f := Lib.hid (show ¬ (0 ≤ mn ∧ mn ≤ lo ∧ lo ≤ hi ∧ hi ≤ (each : Int)) by omega)
        go_wp2_with fail
        go_ret2
        exact .inr ⟨f.out, rfl, hb⟩
      · by_cases b2 : lo < mn
        · have f := Lib.hid (show ¬ (0 ≤ mn ∧ mn ≤ lo ∧ lo ≤ hi ∧ hi ≤ (each : Int)) by omega)
          go_wp2_with fail
          go_ret2
          exact .inr ⟨f.out, rfl, hb⟩
        · by_cases b3 : hi < lo
          · have f := Lib.hid (show ¬ (0 ≤ mn ∧ mn ≤ lo ∧ lo ≤ hi ∧ hi ≤ (each : Int)) by omega)
            go_wp2_with fail
            go_ret2
            exact .inr ⟨f.out, rfl, hb⟩
          · by_cases b4 : (each : Int) < hi
            · have f := Lib.hid (show ¬ (0 ≤ mn ∧ mn ≤ lo ∧ lo ≤ hi ∧ hi ≤ (each : Int)) by omega)
              go_wp2_with fail
              go_ret2
              exact .inr ⟨f.out, rfl, hb⟩
            · have f := Lib.hid (show 0 ≤ mn ∧ mn ≤ lo ∧ lo ≤ hi ∧ hi ≤ (each : Int) by omega)
              go_wp2_with fail
              go_ret2
              have hs := hb.size
              exact .inl ⟨f.out, _, nv, bb, rfl, HH.out, ⟨⟨Nat.le_succ _, HH.out.lt⟩, fun g hg => ⟨by have := HNB.out g hg; omega, (HH.out.own.lt g hg).2⟩, fun j hj => ⟨by have := HBB.out j hj; omega, (HH.out.bud j hj).lt⟩⟩, hb⟩

end Go.Proofs.Ytikahcbkeempdaa
