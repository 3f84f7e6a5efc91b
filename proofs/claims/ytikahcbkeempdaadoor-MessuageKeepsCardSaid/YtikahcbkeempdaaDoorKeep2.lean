/- The cache: lists of a CPU. -/
import Derived.Test.YtikahcbkeempdaaDoorKeep0
import Derived.Test.YtikahcbkeempdaaDoorShelf2
import Derived.Deep.Cut
import Derived.Deep.QuietTactic
import Derived.BigQuiet
import Derived.Sort.OwnSortedInts
namespace Go.Proofs.YtikahcbkeempdaaDoor
open Go.RowKit Go.Maps Go.Lib

def natI (x : Nat) : Int := (x : Int)
theorem natV_len (l : List Nat) : (intV l).length = l.length := by simp [intV]
theorem natV_app (l m : List Nat) : intV (l ++ m) = intV l ++ intV m := by simp [intV]
theorem natV_ints (l : List Nat) : intV l = (l.map natI).map (Value.int .i64) := by simp [intV, natI, Function.comp_def]
theorem natV_get (l : List Nat) {i : Nat} (h : i < l.length) : (intV l).getD i undef = .int .i64 (l[i] : Int) := by simp [intV, h]

/-- Block cp is a cache; its list k lies in the row v, which is the cache's own, and holds L. -/
structure CacheAt (w : World) (cp k C : Nat) (v : Value) (L : List Nat) : Prop where
  blk : ∃ cs, w.heap[cp]? = some (.cells cs 81 (0, 0)) ∧ cs.size = 4 ∧ cs[k]? = some v
  kl : k < 4
  lt : cp < C ∧ C ≤ w.heap.size
  row : w.ownsRow C 3 1 v L.length (intV L)

section
variable {w w' : World} {cp k C : Nat} {v v' : Value} {L L' : List Nat}
theorem CacheAt.cell (h : CacheAt w cp k C v L) : w.cell? ⟨cp, k, none⟩ = some v := by
  obtain ⟨cs, h1, h2, h3⟩ := h.blk
  simp only [World.cell?, h1]
  exact h3
theorem CacheAt.free (h : CacheAt w cp k C v L) : w.frozen? ⟨cp, k, none⟩ = false := by
  obtain ⟨cs, h1, h2, h3⟩ := h.blk
  simp [World.frozen?, h1]
theorem CacheAt.keptF {S : Nat → Prop} (h : CacheAt w cp k C v L) (hk : KeptF S w w') (h1 : ¬ S cp) (h2 : ∀ g, v.ownBlock = some g → ¬ S g) : CacheAt w' cp k C v L := by
  refine ⟨?_, h.kl, ⟨h.lt.1, Nat.le_trans h.lt.2 hk.size⟩, ownsRow_same h.row fun g hg => hk.block g (h.row.lt g hg).2 (h2 g hg)⟩
  rw [hk.block cp (by have := h.lt; omega) h1]
  exact h.blk
theorem CacheAt.below (h : CacheAt w cp k C v L) (hk : Below w.heap.size w w') : CacheAt w' cp k C v L :=
  h.keptF (KeptF.of_below hk (fun _ => False)) (fun h => h) (fun _ _ h => h)
/-- The list is another: what the store of it leaves. -/
theorem CacheAt.set (h : CacheAt w cp k C v L) (hk : KeptF (fun i => C ≤ i) w w') (hown : w'.ownsRow C 3 1 v' L'.length (intV L')) : CacheAt (w'.setCell ⟨cp, k, none⟩ v') cp k C v' L' := by
  obtain ⟨cs, h1, h2, h3⟩ := h.blk
  have hlt := h.lt
  have hb : w'.heap[cp]? = some (.cells cs 81 (0, 0)) := (hk.block cp (by omega) (by omega)).trans h1
  refine ⟨⟨cs.setIfInBounds k v', ?_, by simp [h2], ?_⟩, h.kl, ⟨hlt.1, ?_⟩, ?_⟩
  · show (w'.heap.modify cp _)[cp]? = _
    rw [Array.getElem?_modify, if_pos rfl, hb]
    simp
  · have := h.kl
    rw [Array.getElem?_setIfInBounds_self_of_lt (by omega)]
  · have := hk.size
    simp [World.setCell]
    omega
  · refine ownsRow_same hown fun g hg => Below.heap_setCell _ _ _ _ ?_
    have := (hown.lt g hg).1
    show g ≠ cp
    omega
def cacheS (cp C : Nat) (i : Nat) : Prop := i = cp ∨ C ≤ i
theorem cache_kept (hk : KeptF (fun i => C ≤ i) w w') : KeptF (cacheS cp C) w (w'.setCell ⟨cp, k, none⟩ v') :=
  (hk.wider (S' := cacheS cp C) fun _ _ h => .inr h).setCell _ (.inl (.inl rfl))

theorem row_shrink {base e n m cap : Nat} {oa : Option Addr} {xs : List Value} (h : w.ownsRow base e 1 (.slice oa n cap) n xs) (hm : m ≤ n) : w.ownsRow base e 1 (.slice oa m cap) m (xs.take m) := by
  refine ⟨by rw [List.length_take, h.1]; omega, ?_⟩
  rcases h.2 with ⟨h1, rfl⟩ | ⟨g, cap', cur, h1, h2, h3, h4, h5, h6, h7⟩
  · cases h1
    exact .inl ⟨by rw [show m = 0 by omega], by omega⟩
  · cases h1
    refine .inr ⟨g, cap, cur, rfl, h2, h3, by omega, h5, h6, ?_⟩
    rw [← h7, List.take_take]
    congr 1
    omega

theorem own_blockK {base e n : Nat} {xs : List Value} (h : w.ownsRow base e 1 v n xs) (hn : 0 < n) :
    ∃ g cap cur, v = .slice (some ⟨g, 0, none⟩) n cap ∧ base ≤ g ∧ w.heap[g]? = some (.cells cur e (0, 0)) ∧ n ≤ cap ∧ cur.toList.take n = xs := by
  rcases h.2 with ⟨_, h0⟩ | ⟨g, cap, cur, rfl, hbase, hb, h1, _, _, h4⟩
  · omega
  · exact ⟨g, cap, cur, rfl, hbase, hb, h1, by simpa using h4⟩

set_option maxHeartbeats 400000 in
theorem clist_any (k : Nat) (hk : k < 4) (cp : Nat) (w : World) : Calls Tryd.prog 46 #[.pointer (some ⟨cp, 0, none⟩), .int .i64 (k : Int)] w fun e w' => e = .returned (.pointer (some ⟨cp, k, none⟩)) ∧ w = w' := by
  have c1 : (k : Int) < 4 := by omega
  go_enter Tryd.func46, Tryd.ntmps46
  go_wp2_with fail
  go_ret
  exact ⟨by simp, rfl⟩

set_option maxHeartbeats 1000000 in
theorem clen_any (h : CacheAt w cp k C v L) : Calls Tryd.prog 22 #[.pointer (some ⟨cp, 0, none⟩), .int .i64 (k : Int)] w fun e w' => e = .returned (.int .i64 (L.length : Int)) ∧ w = w' := by
  have hc := h.cell
  obtain ⟨oa, cap, rfl, _⟩ := own_shape h.row
  have hl := clist_any k h.kl cp w
  clear h
  go_enter Tryd.func22, Tryd.ntmps22
  go_wp2_with fail
  refine hl.mono ?_
  rintro e w' ⟨rfl, rfl⟩
  go_wp2_with fail
  go_ret
  exact ⟨rfl, rfl⟩

set_option maxHeartbeats 1000000 in
theorem cnew_any (w : World) : Calls Tryd.prog 8 #[] w fun e w' => e = .returned (.pointer (some ⟨w.heap.size, 0, none⟩)) ∧ w'.heap[w.heap.size]? = some (.cells #[.slice none 0 0, .slice none 0 0, .slice none 0 0, .slice none 0 0] 81 (0, 0)) ∧ Below w.heap.size w w' ∧ w'.heap.size = w.heap.size + 1 := by
  go_enter Tryd.func8, Tryd.ntmps8
  go_wp2_with fail
  go_ret
  exact ⟨rfl, heap_alloc_new w _, (Below.refl _ _).alloc (Nat.le_refl _) _, by simp⟩

def PushPost (w : World) (cp k C : Nat) (L : List Nat) (x : Nat) (e : Ending) (w' : World) : Prop :=
  ∃ v, e = .returned (.tuple #[.bool true, .int .i64 0]) ∧ CacheAt w' cp k C v (L ++ [x]) ∧ KeptF (cacheS cp C) w w'
set_option maxRecDepth 100000 in
set_option maxHeartbeats 1000000 in
theorem push_ok (h : CacheAt w cp k C v L) (hL : L.length < 8) (x : Nat) :
    Calls Tryd.prog 13 #[.pointer (some ⟨cp, 0, none⟩), .int .i64 (k : Int), .int .i64 (x : Int)] w (PushPost w cp k C L x) := by
  obtain ⟨i0, hi, hz0, hz1, hz2⟩ := info_parts infoI
  have hc := h.cell
  have hf := h.free
  have hlt := h.lt
  have hrow := h.row
  obtain ⟨oa, cap, rfl, _⟩ := own_shape h.row
  have hl := clist_any k h.kl cp w
  have cl : ¬ (L.length : Int) = 8 := by omega
  have hcn : (w.alloc (.cells #[.int .i64 (x : Int)] 3)).cell? ⟨cp, k, none⟩ = some (.slice oa L.length cap) := (World.cell?_of_block (a := ⟨cp, k, none⟩) (Below.heap_alloc _ _ _ (by show cp < _; omega))).trans hc
  have hne : ∀ m : Nat, some cp ≠ (Value.slice oa m cap).ownBlock := fun m e => by have := (hrow.lt cp (by cases oa <;> simpa [Value.ownBlock] using e.symm)).1; omega
  have H := Lib.hid h
  clear h
  go_enter Tryd.func13, Tryd.ntmps13
  go_wp2_with fail
  refine hl.mono ?_
  rintro e w' ⟨rfl, rfl⟩
  go_wp2_with (first
    | (at_builtin; refine wpList_append_own _ rfl _ _ 22 rfl C 3 i0 (.int .i64 0) 1 8 Tryd.underlying22 hi hz0 hz1 hz2 rfl (by decide) _ _ _ rfl (hrow.alloc _) ⟨w.heap.size, 0, none⟩ 1 1 [.int .i64 (x : Int)] rfl rfl (cell_one_new _ _ _) (by simp [Value.oneCell']) (by unfold maxLen; omega) (by omega) (by simp; omega) ?_; intro v' w3 hown' hg3 hnil3; clear hnil3; obtain ⟨oa', cap', rfl, _⟩ := own_shape hown'; have hb3 := (hg3.block cp (by simp; omega) (hne _)).trans (Below.heap_alloc w (.cells #[.int .i64 (x : Int)] 3) cp (by omega)); have hc3 := (World.cell?_of_block (a := ⟨cp, k, none⟩) hb3).trans hc; have hf3 := (World.frozen?_of_block (a := ⟨cp, k, none⟩) hb3).trans hf; have hkf : KeptF (fun i => C ≤ i) w w3 := ((KeptF.refl _ w).alloc _).grown hg3 (fun j hj => .inl (hrow.lt j hj).1); clear hg3 hb3)
    | go_in)
  go_ret2
  refine ⟨_, rfl, H.out.set hkf (by simpa [intV] using hown'), cache_kept hkf⟩

set_option maxRecDepth 100000 in
set_option maxHeartbeats 1000000 in
theorem pop_none (h : CacheAt w cp k C v []) :
    Calls Tryd.prog 14 #[.pointer (some ⟨cp, 0, none⟩), .int .i64 (k : Int)] w fun e w' => e = .returned (.tuple #[.int .i64 0, .bool false]) ∧ w = w' := by
  have hc := h.cell
  obtain ⟨oa, cap, rfl, _⟩ := own_shape h.row
  have hl := clist_any k h.kl cp w
  clear h
  go_enter Tryd.func14, Tryd.ntmps14
  go_wp2_with fail
  refine hl.mono ?_
  rintro e w' ⟨rfl, rfl⟩
  go_wp2_with fail
  go_ret2
  exact ⟨rfl, rfl⟩

def PopPost (w : World) (cp k C : Nat) (L : List Nat) (x : Nat) (e : Ending) (w' : World) : Prop :=
  ∃ v, e = .returned (.tuple #[.int .i64 (x : Int), .bool true]) ∧ CacheAt w' cp k C v L ∧ KeptF (cacheS cp C) w w'
set_option maxRecDepth 100000 in
set_option maxHeartbeats 1000000 in
theorem pop_ok {x : Nat} (h : CacheAt w cp k C v (L ++ [x])) (hL : L.length < 8) :
    Calls Tryd.prog 14 #[.pointer (some ⟨cp, 0, none⟩), .int .i64 (k : Int)] w (PopPost w cp k C L x) := by
  have hc := h.cell
  have hf := h.free
  have hlen : (L ++ [x]).length = L.length + 1 := by simp
  obtain ⟨g, cap, cur, rfl, hg, hgb, hcap, htk⟩ := own_blockK h.row (by omega)
  have hx : w.cell? ⟨g, L.length, none⟩ = some (.int .i64 (x : Int)) := by
    rw [h.row.cellAt L.length (by omega)]
    simp [intV]
  have hsh := row_shrink h.row (m := L.length) (by omega)
  have hl := clist_any k h.kl cp w
  rw [hlen] at hc hcap
  have w1 : IntKind.i64.wrap ((L.length : Int) + 1 - 1) = (L.length : Int) := by rw [Int.add_sub_cancel]; exact IntWalk.i64_in _ (by omega)
  have c1 : (L.length : Int) < (L.length : Int) + 1 := by omega
  have c2 : L.length ≤ cap := by omega
  have c3 : (L.length : Int) ≤ (cap : Int) := by omega
  have H := Lib.hid h
  have HS := Lib.hid hsh
  clear h hsh
  go_enter Tryd.func14, Tryd.ntmps14
  go_wp2_with fail
  refine hl.mono ?_
  rintro e w' ⟨rfl, rfl⟩
  go_wp2_with fail
  go_ret2
  refine ⟨_, rfl, H.out.set (KeptF.refl _ _) (by simpa [intV] using HS.out), cache_kept (KeptF.refl _ _)⟩

def FlushNone (w : World) (cp k C : Nat) (e : Ending) (w' : World) : Prop :=
  ∃ v oa cap, e = .returned (.slice oa 0 cap) ∧ CacheAt w' cp k C v [] ∧ KeptF (cacheS cp C) w w'
set_option maxRecDepth 100000 in
set_option maxHeartbeats 1000000 in
theorem flush_none (h : CacheAt w cp k C v []) :
    Calls Tryd.prog 15 #[.pointer (some ⟨cp, 0, none⟩), .int .i64 (k : Int), .int .i64 1] w (FlushNone w cp k C) := by
  have hc := h.cell
  have hf := h.free
  have hl := clist_any k h.kl cp w
  have hlt := h.lt
  have H := Lib.hid h
  rcases h.row.2 with ⟨rfl, _⟩ | ⟨g, cap, cur, rfl, hg, hb, h1, h2, h3, h4⟩
  · clear h
    go_enter Tryd.func15, Tryd.ntmps15
    go_wp2_with fail
    refine hl.mono ?_
    rintro e w' ⟨rfl, rfl⟩
    go_wp2_with fail
    refine (Tryd.slices_Clone_int_nil _ _ _).mono ?_
    rintro e w' ⟨rfl, rfl⟩
    go_wp2_with fail
    refine (Tryd.slices_Delete_int_empty _ _ _).mono ?_
    rintro e w' ⟨rfl, rfl⟩
    go_wp2_with fail
    go_ret
    exact ⟨_, _, _, rfl, H.out.set (KeptF.refl _ _) (World.ownsRow_nil _ _ _ _), cache_kept (KeptF.refl _ _)⟩
  · have hrow := h.row
    have HB := Lib.hid hb
    clear h hb h1 h2 h3 h4
    go_enter Tryd.func15, Tryd.ntmps15
    go_wp2_with fail
    refine hl.mono ?_
    rintro e w' ⟨rfl, rfl⟩
    go_wp2_with fail
    refine (Tryd.slices_Clone_int_zero _ _ _).mono ?_
    rintro e w2 ⟨vc, rfl, hown, _, hbel⟩
    obtain ⟨oc, cc, rfl, _⟩ := own_shape hown
    have hcb := hbel.block cp (by omega)
    have hc2 := (World.cell?_of_block (a := ⟨cp, k, none⟩) hcb).trans hc
    have hf2 := (World.frozen?_of_block (a := ⟨cp, k, none⟩) hcb).trans hf
    have hkf : KeptF (fun i => C ≤ i) w w2 := KeptF.of_below hbel _
    have hrow2 := ownsRow_same hrow (w' := w2) fun j hj => hbel.block j (hrow.lt j hj).2
    clear hcb hown hbel
    go_wp2_with fail
    refine (Tryd.slices_Delete_int_empty _ _ _).mono ?_
    rintro e w' ⟨rfl, rfl⟩
    go_wp2_with fail
    go_ret
    exact ⟨_, _, _, rfl, H.out.set hkf hrow2, cache_kept hkf⟩

def FlushOne (w : World) (cp k C : Nat) (x : Nat) (L : List Nat) (e : Ending) (w' : World) : Prop :=
  ∃ v g cap, e = .returned (.slice (some ⟨g, 0, none⟩) 1 cap) ∧ CacheAt w' cp k C v L ∧ KeptF (cacheS cp C) w w' ∧ C ≤ g ∧ g < w'.heap.size ∧ w'.cell? ⟨g, 0, none⟩ = some (.int .i64 (x : Int))
set_option maxRecDepth 100000 in
set_option maxHeartbeats 1000000 in
theorem flush_one {x : Nat} (h : CacheAt w cp k C v (x :: L)) (hL : L.length < 8) :
    Calls Tryd.prog 15 #[.pointer (some ⟨cp, 0, none⟩), .int .i64 (k : Int), .int .i64 1] w (FlushOne w cp k C x L) := by
  have hc := h.cell
  have hf := h.free
  have hl := clist_any k h.kl cp w
  have hlt := h.lt
  have H := Lib.hid h
  have hrow := h.row
  rcases h.row.2 with ⟨rfl, h0⟩ | ⟨g, cap, cur, rfl, hg, hb, h1, h2, h3, h4⟩
  · simp at h0
  have hcl := Tryd.slices_Clone_int g 0 1 cap ((x :: L).map natI) w (by simp) (by omega) (by
    intro j hj
    rw [Nat.zero_add, h.row.cellAt j (by simpa using hj), natV_ints, List.getElem?_map, List.getElem?_eq_getElem hj, List.getD, List.getElem?_eq_getElem hj]
    rfl)
  have hlen : (x :: L).length = L.length + 1 := rfl
  rw [hlen] at hc h1
  have HB := Lib.hid hb
  have H4 := Lib.hid h4
  have hmin : min (1 : Int) ((L.length : Int) + 1) = 1 := by omega
  have c1 : 1 ≤ cap := by omega
  have c2 : (1 : Int) ≤ (cap : Int) := by omega
  clear h hb h4
  go_enter Tryd.func15, Tryd.ntmps15
  go_wp2_with fail
  refine hl.mono ?_
  rintro e w' ⟨rfl, rfl⟩
  go_wp2_with fail
  rw [show (List.take 1 (List.map natI (x :: L))).map (Value.int .i64) = [.int .i64 (x : Int)] from rfl] at hcl
  refine hcl.mono ?_
  rintro e w2 ⟨vc, rfl, hown, _, hbel⟩
  obtain ⟨gc, cc, rfl, hgc, hgcl, hcells⟩ := own_head hown (by omega)
  have hx := hcells 0 (by omega)
  have hcb := hbel.block cp (by omega)
  have hc2 := (World.cell?_of_block (a := ⟨cp, k, none⟩) hcb).trans hc
  have hf2 := (World.frozen?_of_block (a := ⟨cp, k, none⟩) hcb).trans hf
  have hkf : KeptF (fun i => C ≤ i) w w2 := KeptF.of_below hbel _
  have hgl := (Array.getElem?_eq_some_iff.1 HB.out).1
  have hb2 := (hbel.block g hgl).trans HB.out
  have hH := holds_of_blockI (ss := (x :: L).map natI) hb2 (by rw [← natV_ints]; simpa using H4.out)
  have hdel := Tryd.slices_Delete_int g 0 cap 0 1 ((x :: L).map natI) w2 hH (by simpa using h1) (by unfold maxLen at h2; exact h2) (by omega) (by simp)
  rw [show ((x :: L).map natI).length = L.length + 1 by simp, show L.length + 1 - (1 - 0) = L.length by omega] at hdel
  have HB2 := Lib.hid hb2
  have hgne : g ≠ cp := by omega
  have hgs : g < w2.heap.size := Nat.lt_of_lt_of_le hgl hbel.size
  clear hb2 hH hcells hown hcl
  go_wp2_with fail
  refine hdel.mono ?_
  rintro e w3 ⟨rfl, q, hw3⟩
  have hgr := grownBy_sortedI (w := w2) (g := g) (n := q) (os := #[]) ((((x :: L).map natI).take 0) ++ (((x :: L).map natI).drop 1) ++ List.replicate (1 - 0) 0).toArray
  rw [Sort.grow_empty, ← hw3] at hgr
  have hrow3 := ownsRow_sortedI (w := w2) (base := C) (g := g) (cap := cap) (n := q) (os := #[]) (ss := (x :: L).map natI) (ts := (((x :: L).map natI).take 0) ++ (((x :: L).map natI).drop 1) ++ List.replicate (1 - 0) 0) (by simp) hg HB2.out (by simpa using h1) h2 h3
  rw [Sort.grow_empty, ← hw3] at hrow3
  have hsh := row_shrink hrow3 (m := L.length) (by simp)
  have hnk : some cp ≠ some g := fun e => hgne (by cases e; rfl)
  have hcb3 := hgr.block cp (by have := hbel.size; omega) hnk
  have hc3 := (World.cell?_of_block (a := ⟨cp, k, none⟩) hcb3).trans hc2
  have hf3 := (World.frozen?_of_block (a := ⟨cp, k, none⟩) hcb3).trans hf2
  have hkf3 : KeptF (fun i => C ≤ i) w w3 := hkf.grown hgr (fun j hj => by cases hj; exact .inl hg)
  have hbx := hgr.block gc hgcl (fun e => by cases e; omega)
  have hx3 := (World.cell?_of_block (a := ⟨gc, 0, none⟩) hbx).trans hx
  have hgc3 : gc < w3.heap.size := Nat.lt_of_lt_of_le hgcl hgr.size
  have hcpw : ((w3.setCell ⟨cp, k, none⟩ (.slice (some ⟨g, 0, none⟩) L.length cap)).heap[gc]? = w3.heap[gc]?) := Below.heap_setCell _ _ _ _ (by show gc ≠ cp; omega)
  have HX := Lib.hid ((World.cell?_of_block (a := ⟨gc, 0, none⟩) hcpw).trans hx3)
  have HS := Lib.hid hsh
  clear hw3 hgr hrow3 hsh hcb hcb3 hbx hx3 hx hbel hdel hcpw
  go_wp2_with fail
  go_ret
  refine ⟨_, gc, cc, rfl, H.out.set hkf3 ?_, cache_kept hkf3, by omega, by simp [World.setCell]; omega, HX.out⟩
  have h9 := HS.out
  simp only [List.take_zero, List.nil_append, List.map_cons, List.drop_succ_cons, List.drop_zero, List.map_append] at h9
  rw [List.take_left' (by simp)] at h9
  rw [natV_ints]
  exact h9
end
end Go.Proofs.YtikahcbkeempdaaDoor
