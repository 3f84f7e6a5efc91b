/- Runs, first: the keys of a map[int]bool, sorted by the library. -/
import Derived.Test.YtikahcbkeempdaaBud
import Derived.Test.YtikahcbkeempdaaShelf
import Derived.Sort.OwnSortedInts
namespace Go.Proofs.Ytikahcbkeempdaa
open Go.RowKit Go.Maps Go.Sort

def CollI (D0 : DataW Unit) (left : Lit → Bool) (ss : List Int) : Prop := ss.Nodup ∧ ∀ x, x ∈ ss ↔ (Maps.has D0 (.int .i64 x) = true ∧ left (.int .i64 x) = false)

theorem CollI.start (D0 : DataW Unit) : CollI D0 (Maps.has D0) [] := ⟨List.nodup_nil, fun x => by cases Maps.has D0 (.int .i64 x) <;> simp⟩
theorem CollI.step {D0 : DataW Unit} {left : Lit → Bool} {ss : List Int} (h : CollI D0 left ss) {x : Int} {y : DataW Unit} (hlk : left (.int .i64 x) = true) (hat : ∀ zd, D0.atKey (.int .i64 x) zd = y) :
    CollI D0 (fun z => left z && !z.sameKey (.int .i64 x)) (ss ++ [x]) := by
  have hhas : Maps.has D0 (.int .i64 x) = true := has_true_of_atKey hat
  have hnew : x ∉ ss := fun hx => by have := ((h.2 x).1 hx).2; rw [hlk] at this; cases this
  refine ⟨List.nodup_append.2 ⟨h.1, by simp, fun a ha b hb => by simp at hb; subst hb; exact fun e => hnew (e ▸ ha)⟩, fun y => ?_⟩
  by_cases hy : y = x
  · subst hy; simp [hhas, Lit.sameKey]
  · simp [h.2 y, hy, Lit.sameKey]

def ints (l : List Nat) : List Int := l.map fun a : Nat => (a : Int)

theorem ints_sorted {l : List Nat} (hl : Bu.Rising l) : (ints l).Pairwise (· ≤ ·) := by
  unfold ints
  rw [List.pairwise_map]
  exact hl.imp fun h => by omega

theorem CollI.sorted {D0 : DataW Unit} {left : Lit → Bool} {ss : List Int} {l : List Nat} (h : CollI D0 left ss) (hl : Bu.Rising l) (hh : ∀ x : Int, Maps.has D0 (.int .i64 x) = memZ l x) (h0 : ∀ kl, left kl = false) :
    ss.mergeSort (fun x y => decide (x ≤ y)) = ints l := by
  have hp : ss.Perm (ints l) := by
    refine (List.perm_ext_iff_of_nodup h.1 ?_).2 fun x => ?_
    · unfold ints
      exact List.Pairwise.map _ (fun a b hab => by omega) (Bu.rising_nodup hl)
    · rw [h.2 x, h0, hh]
      unfold memZ ints
      simp [List.any_eq_true]
  refine List.Perm.eq_of_pairwise (le := fun a b => a ≤ b) (fun a b _ _ h1 h2 => by omega) ?_ (ints_sorted hl) ((List.mergeSort_perm _ _).trans hp)
  have := List.pairwise_mergeSort (le := fun x y : Int => decide (x ≤ y)) (fun a b c h1 h2 => by simp at *; omega) (fun a b => by simp; omega) ss
  exact this.imp fun h => by simpa using h

set_option maxRecDepth 100000 in
set_option maxHeartbeats 1000000 in
theorem runs_any {w : World} {b n : Nat} {F T} (hB : Bud w b n F T) (k : Nat) (hk : k ≤ 10) (hlen : (F k).length ≤ 1024) :
    Calls Try.prog 34 #[.pointer (some ⟨b + 1, 0, none⟩), .int .i64 (k : Int)] w fun e w' => ∃ v, e = .returned v ∧
      w'.ownsRow w.heap.size 3 1 v (F k).length ((ints (F k)).map (Value.int .i64)) ∧ Below w.heap.size w w' := by
  obtain ⟨i0, hi, hz0, hz1, hz2⟩ := info_parts infoI
  obtain ⟨hris, D, hown, hhas, hat0, hsz⟩ := hB.sets k hk
  have hbl := hown.lt
  have hcell := hB.cf hk
  have HH := Lib.hid hhas
  have HZ := Lib.hid hsz
  clear hhas hsz hat0
  generalize hl : F k = l at *
  have HL := Lib.hid hl
  clear hl
  go_enter Try.func34, Try.ntmps34
  go_wp2_with (first
    | (go_at_call 68; refine (right_yes _ _ _ (by omega) (by omega)).mono ?_; rintro e w' ⟨rfl, rfl⟩)
    | (at_range; refine wpList_range_own _ rfl _ 105 rfl 3 4 lawI Try.underlying105 _ (b + 2 + k) _ D rfl hown ?_; intro w0 hrg0 hg0 hs0)
    | go_in)
  go_frame
  go_loopw [5] (fun v wr => ∃ (left : Lit → Bool) (cnt : Nat) (ss : List Int), wr.ranges Try.prog 3 (plainElem Try.prog 4) (b + 2 + k) w.heap.size l.length D left cnt ∧ ss.length + cnt ≤ l.length ∧
      wr.ownsRow w.heap.size 3 1 v ss.length (ss.map (Value.int .i64)) ∧ CollI D left ss ∧ Below w.heap.size w wr)
    (fun _ wr => wr.rangeLeft (b + 2 + k) w.heap.size)
  case atStart =>
    refine ⟨_, _, [], hrg0, by rw [HZ.out]; simp, World.ownsRow_nil _ _ _ _, CollI.start D, (Below.refl _ _).grown hg0 (Nat.le_refl _) (fun j hj => by cases hj)⟩
  case round =>
    obtain ⟨left, cnt, ss, hrg, hcs, hrow, hC, hnx⟩ := hrel
    clear hs0 hg0 hrg0
    go_wp2_with (first
      | (at_next; refine wpList_next_ranges _ rfl _ rfl 3 lawI (plainElem Try.prog 4) (Value.int .i64) (fun c => Value.bool (bOf c)) (fun key kl hk => by obtain ⟨x, hx, _⟩ := Maps.keyOf_int_inv Try.underlying3 hk; exact ⟨x, hx⟩) (fun v y hv => plainElem_bool_shape Try.underlying4 hv) (b + 2 + k) w.heap.size l.length _ _ _ rfl hrg ?_ ?_)
      | go_in)
    · intro hc0 hl0
      have hsort := hC.sorted hris HH.out hl0
      have hlen' : ss.length = l.length := by
        have := congrArg List.length hsort
        simpa [ints] using this
      rcases hrow.2 with ⟨hnil, hz⟩ | ⟨g, cap, cur, rfl, hbase, hb, h1, h2, h3, h4⟩
      · subst hnil
        have HL' := Lib.hid hlen'
        have HS := Lib.hid hsort
        clear hlen' hsort hz
        go_wp2_with (go_at_call 71; refine (Try.slices_Sort_int_none _ _ _).mono ?_; rintro e w' ⟨rfl, rfl⟩)
        go_ret
        refine ⟨_, rfl, ?_, hnx⟩
        have e0 : l = [] := by
          have h1 := hrow.1
          rw [List.length_map] at h1
          have := HL'.out
          have hz := hrow.2
          rcases hz with ⟨_, h0⟩ | ⟨_, _, _, h0, _⟩
          · exact List.eq_nil_of_length_eq_zero (by omega)
          · cases h0
        rw [e0]
        exact World.ownsRow_nil _ _ _ _
      · have hH : Holds (Value.int .i64) wr g 0 ss.toArray := holds_of_blockI hb (by simpa using h4)
        have hgl : g < wr.heap.size := (Array.getElem?_eq_some_iff.1 hb).1
        have hc := Try.slices_Sort_int g 0 cap ss wr hH hgl (by omega)
        have HL' := Lib.hid hlen'
        have HS := Lib.hid hsort
        have H3 := Lib.hid h3
        have H4 := Lib.hid h4
        have HB := Lib.hid hb
        clear hlen' hsort h3 h4 hb
        go_wp2_with (go_at_call 71; refine hc.mono ?_; rintro e w' ⟨rfl, nn, os, rfl⟩)
        go_ret
        refine ⟨_, rfl, ?_, hnx.grown (grownBy_sortedI _) hnx.size (fun j hj => by cases hj; exact hbase)⟩
        rw [HS.out, ← HL'.out]
        exact ownsRow_sortedI (by have := HL'.out; simp [ints]; omega) hbase HB.out h1 h2 H3.out
    · intro x c kl yd yp w2 cnt2 hkey hlk hv hat hrg2 hlt hg2 hs2 hen
      obtain ⟨x', ex, rfl, _⟩ := Maps.keyOf_int_inv Try.underlying3 hkey
      cases ex
      have hrow2 := hrow.kept hg2 (Or.inr (row_ne_iter hrow hrg).symm)
      clear hs2 hkey
      have hlt2 := hlt
      go_wp2_with (first
        | (at_builtin; refine wpList_append_own _ rfl _ _ 41 rfl w.heap.size 3 i0 (.int .i64 0) 1 8 Try.underlying41 hi hz0 hz1 hz2 rfl (by decide) _ _ _ rfl (hrow2.alloc _) ⟨w2.heap.size, 0, none⟩ 1 1 [.int .i64 x] rfl rfl (cell_one_new _ _ _) (by simp [Value.oneCell']) (by unfold maxLen at *; omega) (by omega) (by have := hnx.size; have := hg2.size; simp; omega) ?_; intro v' w3 hown' hg3 hnil3; go_frame)
        | go_in)
      have hrg3 := (hrg2.alloc _).kept hg3 (row_ne_low hrow2 hbl) (row_ne_iter hrow2 hrg2)
      go_roundw
      case rel =>
        refine ⟨_, cnt2, ss ++ [x], hrg3, by simp; omega, by simpa using hown', hC.step hlk hat, ?_⟩
        exact ((hnx.grown hg2 hnx.size (fun j hj => by cases hj; exact Nat.le_refl _)).alloc (by have := hnx.size; have := hg2.size; omega) _).grown hg3 (by have := hnx.size; have := hg2.size; simp; omega) (fun j hj => (hrow2.lt j hj).1)
      case measure => rw [hrg3.left_eq, hrg.left_eq]; exact hlt

set_option maxHeartbeats 400000 in
theorem runs_no (a : Addr) (o : Int) (w : World) (h : o < 0 ∨ 10 < o) :
    Calls Try.prog 34 #[.pointer (some a), .int .i64 o] w fun e w' => e = .returned (.slice none 0 0) ∧ w = w' := by
  have H := Lib.hid h
  clear h
  go_enter Try.func34, Try.ntmps34
  go_wp2_with (go_at_call 68; refine (right_no _ _ _ H.out).mono ?_; rintro e w' ⟨rfl, rfl⟩)
  go_ret
  exact ⟨rfl, rfl⟩

set_option maxHeartbeats 400000 in
theorem runs_nil (o : Int) (w : World) :
    Calls Try.prog 34 #[.pointer none, .int .i64 o] w fun e w' => e = .returned (.slice none 0 0) ∧ w = w' := by
  go_enter Try.func34, Try.ntmps34
  go_wp2_with (go_at_call 68; refine (right_nil _ _).mono ?_; rintro e w' ⟨rfl, rfl⟩)
  go_ret
  exact ⟨rfl, rfl⟩

set_option maxHeartbeats 400000 in
theorem first_any {w : World} {b n : Nat} {F T} (hB : Bud w b n F T) (k : Nat) (hk : k ≤ 10) (hlen : (F k).length ≤ 1024) {a : Nat} {l : List Nat} (hF : F k = a :: l) :
    Calls Try.prog 70 #[.pointer (some ⟨b + 1, 0, none⟩), .int .i64 (k : Int)] w fun e w' => e = .returned (.int .i64 (a : Int)) ∧ Below w.heap.size w w' := by
  have HF := Lib.hid hF
  clear hF
  go_enter Try.func70, Try.ntmps70
  go_wp2_with (go_at_call 34; refine (runs_any hB k hk hlen).mono ?_; rintro e w1 ⟨v, rfl, hrow, hbl⟩; rw [HF.out] at hrow; obtain ⟨g, cap, rfl, hg1, hg2, hc⟩ := own_head hrow (by simp); have hc0 := hc 0 (by simp); simp only [ints, List.map_cons, List.getD_cons_zero] at hc0; simp only [List.length_cons]; clear hc hrow)
  go_ret
  exact ⟨rfl, hbl⟩

end Go.Proofs.Ytikahcbkeempdaa
