/- frag: Orders walked, over what Runs answers. -/
import Derived.Test.YtikahcbkeempdaaDoorGen0
import Derived.Deep.MidRow
namespace Go.Proofs.YtikahcbkeempdaaDoor
open Go.RowKit Go.Maps

def ordL (L : Nat → Nat) : List Value := (List.range 11).map fun k => .int .i64 (L k : Int)
theorem info_ord : (Tryd.prog.info? 100).map (·.size) = some 11 := by kernel_rfl
theorem ordL_set (L : Nat → Nat) (k m : Nat) : (ordL L).toArray.setIfInBounds k (.int .i64 (m : Int)) = (ordL fun j => if j = k then m else L j).toArray := by
  rw [List.setIfInBounds_toArray]
  congr 1
  unfold ordL
  apply List.ext_getElem
  · simp
  · intro i g1 g2
    rw [List.getElem_set]
    by_cases e : k = i
    · simp [e]
    · simp [e, Ne.symm e]
theorem ordL_congr {L M : Nat → Nat} (h : ∀ j, j < 11 → L j = M j) : ordL L = ordL M := List.map_congr_left fun x hx => by rw [h x (List.mem_range.1 hx)]
theorem ordL_one (L : Nat → Nat) : ∀ v ∈ ordL L, v.oneCell' = true := by
  intro v hv
  simp only [ordL, List.mem_map] at hv
  obtain ⟨k, _, rfl⟩ := hv
  rfl

theorem results_cell_mid {P : Program} {fn : Func} {p : Tmp} {ty : TypeId} (h : fn.results = #[.cell p ty]) (tmps : Array Value) (w : World) (g : Nat) (cs : Array Value)
    (hp : tmps.getD p undef = .pointer (some ⟨g, 0, none⟩)) (hld : (loadVar ty ⟨g, 0, none⟩).run P w = .ok (.agg cs) w) : (results fn tmps).run P w = .ok (.agg cs) w := by
  have hp' : tmps[p]?.getD undef = .pointer (some ⟨g, 0, none⟩) := by simpa using hp
  simp [results, h, hp', asAddr, hld]

theorem below_setCells {b B : Nat} : ∀ (cs : List Value) (o : Nat) (w : World), B ≤ b → Below B w (w.setCells b o cs)
  | [], _, w, _ => Below.refl _ w
  | v :: r, o, w, hb => by
    rw [World.setCells]
    exact ((Below.refl B w).setCell (p := ⟨b, o, none⟩) hb v).trans (below_setCells r (o + 1) _ hb)

/-- pv answers Runs with L k runs of order k, in each world that has only grown. -/
def RunsLike (w0 : World) (pv : Value) (L : Nat → Nat) : Prop :=
  ∀ w, Below w0.heap.size w0 w → ∀ k : Nat, k ≤ 10 → Calls Tryd.prog 67 #[pv, .int .i64 (k : Int)] w fun e w' => ∃ oa cap, e = .returned (.slice oa (L k) cap) ∧ Below w.heap.size w w'

def ORel (w : World) (L : Nat → Nat) (v : Value) (wr : World) : Prop :=
  ∃ k : Nat, v = .int .i64 (k : Int) ∧ k ≤ 11 ∧ wr.heap[w.heap.size + 1]? = some (.cells (ordL fun j => if j < k then L j else 0).toArray 100 (0, 0)) ∧ wr.heap[w.heap.size]? = some (.cells (ordL fun _ => 0).toArray 100 (0, 0)) ∧ Below w.heap.size w wr

set_option maxRecDepth 100000 in
set_option maxHeartbeats 1000000 in
theorem orders_any {w : World} {pv : Value} {L : Nat → Nat} (h : RunsLike w pv L) (hL : ∀ k, L k ≤ 1024) :
    Calls Tryd.prog 54 #[pv] w fun e w' => e = .returned (.agg (ordL L).toArray) ∧ Below w.heap.size w w' := by
  have H := Lib.hid h
  have HL := Lib.hid hL
  clear h hL
  go_enter Tryd.func54, Tryd.ntmps54
  go_wp2_with fail
  go_loopw [5] (fun v wr => ORel w L v wr) (fun v _ => 11 - (intOf v).toNat)
  case atStart =>
    refine ⟨0, rfl, by omega, ?_, ?_, ((Below.refl _ _).alloc (Nat.le_refl _) _).alloc (by simp) _⟩
    · have := heap_alloc_new (w.alloc (.cells (ordL fun _ => 0).toArray 100)) (.cells (ordL fun _ => 0).toArray 100)
      rw [World.size_alloc] at this
      exact this
    · rw [Below.heap_alloc _ _ _ (by simp)]
      exact heap_alloc_new w _
  case round =>
    obtain ⟨k, rfl, hk, ho, hr, hb⟩ := hrel
    have HO := Lib.hid ho
    have HR := Lib.hid hr
    by_cases e : k < 11
    · have ck : (k : Int) < 11 := by omega
      have hru := Lib.hid (H.out wr hb k (by omega))
      have hLk := HL.out k
      have hsz : w.heap.size + 1 < wr.heap.size := (Array.getElem?_eq_some_iff.1 ho).1
      clear ho hr
      go_wp2_with fail
      refine hru.out.mono ?_
      rintro e w2 ⟨oa, cap, rfl, hb2⟩
      have ho2 := (hb2.block _ hsz).trans HO.out
      have hr2 := (hb2.block _ (by omega)).trans HR.out
      have hfr : w2.frozen? ⟨w.heap.size + 1, k, none⟩ = false := by simp [World.frozen?, ho2]
      have hcl : ∃ v, w2.cell? ⟨w.heap.size + 1, k, none⟩ = some v := ⟨.int .i64 0, by simp [World.cell?, ho2, ordL, e]⟩
      obtain ⟨v0, hcl⟩ := hcl
      have HO2 := Lib.hid ho2
      have HR2 := Lib.hid hr2
      have hbb := hb.trans (hb2.mono hb.size)
      clear ho2 hr2 hb2
      go_wp2_with fail
      go_roundw
      case rel =>
        refine ⟨k + 1, by go_num, by omega, ?_, ?_, hbb.setCell (p := ⟨w.heap.size + 1, k, none⟩) (by show w.heap.size ≤ w.heap.size + 1; omega) _⟩
        · simp only [World.setCell, Array.getElem?_modify, HO2.out, if_true, Option.map_some]
          rw [ordL_set]
          simp only [Option.isSome_none, Bool.false_eq_true, if_false]
          congr 3
          refine ordL_congr fun j _ => ?_
          by_cases e1 : j = k
          · rw [if_pos e1, if_pos (by omega), e1]
          · rw [if_neg e1]
            by_cases e2 : j < k
            · rw [if_pos e2, if_pos (by omega)]
            · rw [if_neg e2, if_neg (by omega)]
        · exact (Below.heap_setCell _ _ _ _ (by show w.heap.size ≠ w.heap.size + 1; omega)).trans HR2.out
      case measure => simp [intOf]; omega
    · obtain rfl : k = 11 := by omega
      have hrg : wr.rangeAt (w.heap.size + 1) 0 (ordL L) := by
        have := World.rangeAt_of_block ho 0 11
        have e : ((ordL fun j => if j < 11 then L j else 0).toArray.extract 0 (0 + 11)).toList = ordL L := by
          rw [ordL_congr (M := L) (fun j hj => by rw [if_pos hj])]
          simp only [List.extract_toArray, List.extract_eq_take_drop, Nat.zero_add, Nat.sub_zero, List.drop_zero]
          exact List.take_of_length_le (by simp [ordL])
        rwa [e] at this
      have hth : wr.there w.heap.size 0 11 := fun j hj => ⟨by simp [World.cell?, hr, ordL, hj], by simp [World.frozen?, hr]⟩
      have HG := Lib.hid hrg
      have HT := Lib.hid hth
      clear hrg hth
      go_wp2_with (first
        | (refine wpList_load_mid rfl 100 _ rfl (w.heap.size + 1) 0 rfl (ordL L) _ HG.out Tryd.underlying100 rfl info_ord ?_)
        | (refine wpList_store_mid rfl 100 _ _ rfl w.heap.size 0 (ordL L).toArray rfl rfl HT.out info_ord (all_oneCell_toArray (ordL_one L)) ?_))
      have hld := run_loadVar_mid (P := Tryd.prog) (wr.setCells w.heap.size 0 (ordL L)) w.heap.size 0 100 (ordL L) _ (World.rangeAt_setCells_same wr _ _ _ HT.out) Tryd.underlying100 rfl info_ord
      have hfin := Lib.hid (hb.trans (below_setCells (ordL L) 0 wr (Nat.le_refl w.heap.size)))
      clear hr hb HR ho HO
      (try simp only [Exit.inBlock, Exit.then])
      refine bodyPost_ret (results_cell_mid rfl _ _ w.heap.size (ordL L).toArray rfl hld) rfl ?_
      exact ⟨rfl, hfin.out⟩

end Go.Proofs.YtikahcbkeempdaaDoor
