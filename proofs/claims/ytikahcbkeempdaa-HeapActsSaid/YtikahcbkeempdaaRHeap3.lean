/- The reference's heap: New. -/
import Derived.Test.YtikahcbkeempdaaRHeap2
import Derived.Deep.RegionLaw
import Derived.Deep.AppendLies
namespace Go.Proofs.Ytikahcbkeempdaa
open Go.RowKit Go.Maps

theorem infoRP : (Try.prog.info? 60).map (fun i => (i.zero, i.size, i.bytes)) = some (some (.pointer none), 1, 8) := by kernel_rfl
theorem rptrs_snoc (pp : Nat → Nat) (i p : Nat) : rptrs (fun j => if j = i then p else pp j) (i + 1) = rptrs pp i ++ [.pointer (some ⟨p, 0, none⟩)] := by
  unfold rptrs
  rw [List.range_succ, List.map_append]
  congr 1
  · apply List.map_congr_left
    intro j hj
    have : j < i := List.mem_range.1 hj
    show Value.pointer (some ⟨if j = i then p else pp j, 0, none⟩) = _
    rw [if_neg (by omega)]
  · simp

theorem RHeap.push {w w2 w3 : World} {rp each i p u g cap : Nat} {mn : Int} {rv : Value} {pp uu : Nat → Nat} {o : Obj} (h : RHeap w rp each mn i rv pp uu (fun _ => .slice none 0 0) (fun _ => [])) (hb : Below w.heap.size w w2)
    (hR : RefAt w2 each p u (.slice none 0 0) (Bu.used []) []) (hp : w.heap.size ≤ p) (hu : w.heap.size ≤ u)
    (hg : (w2.alloc o).grownBy w3 rv.ownBlock) (hown : w3.ownsRow 0 60 1 (.slice (some ⟨g, 0, none⟩) (i + 1) cap) (i + 1) (rptrs pp i ++ [.pointer (some ⟨p, 0, none⟩)])) (hat : rv.ownBlock = some g ∨ g = w2.heap.size + 1) :
    RHeap (w3.setCell ⟨rp, 2, none⟩ (.slice (some ⟨g, 0, none⟩) (i + 1) cap)) rp each mn (i + 1) (.slice (some ⟨g, 0, none⟩) (i + 1) cap) (fun j => if j = i then p else pp j) (fun j => if j = i then u else uu j) (fun _ => .slice none 0 0) (fun _ => []) := by
  have h2 := h.below hb
  have hs := hb.size
  have hl := h.lt
  have hpu := hR.lt
  have hgp : g ≠ rp := by
    rcases hat with e | e
    · exact fun e2 => h.nvp (by rw [e, e2])
    · omega
  have hk : ∀ x, x < w2.heap.size → rv.ownBlock ≠ some x → w3.heap[x]? = w2.heap[x]? := fun x hx hne => (hg.block x (by simp; omega) hne.symm).trans (Below.heap_alloc _ _ _ hx)
  have hk' : ∀ x, x < w2.heap.size → rv.ownBlock ≠ some x → x ≠ rp → (w3.setCell ⟨rp, 2, none⟩ (.slice (some ⟨g, 0, none⟩) (i + 1) cap)).heap[x]? = w2.heap[x]? := fun x hx hne hp' => (Below.heap_setCell _ _ _ _ hp').trans (hk x hx hne)
  have hnl : ∀ x, rv.ownBlock = some x → x < w.heap.size := fun x hx => (h.own.lt x hx).2
  have hgl : ∀ x, w.heap.size ≤ x → x < w2.heap.size → x ≠ g := fun x h1 h3 e => by
    rcases hat with e2 | e2
    · have := hnl g e2; omega
    · omega
  have h3 := (hk rp (by omega) h.nvp).trans h2.blk
  have hfp : ∀ x, RFp p u (.slice none 0 0) x → x = p ∨ x = u := fun x hx => by
    rcases hx with e | e | e
    · exact .inl e
    · exact .inr e
    · cases e
  have hold : ∀ j, j < i → ∀ x, RFp (pp j) (uu j) (.slice none 0 0) x → x < w.heap.size ∧ x ≠ rp ∧ rv.ownBlock ≠ some x := fun j hj x hx => ⟨hx.lt (h.ref j hj), h.off j hj x hx⟩
  refine ⟨?_, ?_, fun j hj => ?_, fun j hj x hx => ?_, fun j l hj hl2 hne x hx hx' => ?_, fun e => hgp (by simpa [Value.ownBlock] using e)⟩
  · show ((w3.heap.modify rp _)[rp]?) = _
    rw [Array.getElem?_modify, if_pos rfl, h3]
    simp
  · rw [rptrs_snoc]
    exact ownsRow_same hown fun x hx => Below.heap_setCell _ _ _ _ (by
      have : g = x := by simpa [Value.ownBlock] using hx
      show x ≠ rp
      omega)
  · by_cases e : j = i
    · simp only [e, if_pos]
      refine hR.same (hk' p hpu.1 (fun e2 => by have := hnl p e2; omega) (by omega)) (hk' u hpu.2.1 (fun e2 => by have := hnl u e2; omega) (by omega)) fun g hg => by cases hg
    · simp only [if_neg e]
      have hj' : j < i := by omega
      have hkj : ∀ x, RFp (pp j) (uu j) (.slice none 0 0) x → (w3.setCell ⟨rp, 2, none⟩ (.slice (some ⟨g, 0, none⟩) (i + 1) cap)).heap[x]? = w2.heap[x]? := fun x hx => hk' x (by have := (hold j hj' x hx).1; omega) (hold j hj' x hx).2.2 (hold j hj' x hx).2.1
      exact (h2.ref j hj').same (hkj _ (.inl rfl)) (hkj _ (.inr (.inl rfl))) fun g hg => by cases hg
  · by_cases e : j = i
    · simp only [e, if_pos] at hx
      refine ⟨by rcases hfp x hx with e | e <;> omega, fun e2 => ?_⟩
      have hxg : g = x := by simpa [Value.ownBlock] using e2
      rcases hfp x hx with e3 | e3
      · exact hgl x (by omega) (by omega) hxg.symm
      · exact hgl x (by omega) (by omega) hxg.symm
    · simp only [if_neg e] at hx
      have ho := hold j (by omega) x hx
      refine ⟨ho.2.1, fun e2 => ?_⟩
      have hxg : g = x := by simpa [Value.ownBlock] using e2
      rcases hat with e3 | e3
      · exact ho.2.2 (by rw [e3, hxg])
      · omega
  · by_cases e : j = i
    · simp only [e, if_pos] at hx
      have e2 : l ≠ i := fun h => hne (e.trans h.symm)
      simp only [if_neg e2] at hx'
      have := (hold l (by omega) x hx').1
      rcases hfp x hx with e | e <;> omega
    · simp only [if_neg e] at hx
      have h1 := (hold j (by omega) x hx).1
      by_cases e2 : l = i
      · simp only [e2, if_pos] at hx'
        rcases hfp x hx' with e | e <;> omega
      · simp only [if_neg e2] at hx'
        exact h.apart j l (by omega) (by omega) hne x hx hx'

def RNewRel (w : World) (each : Nat) (mn : Int) (c : Nat) (vi : Value) (wr : World) : Prop :=
  ∃ (i : Nat) (rv : Value) (pp uu : Nat → Nat), vi = .int .i64 (i : Int) ∧ i ≤ c ∧ RHeap wr w.heap.size each mn i rv pp uu (fun _ => .slice none 0 0) (fun _ => []) ∧ (∀ x, RHF w.heap.size rv pp uu (fun _ => .slice none 0 0) i x → w.heap.size ≤ x) ∧ Below w.heap.size w wr
def RNewPost (w : World) (each : Nat) (mn : Int) (c : Nat) (e : Ending) (w' : World) : Prop :=
  ∃ (rv : Value) (pp uu : Nat → Nat), e = .returned (.pointer (some ⟨w.heap.size, 0, none⟩)) ∧ RHeap w' w.heap.size each mn c rv pp uu (fun _ => .slice none 0 0) (fun _ => []) ∧ (∀ x, RHF w.heap.size rv pp uu (fun _ => .slice none 0 0) c x → w.heap.size ≤ x) ∧ Below w.heap.size w w'

set_option maxRecDepth 100000 in
set_option maxHeartbeats 4000000 in
theorem rhnew_any (c each : Nat) (mn : Int) (w : World) (hc : c ≤ 8) (h1 : 1 ≤ each) (h2 : each ≤ 1024) :
    Calls Try.prog 63 #[.int .i64 (c : Int), .int .i64 (each : Int), .int .i64 mn] w (RNewPost w each mn c) := by
  obtain ⟨i0, hi, hz0, hz1, hz2⟩ := info_parts infoRP
  go_enter Try.func63, Try.ntmps63
  go_wp2_with fail
  go_loopw [8] (fun vi wr => RNewRel w each mn c vi wr) (fun vi _ => c - (intOf vi).toNat)
  case atStart =>
    refine ⟨0, .slice none 0 0, fun _ => 0, fun _ => 0, rfl, Nat.zero_le _, ⟨heap_alloc_new w _, World.ownsRow_nil _ _ _ _, (fun j hj => absurd hj (by omega)), (fun j hj => absurd hj (by omega)), (fun j k hj => absurd hj (by omega)), by simp [Value.ownBlock]⟩, ?_, (Below.refl _ _).alloc (Nat.le_refl _) _⟩
    rintro x (rfl | hx | ⟨j, hj, _⟩)
    · exact Nat.le_refl _
    · cases hx
    · omega
  case round =>
    obtain ⟨i, rv, pp, uu, rfl, hic, hH, hge, hb⟩ := hrel
    have HG := Lib.hid hge
    by_cases e : i < c
    · have ci : (i : Int) < (c : Int) := by omega
      have hc2 := hH.c2
      have hrl := hH.lt
      have H := Lib.hid hH
      have HNW := Lib.hid (rnew_ok each h1 h2 wr.drew)
      have hbs := hb.size
      clear hH hge
      go_wp2_with fail
      go_region_law (first
        | (refine step_append_lies _ (by rfl) _ _ _ (by rfl) 0 60 i0 (.pointer none) 1 8 Try.underlying94 hi hz0 hz1 hz2 rfl (by omega) rv i (rptrs pp i) (by rfl) (hown2.alloc _) ⟨w2.heap.size, 0, none⟩ 1 1 [.pointer (some ⟨wr.heap.size + 1, 0, none⟩)] (by rfl) (by rfl) (cell_one_new _ _ _) (by simp [Value.oneCell']) (by omega) (by unfold maxLen; omega) (by omega) (by simp) (w2.heap.size + 1) (by simp) ?_; intro g3 cap3 w3 hown3 hg3 hat3 hlt3; have hblk3 := (hg3.block w.heap.size (by simp; omega) (Ne.symm H2.out.nvp)).trans ((Below.heap_alloc _ _ _ (by omega)).trans H2.out.blk); have hc3 : w3.cell? ⟨w.heap.size, 2, none⟩ = some rv := (by simp [World.cell?, hblk3]); have hf3 : w3.frozen? ⟨w.heap.size, 2, none⟩ = false := (by simp [World.frozen?, hblk3]); clear hblk3)
        | (go_simp; go_at_call 37; refine HNW.out.mono ?_; rintro e w2 ⟨rfl, hR2, hb2, hs2⟩; have hH2 := (H.out.drewN 1).below hb2; have hc22 := hH2.c2; have hc23 : ∀ o, (w2.alloc o).cell? ⟨w.heap.size, 2, none⟩ = some rv := (fun o => (World.cell?_of_block (a := ⟨w.heap.size, 2, none⟩) (Below.heap_alloc _ _ _ hH2.lt)).trans hc22); have hown2 := hH2.own; have hs2' : wr.heap.size + 2 = w2.heap.size := hs2.symm; have H2 := Lib.hid hH2; have HR2 := Lib.hid hR2; have HB2 := Lib.hid hb2; clear hH2 hR2 hb2 hs2))
      all_goals go_wp2_with fail
      all_goals
        go_roundw
        case rel =>
          have hs := HB2.out.size
          refine ⟨i + 1, _, _, _, by go_num, by omega, (H.out.drewN 1).push HB2.out HR2.out (Nat.le_succ _) (Nat.le_refl _) hg3 hown3 hat3, ?_, ?_⟩
          · rintro x (rfl | hx | ⟨j, hj, hx⟩)
            · exact Nat.le_refl _
            · have hxg : g3 = x := by simpa [Value.ownBlock] using hx
              rcases hat3 with e3 | e3
              · exact HG.out x (.inr (.inl (by rw [e3, hxg])))
              · omega
            · by_cases e : j = i
              · simp only [e, if_pos] at hx
                rcases hx with hx | hx | hx
                · have : x = wr.heap.size + 1 := hx
                  omega
                · have : x = wr.heap.size := hx
                  omega
                · cases hx
              · simp only [if_neg e] at hx
                exact HG.out x (.inr (.inr ⟨j, by omega, hx⟩))
          · exact ((((hb.trans (drewN_below wr 1 _)).trans (HB2.out.mono hbs)).alloc (by omega) _).grown hg3 (by simp; omega) (fun g hg => HG.out g (.inr (.inl hg)))).setCell (p := ⟨w.heap.size, 2, none⟩) (Nat.le_refl _) _
        case measure => simp [intOf]; omega
    · obtain rfl : i = c := by omega
      have ci : ¬ (i : Int) < (i : Int) := by omega
      have H := Lib.hid hH
      clear hH hge
      go_wp2_with fail
      go_ret
      exact ⟨rv, pp, uu, rfl, H.out, HG.out, hb⟩
end Go.Proofs.Ytikahcbkeempdaa
