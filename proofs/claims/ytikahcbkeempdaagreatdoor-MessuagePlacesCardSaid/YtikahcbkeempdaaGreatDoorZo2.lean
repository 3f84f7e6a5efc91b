/- zone: Within, Nearest walked. -/
import Derived.Test.YtikahcbkeempdaaGreatDoorZo1
namespace Go.Proofs.YtikahcbkeempdaaGreatDoor
open Go.RowKit Go.Maps Go.Shelf Go.Sort

/-- The nodes of s, the nearest one to k first. -/
def nodesF (m k s : Nat) : List (Fin (m + 1)) := (ordF m k).filter fun x => s.testBit x.val

theorem nodesF_len (m k s : Nat) : (nodesF m k s).length ≤ m + 1 := by
  have := List.length_filter_le (fun x : Fin (m + 1) => s.testBit x.val) (ordF m k)
  rw [ordF_len] at this
  exact this
theorem cell_new2 (w : World) (o : Obj) (v : Value) (t : TypeId) : ((w.alloc o).alloc (.cells #[v] t)).cell? ⟨w.heap.size + 1, 0, none⟩ = some v := by
  have := heap_alloc_new (w.alloc o) (.cells #[v] t)
  rw [World.size_alloc] at this
  simp only [World.cell?]
  rw [this]
  rfl

section
variable {w w' : World} {cb cc db dc : Nat} {rg rc : Nat → Nat}
set_option maxHeartbeats 1000000 in
theorem wclo {m : Nat} (hm : m ≤ 5) (s B : Nat) (hs : s < 64) (x : Fin (m + 1)) (W : World) (hc : W.cell? ⟨B, 0, none⟩ = some (.int .u8 (s : Int))) :
    FnGives Tryz.prog 51 #[.pointer (some ⟨B, 0, none⟩)] #[encF x] (.bool (!(s.testBit x.val))) W := by
  show Calls Tryz.prog 51 #[.int .i64 (x.val : Int), .pointer (some ⟨B, 0, none⟩)] W _
  obtain ⟨bv, hbv⟩ : ∃ bv, s.testBit x.val = bv := ⟨_, rfl⟩
  have hh := fun W => nshas_any s x.val hs (by omega) W
  rw [hbv] at hh
  rw [hbv]
  have HH := Lib.hid hh
  clear hh hbv
  go_enter Tryz.func51, Tryz.ntmps51
  go_wp2_with fail
  refine (HH.out _).mono ?_
  rintro e w1 ⟨rfl, rfl⟩
  go_wp2_with fail
  go_ret
  exact ⟨rfl, 0, rfl⟩

def WiRow (w' : World) (m k s g : Nat) : Prop := ∀ j (hj : j < (nodesF m k s).length), w'.cell? ⟨g, j, none⟩ = some (encF (nodesF m k s)[j])
def WiPost (w : World) (m k s : Nat) (e : Ending) (w' : World) : Prop :=
  ∃ g cap, e = .returned (.tuple #[.slice (some ⟨g, 0, none⟩) (nodesF m k s).length cap, .int .i64 0]) ∧ WiRow w' m k s g ∧ Below w.heap.size w w'

def DelPost (w : World) (m k s g cap : Nat) (e : Ending) (w' : World) : Prop :=
  e = .returned (.slice (some ⟨g, 0, none⟩) (nodesF m k s).length cap) ∧ WiRow w' m k s g ∧ ∀ B w0, Below B w0 w → B ≤ g → Below B w0 w'

theorem wdel (m k s g cap B : Nat) (hm : m ≤ 5) (hs : s < 64) (hB : w.cell? ⟨B, 0, none⟩ = some (.int .u8 (s : Int))) (hne : B ≠ g) (hH : Holds (encF (m := m)) w g 0 (ordF m k).toArray) (hcap : m + 1 ≤ cap) :
    Calls Tryz.prog 50 #[.slice (some ⟨g, 0, none⟩) (m + 1) cap, .func (.func 51) #[] #[.pointer (some ⟨B, 0, none⟩)]] w (DelPost w m k s g cap) := by
  have eg : ∀ args w, (callFunc 51 args).run Tryz.prog w = .ok (.enter 51 args) w := enters_of Tryz.func51 (by kernel_rfl) rfl
  have hl := World.block_lt_of_cell? w _ hB
  have hsz : (ordF m k).toArray.size = m + 1 := by simp [ordF_len]
  have hv : Value.slice (some ⟨g, 0, none⟩) (ordF m k).toArray.size cap = .slice (some ⟨g, 0, none⟩) (m + 1) cap := by rw [hsz]
  have hr := Tryz.slices_DeleteFunc (encF (m := m)) encF_one (fun x => !(s.testBit x.val)) 51 #[.pointer (some ⟨B, 0, none⟩)] eg (0 : Fin (m + 1)) zeroI g 0 cap (ordF m k).toArray w
    (fun W x hb => wclo hm s B hs x W ((hb.cell (p := ⟨B, 0, none⟩) hl).trans hB)) (fun n os dk x _ => wclo hm s B hs x _ (sortW_cell hB hne hl)) hH (by rw [hsz]; omega) (by rw [hsz]; exact hcap)
  rw [hv] at hr
  have hf : ((ordF m k).toArray.toList.filter fun x => !(!(s.testBit x.val))) = nodesF m k s := by
    unfold nodesF
    simp
  rw [hf] at hr
  refine hr.mono ?_
  rintro e w' ⟨rfl, q, hw'⟩
  have hlen : (nodesF m k s).length ≤ m + 1 := by
    have := List.length_filter_le (fun x : Fin (m + 1) => s.testBit x.val) (ordF m k)
    rw [ordF_len] at this
    exact this
  refine ⟨rfl, fun j hj => ?_, fun B0 w0 hb hB0 => ?_⟩
  · rw [hw']
    have h1 : Holds (encF (m := m)) (Go.Sort.ahead w q) g 0 (ordF m k).toArray := hH
    have h2 := holds_putRow (encF (m := m)) (Go.Sort.ahead w q) g 0 (ordF m k).toArray (nodesF m k s ++ List.replicate ((ordF m k).toArray.size - (nodesF m k s).length) 0).toArray h1 (by simp [ordF_len]; omega)
    have h3 := (h2 j (by simp [ordF_len]; omega)).1
    rw [Nat.zero_add] at h3
    rw [h3, getElem!_pos _ j (by simp [ordF_len]; omega)]
    congr 2
    simp [List.getElem_append_left hj]
  · rw [hw']
    exact below_putRow (below_ahead hb) hB0

set_option maxRecDepth 100000 in
set_option maxHeartbeats 1000000 in
theorem zwithin_any {m : Nat} (h : TopoAt w (m + 1) cb db rg rc) (hm : m ≤ 5) (k s : Nat) (hk : k < m + 1) (hs : s < 64) : Calls Tryz.prog 38 #[.agg #[.int .i64 ((m + 1 : Nat) : Int), .int .i64 8, .slice (some ⟨cb, 0, none⟩) (m + 1) cc, .slice (some ⟨db, 0, none⟩) (m + 1) dc], .int .i64 (k : Int), .int .u8 (s : Int)] w (WiPost w m k s) := by
  have HC := Lib.hid (fun (w' : World) (hb : Below w.heap.size w w') => zorder_any (cc := cc) (dc := dc) (h.below hb) hm k hk)
  obtain ⟨n, hn⟩ : ∃ n, m + 1 = n := ⟨_, rfl⟩
  have HN := Lib.hid hn
  simp only [hn] at HC
  simp only [hn]
  clear h hn
  go_enter Tryz.func38, Tryz.ntmps38
  go_wp2_with fail
  refine (HC.out _ (((Below.refl _ _).alloc (Nat.le_refl _) _).alloc (by simp) _)).mono ?_
  rintro e w1 ⟨g, cap, rfl, hcap, hg1, hg2, hH, hb⟩
  have HB1 := Lib.hid ((((Below.refl w.heap.size w).alloc (Nat.le_refl _) _).alloc (by simp) _).trans (hb.mono (by simp; omega)))
  have c0 := (hb.cell (p := ⟨w.heap.size + 1, 0, none⟩) (by simp)).trans (cell_new2 w _ _ _)
  simp only [World.size_alloc] at hg1
  have HD := Lib.hid (wdel m k s g cap (w.heap.size + 1) hm hs c0 (by omega) hH hcap)
  rw [HN.out] at HD ⊢
  clear hb hH c0 hcap
  go_wp2_with fail
  refine HD.out.mono ?_
  rintro e w2 ⟨rfl, hrow, hb2⟩
  have HR := Lib.hid hrow
  have HB2 := Lib.hid (hb2 w.heap.size w HB1.out (by omega))
  clear hrow hb2
  go_wp2_with fail
  go_ret2
  exact ⟨g, cap, rfl, HR.out, HB2.out⟩

def NearRel (m k s : Nat) (mv : Nat → Bool) (vi : Value) : Prop := ∃ j : Nat, vi = .int .i64 (j : Int) ∧ j ≤ (nodesF m k s).length ∧ ∀ i (hi : i < (nodesF m k s).length), i < j → mv (nodesF m k s)[i].val = false
def NearPost (w : World) (m k s : Nat) (mv : Nat → Bool) (e : Ending) (w' : World) : Prop :=
  Below w.heap.size w w' ∧ ((∃ j, ∃ hj : j < (nodesF m k s).length, e = .returned (.tuple #[.int .i64 ((nodesF m k s)[j].val : Int), .bool true]) ∧ mv (nodesF m k s)[j].val = true ∧ ∀ i (hi : i < (nodesF m k s).length), i < j → mv (nodesF m k s)[i].val = false) ∨
    (e = .returned (.tuple #[.int .i64 0, .bool false]) ∧ ∀ i (hi : i < (nodesF m k s).length), mv (nodesF m k s)[i].val = false))

set_option maxRecDepth 100000 in
set_option maxHeartbeats 1000000 in
theorem znear_any {m : Nat} (h : TopoAt w (m + 1) cb db rg rc) (hm : m ≤ 5) (k s : Nat) (hk : k < m + 1) (hs : s < 64) (ma mc : Nat) (mv : Nat → Bool) (hmay : ∀ j, j < m + 1 → w.cell? ⟨ma, j, none⟩ = some (.bool (mv j))) :
    Calls Tryz.prog 23 #[.agg #[.int .i64 ((m + 1 : Nat) : Int), .int .i64 8, .slice (some ⟨cb, 0, none⟩) (m + 1) cc, .slice (some ⟨db, 0, none⟩) (m + 1) dc], .int .i64 (k : Int), .int .u8 (s : Int), .slice (some ⟨ma, 0, none⟩) (m + 1) mc] w (NearPost w m k s mv) := by
  have HC := Lib.hid (fun (w' : World) (hb : Below w.heap.size w w') => zwithin_any (cc := cc) (dc := dc) (h.below hb) hm k s hk hs)
  obtain ⟨n, hn⟩ : ∃ n, m + 1 = n := ⟨_, rfl⟩
  have HN := Lib.hid hn
  simp only [hn] at HC hmay
  simp only [hn]
  have HM := Lib.hid hmay
  clear h hn hmay
  go_enter Tryz.func23, Tryz.ntmps23
  go_wp2_with fail
  refine (HC.out _ ((Below.refl _ _).alloc (Nat.le_refl _) _)).mono ?_
  rintro e w1 ⟨g, cap, rfl, hrow, hb⟩
  have HB1 := Lib.hid (((Below.refl w.heap.size w).alloc (Nat.le_refl _) _).trans (hb.mono (by simp)))
  have HR := Lib.hid hrow
  obtain ⟨len, hlen⟩ : ∃ len, (nodesF m k s).length = len := ⟨_, rfl⟩
  have HL := Lib.hid hlen
  have hl6 : len ≤ 6 := by rw [← hlen]; have := nodesF_len m k s; omega
  rw [hlen]
  clear hb hrow hlen
  go_wp2_with fail
  go_loop [25] (fun vi => NearRel m k s mv vi) (fun vi => len - (intOf vi).toNat)
  case atStart => exact ⟨0, rfl, Nat.zero_le _, fun i _ hi => absurd hi (by omega)⟩
  case round =>
    obtain ⟨j, rfl, hj, hall⟩ := hrel
    have HA := Lib.hid hall
    rw [HL.out] at hj
    clear hall
    by_cases e : j < len
    · have cj : (j : Int) < (len : Int) := by omega
      have cj0 : (0 : Int) ≤ (j : Int) := by omega
      have hjl : j < (nodesF m k s).length := by rw [HL.out]; exact e
      have hx := HR.out j hjl
      obtain ⟨x, hx2⟩ : ∃ x, (nodesF m k s)[j] = x := ⟨_, rfl⟩
      rw [hx2] at hx
      have hx3 : w1.cell? ⟨g, j, none⟩ = some (.int .i64 (x.val : Int)) := hx
      have hxn : x.val < n := by rw [← HN.out]; exact x.isLt
      have hmx := (HB1.out.cell (p := ⟨ma, x.val, none⟩) (World.block_lt_of_cell? w _ (HM.out x.val hxn))).trans (HM.out x.val hxn)
      have HX := Lib.hid hx2
      obtain ⟨xv, hxv⟩ : ∃ xv, x.val = xv := ⟨_, rfl⟩
      rw [hxv] at hx3 hxn hmx
      have HXV := Lib.hid hxv
      have x0 : (0 : Int) ≤ (xv : Int) := by omega
      have x1 : (xv : Int) < (n : Int) := by omega
      clear hx hx2 hxv
      cases hb : mv xv with
      | true =>
        have HBV := Lib.hid hb
        rw [hb] at hmx
        clear hb
        go_wp2_with fail
        go_ret2
        refine ⟨HB1.out, .inl ⟨j, hjl, ?_, ?_, HA.out⟩⟩
        · rw [HX.out, HXV.out]; rfl
        · rw [HX.out, HXV.out]; exact HBV.out
      | false =>
        have HBV := Lib.hid hb
        rw [hb] at hmx
        clear hb
        go_wp2_with fail
        go_round
        case rel =>
          refine ⟨j + 1, by go_num, by rw [HL.out]; omega, fun i hi hij => ?_⟩
          by_cases e3 : i = j
          · subst e3
            rw [HX.out, HXV.out]; exact HBV.out
          · exact HA.out i hi (by omega)
        case measure => simp [intOf]; omega
    · have cj : ¬ (j : Int) < (len : Int) := by omega
      obtain rfl : j = len := by omega
      go_wp2_with fail
      go_ret2
      exact ⟨HB1.out, .inr ⟨rfl, fun i hi => HA.out i hi (by rw [← HL.out]; exact hi)⟩⟩
end
end Go.Proofs.YtikahcbkeempdaaGreatDoor
