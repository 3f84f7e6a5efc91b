/- The law HeapRuns: the walk. -/
import Derived.Test.YtikahcbkeempdaaHeap8
import Derived.Test.YtikahcbkeempdaaRows0
import Derived.Deep.RegionHeld3
import Derived.Deep.CutRange
import Derived.Deep.MidRow
namespace Go.Proofs.Ytikahcbkeempdaa
open Go.RowKit Go.Maps

structure HRSt (wr : World) (hp : Nat) (nv : Value) (bb : Nat → Nat) (C o : Nat) (v : Value) (L : List Nat) (F : Nat → Nat → List Nat) (T : Nat → List (Nat × Nat)) : Prop where
  heap : HeapAt wr hp 32 0 0 0 3 nv bb F T
  row : wr.ownsRow C 3 1 v L.length (intV L)
  spl : ∀ j, j < 3 → T j = spl 32 (L.map fun f => (f, o)) j
  nodup : L.Nodup
  lt : ∀ f ∈ L, f < 96
  sz : C ≤ wr.heap.size
def HRRel (w : World) (hp : Nat) (nv : Value) (bb : Nat → Nat) (C o : Nat) (vi v : Value) (wr : World) : Prop :=
  ∃ (i : Nat) (L : List Nat) (F : Nat → Nat → List Nat) (T : Nat → List (Nat × Nat)), vi = .int .i64 (i : Int) ∧ i ≤ 20 ∧ L.length ≤ i ∧ HRSt wr hp nv bb C o v L F T ∧ Below w.heap.size w wr
def HRRel2 (w : World) (hp : Nat) (nv : Value) (bb : Nat → Nat) (C o : Nat) (vi v : Value) (wr : World) : Prop :=
  ∃ (i : Nat) (L : List Nat) (F : Nat → Nat → List Nat) (T : Nat → List (Nat × Nat)), vi = .int .i64 (i : Int) ∧ i + L.length ≤ 20 ∧ HRSt wr hp nv bb C o v L F T ∧ Below w.heap.size w wr

theorem HRSt.drewN {wr : World} {hp : Nat} {nv : Value} {bb : Nat → Nat} {C o : Nat} {v : Value} {L : List Nat} {F T} (h : HRSt wr hp nv bb C o v L F T) (m : Nat) : HRSt (wr.drewN m) hp nv bb C o v L F T :=
  ⟨h.heap.drewN m, ownsRow_same h.row fun _ _ => rfl, h.spl, h.nodup, h.lt, by simpa using h.sz⟩

/-- A run that is free is none of the list's. -/
theorem HRSt.fresh {wr : World} {hp : Nat} {nv : Value} {bb : Nat → Nat} {C o : Nat} {v : Value} {L : List Nat} {F T} (h : HRSt wr hp nv bb C o v L F T) {n x kk : Nat} (hn : n < 3) (hx : x < 32) (hp' : Bu.pick (F n) o = some (kk, x)) : n * 32 + x ∉ L := fun hm => by
  obtain ⟨h1, h2, ⟨l, hl⟩, _⟩ := Bu.pick_some hp'
  have hS : (n * 32 + x, o) ∈ L.map fun f => (f, o) := List.mem_map.2 ⟨_, hm, rfl⟩
  have := spl_mem (each := 32) hS
  simp only at this
  rw [div_at hx, mod_at hx, ← h.spl n hn] at this
  exact (h.heap.inv n hn).notin h2 (by rw [hl]; simp) this

theorem HRSt.took {wr w3 w4 : World} {hp : Nat} {nv : Value} {bb : Nat → Nat} {C o : Nat} {v v4 : Value} {L : List Nat} {F T F3 T3} (h : HRSt wr hp nv bb C o v L F T) {n x kk : Nat} (hn : n < 3) (hx : x < 32) (hp' : Bu.pick (F n) o = some (kk, x))
    (hH : HeapAt w3 hp 32 0 0 0 3 nv bb F3 T3) (hT3 : ∀ j, j < 3 → T3 j = if j = n then T n ++ [(x, o)] else T j) {B : Nat} (hS : HSpan B C hp 3 nv bb) (hs3 : wr.heap.size ≤ w3.heap.size) {ob : Obj} (hg : (w3.alloc ob).grownBy w4 v.ownBlock)
    (hown : w4.ownsRow C 3 1 v4 (L.length + 1) (intV L ++ [.int .i64 ((n * 32 + x : Nat) : Int)])) : HRSt w4 hp nv bb C o v4 (L ++ [n * 32 + x]) F3 T3 := by
  have hs := hg.size
  have hsz := h.sz
  simp at hs
  have hb : ∀ g, C ≤ g ∨ g < C → True := fun _ _ => trivial
  have hk : ∀ g, g < C → w4.heap[g]? = w3.heap[g]? := fun g hg' => (hg.block g (by simp; omega) fun e => by have := (h.row.lt g e.symm).1; omega).trans (Below.heap_alloc _ _ _ (by omega))
  refine ⟨⟨(hk hp hS.hp.2).trans hH.blk, ownsRow_same hH.own fun g e => hk g (hS.nv g e).2, fun j hj => (hH.bud j hj).same fun g _ h2 => hk g (by have := (hS.bb j hj).2; omega), hH.inv, hH.off, hH.apart, hH.nvp⟩, ?_, fun j hj => ?_, ?_, ?_, by omega⟩
  · rw [List.length_append, intV_app]; exact hown
  · rw [List.map_append, List.map_singleton, spl_snoc hx, hT3 j hj]
    by_cases e : j = n
    · rw [if_pos e, if_pos e, h.spl n hn]
    · rw [if_neg e, if_neg e, h.spl j hj]
  · rw [List.nodup_append]
    refine ⟨h.nodup, by simp, fun a ha b hb' => ?_⟩
    rw [List.mem_singleton] at hb'
    subst hb'
    exact fun e => h.fresh hn hx hp' (e ▸ ha)
  · intro f hf
    rcases List.mem_append.1 hf with hf | hf
    · exact h.lt f hf
    · rw [List.mem_singleton] at hf; omega

theorem map_erase_pair (o f : Nat) : ∀ L : List Nat, (L.erase f).map (fun f => (f, o)) = (L.map fun f => (f, o)).erase (f, o)
  | [] => rfl
  | a :: L => by
    by_cases e : a = f
    · subst e; simp
    · have h1 : (a :: L).erase f = a :: L.erase f := by rw [List.erase_cons]; simp [e]
      rw [h1, List.map_cons, List.map_cons, map_erase_pair o f L, List.erase_cons]
      simp [e]
theorem HRSt.gave {wr w9 w11 : World} {hp : Nat} {nv : Value} {bb : Nat → Nat} {C o : Nat} {v v4 : Value} {L : List Nat} {F T F9 T9} (h : HRSt wr hp nv bb C o v L F T) {f : Nat} (h9 : HeapAt w9 hp 32 0 0 0 3 nv bb F9 T9) (hf : f ∈ L) (hT : ∀ j, j < 3 → T9 j = if j = f / 32 then (T (f / 32)).erase (f % 32, o) else T j)
    (hB : Below w9.heap.size w9 w11) (hs : C ≤ w9.heap.size) (hown : w11.ownsRow w9.heap.size 3 1 v4 (L.erase f).length (intV (L.erase f))) : HRSt w11 hp nv bb C o v4 (L.erase f) F9 T9 := by
  refine ⟨h9.below hB, hown.mono hs, fun j hj => ?_, h.nodup.erase f, fun x hx => h.lt x (List.mem_of_mem_erase hx), Nat.le_trans hs hB.size⟩
  have hn3 : f / 32 < 3 := by have := h.lt f hf; omega
  rw [map_erase_pair, spl_erase j (List.mem_map.2 ⟨f, hf, rfl⟩), hT j hj]
  by_cases e : j = f / 32
  · rw [if_pos e, if_pos e, h.spl _ hn3, e]
  · rw [if_neg e, if_neg e, h.spl j hj]

set_option maxRecDepth 100000 in
set_option maxHeartbeats 4000000 in
theorem heapRuns_walk (a0 : Int) (a : Option Addr) (len cap : Nat) (z : Nat → Int) (a2 : Option Addr) (len2 cap2 : Nat) (z2 : Nat → Int) (w : World) (hz : IntsAt w a len z) (hmax : len ≤ 9223372036854775807) (hz2 : IntsAt w a2 len2 z2) (hmax2 : len2 ≤ 9223372036854775807) :
    Calls Try.prog 14 #[.int .i64 a0, .slice a len cap, .slice a2 len2 cap2] w fun e w' => e = .returned (.bool true) ∧ Below w.heap.size w w' := by
  obtain ⟨i0, hi, hz0, hz1, hzb⟩ := info_parts infoI
  obtain ⟨o, ho, ho1⟩ := u64mod' a0 4 (by decide)
  obtain ⟨P, hP⟩ : ∃ P, 2 ^ o = P := ⟨_, rfl⟩
  have hcP : (2 : Int) ^ o = (P : Int) := by rw [castPow, hP]
  have hPl : 1 ≤ P ∧ P ≤ 8 ∧ 8 % P = 0 ∧ 32 % P = 0 := by
    have : o = 0 ∨ o = 1 ∨ o = 2 ∨ o = 3 := by omega
    rcases this with rfl | rfl | rfl | rfl <;> (subst hP; decide)
  obtain ⟨hP1, hP8, hPd, hPd2⟩ := hPl
  have HP := Lib.hid hP
  have HPD := Lib.hid (And.intro hPd hPd2)
  have HZ := Lib.hid hz
  have HZ2 := Lib.hid hz2
  clear hP hPd hPd2 hz hz2
  go_enter Try.func14, Try.ntmps14
  go_wp2_with fail
  refine (hnew_any 3 32 5 0 0 0 _ (by omega) (by omega) (by omega) rfl).mono ?_
  rintro e w1 hpost
  obtain ⟨hp, nv, bb, rfl, hH1, hS1, hb1⟩ := hpost.ok ⟨by omega, by omega, by omega, by omega⟩
  have H1 := Lib.hid hH1
  obtain ⟨C, hC⟩ : ∃ C, w1.heap.size = C := ⟨_, rfl⟩
  rw [hC] at hS1
  have hwC : w.heap.size ≤ C := by rw [← hC]; exact hb1.size
  have HS := Lib.hid hS1
  have HC := Lib.hid hC
  clear hpost hH1 hS1 ho hC
  go_wp2_with fail
  refine (heaps_any _).mono ?_
  rintro e w2 ⟨rfl, hb2⟩
  have h2 : HRSt w2 hp nv bb C o (.slice none 0 0) [] (fun _ => Bu.newF 32) (fun _ => []) :=
    ⟨H1.out.below hb2, World.ownsRow_nil _ _ _ _, fun _ _ => rfl, List.nodup_nil, (fun _ h => by cases h), by have := hb2.size; have := HC.out; omega⟩
  have H2 := Lib.hid h2
  have hb12 := hb1.trans (hb2.mono hb1.size)
  clear H1 hb1 hb2 h2 HC
  go_wp2_with fail
  go_loopw [11, 10] (fun vi v wr => HRRel w hp nv bb C o vi v wr) (fun vi _ _ => len - (intOf vi).toNat)
  case atStart => exact ⟨0, [], _, _, rfl, by omega, Nat.le_refl _, H2.out, hb12⟩
  case round =>
    clear H2 hb12
    obtain ⟨i, L, F, T, rfl, hi20, hLi, hR, hb⟩ := hrel
    have HR := Lib.hid hR
    by_cases e : i < len ∧ i < 20
    · obtain ⟨e1, e2⟩ := e
      have c1 : (i : Int) < (len : Int) := by omega
      have c2 : (i : Int) < 20 := by omega
      obtain ⟨b, off, rfl, hbl, hcell⟩ := HZ.out (by omega)
      have hc := (hb.cell (p := ⟨b, off + i, none⟩) hbl).trans (hcell i e1).1
      obtain ⟨n, hn, hn1⟩ := u64mod' (z i) 3 (by decide)
      have hn3 : n < 3 := by omega
      clear hcell
      cases hm : mayF (F n) 0 (o : Int) with
      | false =>
        have HT := Lib.hid (htake_nomem hR.heap n hn3 o (by omega) hm)
        have HM := Lib.hid hm
        clear hm hR
        go_wp2_with fail
        refine HT.out.mono ?_
        rintro e w3 ⟨rfl, k3, hw3⟩
        have h3 : HRSt w3 hp nv bb C o u10 L F T := by rw [hw3]; exact HR.out.drewN k3
        have hb3 : Below w.heap.size w w3 := by rw [hw3]; exact hb.trans (drewN_below _ _ _)
        have y1 := may_yes h3.heap n hn3 (o : Int)
        rw [HM.out] at y1
        have Y1 := Lib.hid y1
        have H3 := Lib.hid h3
        clear y1 h3 hw3 hb HR
        go_wp2_with fail
        refine Y1.out.mono ?_
        rintro e w4 ⟨rfl, k4, hw4⟩
        have h4 : HRSt w4 hp nv bb C o u10 L F T := by rw [hw4]; exact H3.out.drewN k4
        have hb4 : Below w.heap.size w w4 := by rw [hw4]; exact hb3.trans (drewN_below _ _ _)
        have H4 := Lib.hid h4
        clear h4 hw4 hb3 H3
        go_wp2_with fail
        go_roundw
        case rel => exact ⟨i + 1, L, F, T, by go_num, by omega, by omega, H4.out, hb4⟩
        case measure => simp [intOf]; omega
      | true =>
        have hsome : (Bu.pick (F n) o).isSome = true := by
          unfold mayF at hm
          rw [Bool.and_eq_true, Bool.and_eq_true, Int.toNat_natCast] at hm
          exact hm.1.2
        obtain ⟨⟨kk, x⟩, hpick⟩ := Option.isSome_iff_exists.1 hsome
        have hI' := (hR.heap.inv n hn3).take_pick hpick
        have hin := (hI'.taken (x, o) (by simp)).2
        simp only [HP.out] at hin
        obtain ⟨hin1, hin2⟩ := hin
        have hx32 : x < 32 := by omega
        have ht := htake_ok hR.heap (by omega) n hn3 o (by omega) hm hpick
        obtain ⟨f, hf⟩ : ∃ f, n * 32 + x = f := ⟨_, rfl⟩
        unfold HTakePost at ht
        rw [hf] at ht
        have hq1 : (f : Int).tdiv 32 = (n : Int) := by rw [Int.tdiv_eq_ediv_of_nonneg (by omega)]; omega
        have hq2 : (f : Int) / 32 = (n : Int) := by omega
        have hr1 : (f : Int).tmod (P : Int) = 0 := by
          rw [Int.tmod_eq_emod_of_nonneg (by omega), ← Int.natCast_emod, ← hf, Nat.add_mod, Nat.mul_mod, HPD.out.2, hin1]; simp
        have hr2 : (f : Int) % (P : Int) = 0 := by
          rw [← Int.natCast_emod, ← hf, Nat.add_mod, Nat.mul_mod, HPD.out.2, hin1]; simp
        have hs1 : ((f : Int) + (P : Int) - 1).tdiv 32 = (n : Int) := by rw [Int.tdiv_eq_ediv_of_nonneg (by omega)]; omega
        have hs2 : ((f : Int) + (P : Int) - 1) / 32 = (n : Int) := by omega
        have hP0 : ((P : Int) == 0) = false := by rw [beq_eq_false_iff_ne]; omega
        have hPn : ¬ (P : Int) = 0 := by omega
        have hPn2 : ¬ P = 0 := by omega
        have HT := Lib.hid ht
        have HPK := Lib.hid hpick
        have HF := Lib.hid hf
        have fl : f < 96 := by omega
        clear ht hpick hI' hsome hm hf hR
        go_wp2_with fail
        refine HT.out.mono ?_
        rintro e w3 ⟨rfl, hk3, hH3⟩
        have H3 := Lib.hid hH3
        have hs3 := hk3.size
        have hrow3 : w3.ownsRow C 3 1 u10 L.length (intV L) := ownsRow_same HR.out.row fun g hg => hk3.block g (HR.out.row.lt g hg).2 (by have := (HR.out.row.lt g hg).1; have := (HS.out.bb n hn3).2; omega)
        have hb3 := hb.trans (hk3.below (HS.out.bb n hn3).1 hb.size)
        have hsz3 : C ≤ w3.heap.size := by have := HR.out.sz; omega
        clear hH3 hk3 hb
        go_wp2_with (first
          | (at_builtin; refine wpList_append_own _ rfl _ _ 41 rfl C 3 i0 (.int .i64 0) 1 8 Try.underlying41 hi hz0 hz1 hzb rfl (by decide) _ _ _ rfl (hrow3.alloc _) ⟨w3.heap.size, 0, none⟩ 1 1 [.int .i64 (f : Int)] rfl rfl (cell_one_new _ _ _) (by simp [Value.oneCell']) (by unfold maxLen; omega) (by omega) (by simp; omega) ?_; intro v' w4 hown4 hg4 hnil4))
        have h4 : HRSt w4 hp nv bb C o v' (L ++ [n * 32 + x]) _ _ := HR.out.took hn3 hx32 HPK.out H3.out (fun j _ => rfl) HS.out hs3 hg4 (by rw [HF.out]; exact hown4)
        have H4 := Lib.hid h4
        have hb4 := (hb3.alloc (by omega) _).grown hg4 (by simp; omega) (fun g hg => by have := (hrow3.lt g hg).1; omega)
        clear h4 hown4 hg4 hnil4 hrow3 hb3 hq1 hq2 hr1 hr2 hs1 hs2 hP0
        go_wp2_with fail
        go_roundw
        case rel => exact ⟨i + 1, _, _, _, by go_num, by omega, by simp; omega, H4.out, hb4⟩
        case measure => simp [intOf]; omega
    · have hcase : (¬ (i : Int) < (len : Int)) ∨ ((i : Int) < (len : Int) ∧ ¬ (i : Int) < 20) := by omega
      clear e
      rcases hcase with c1 | ⟨c1, c2⟩
      all_goals
        clear hR
        go_wp2_with fail
        go_loopw [15, 10] (fun vi v wr => HRRel2 w hp nv bb C o vi v wr) (fun vi _ _ => 21 - (intOf vi).toNat)
        case atStart => exact ⟨0, L, F, T, rfl, by omega, HR.out, hb⟩
        case round =>
          clear HR hb
          obtain ⟨i, L, F, T, rfl, hi20, hR, hb⟩ := hrel
          have HR := Lib.hid hR
          obtain ⟨oa, tcap, rfl, hsh⟩ := own_shape hR.row
          by_cases hL0 : L.length = 0
          · have ct : ¬ (0 : Int) < (L.length : Int) := by omega
            have hL : L = [] := List.length_eq_zero_iff.1 hL0
            have hw : wholeH F 32 3 = true := wholeH_true fun j hj => by
              have h1 := (hR.heap.inv j hj).sum
              have h2 : T j = [] := by rw [hR.spl j hj, hL]; rfl
              rw [h2] at h1
              simpa [Bu.sumT] using h1
            have hwh := hwhole_any hR.heap (by omega)
            unfold HWholePost at hwh
            rw [hw] at hwh
            have HW := Lib.hid hwh
            clear hL hw hwh hsh hR
            go_wp2_with fail
            refine HW.out.mono ?_
            rintro e w3 ⟨rfl, k3, hw3⟩
            have hb3 : Below w.heap.size w w3 := by rw [hw3]; exact hb.trans (drewN_below _ _ _)
            clear hw3
            go_wp2_with fail
            go_ret
            exact ⟨rfl, hb3⟩
          · have ct : (0 : Int) < (L.length : Int) := by omega
            clear hsh
            obtain ⟨j0, hj0, hj1⟩ := u64mod' (z2 i) (L.length : Int) (by omega)
            have hwl : IntKind.u64.wrap (L.length : Int) = (L.length : Int) := IntWalk.u64_in _ (by omega)
            have hwj : IntKind.i64.wrap (j0 : Int) = (j0 : Int) := IntWalk.i64_in _ (by omega)
            have ht0 : ((L.length : Int) == 0) = false := by rw [beq_eq_false_iff_ne]; omega
            have ht1 : ¬ (L.length : Int) = 0 := by omega
            have hTN : ¬ L = [] := fun h => hL0 (by rw [h]; rfl)
            clear hR
            go_upto_if 99 with (fail)
            go_cut [16] from 91 to 137 (fun s wx => ∃ j : Nat, s = .int .i64 (j : Int) ∧ j < L.length ∧ wx = wr)
            case first =>
              by_cases e2 : i < len2
              · have c4 : (i : Int) < (len2 : Int) := by omega
                obtain ⟨b2, off2, rfl, hbl2, hcell2⟩ := HZ2.out (by omega)
                have hc2 := (hb.cell (p := ⟨b2, off2 + i, none⟩) hbl2).trans (hcell2 i e2).1
                clear hcell2
                go_wp2_with fail
                go_meet
                exact ⟨j0, rfl, by omega, rfl⟩
              · have c4 : ¬ (i : Int) < (len2 : Int) := by omega
                go_wp2_with fail
                go_meet
                exact ⟨0, rfl, by omega, rfl⟩
            case rest =>
              obtain ⟨k, rfl, hkL, rfl⟩ := hcut
              clear hj0 hj1 hwl hwj ht0 ht1
              obtain ⟨g, cap, cur, hv, hgC, hgb, hcap, htk⟩ := own_block1 HR.out.row (by omega)
              obtain ⟨rfl, rfl⟩ : oa = some ⟨g, 0, none⟩ ∧ tcap = cap := by cases hv; exact ⟨rfl, rfl⟩
              clear hv
              have hgl : g < wc.heap.size := (Array.getElem?_eq_some_iff.1 hgb).1
              have hx0 : wc.cell? ⟨g, k, none⟩ = some (.int .i64 ((L[k] : Nat) : Int)) := by
                rw [HR.out.row.cellAt k (by omega)]
                simp [intV, hkL]
              obtain ⟨f, hf⟩ : ∃ f, L[k] = f := ⟨_, rfl⟩
              rw [hf] at hx0
              have hfm : f ∈ L := by rw [← hf]; exact List.getElem_mem hkL
              have hf96 := HR.out.lt f hfm
              have hfx : f / 32 * 32 + f % 32 = f := by omega
              have hn3 : f / 32 < 3 := by omega
              have hmem : (f % 32, o) ∈ T (f / 32) := by
                rw [HR.out.spl _ hn3]
                exact spl_mem (each := 32) (t := (f, o)) (List.mem_map.2 ⟨f, hfm, rfl⟩)
              have hgone := (HR.out.heap.inv _ hn3).gone _ hmem
              have hG := hgive_ok HR.out.heap (by omega) (f / 32) hn3 (f % 32) o hmem
              rw [hfx] at hG
              have her : L.erase f = L.take k ++ L.drop (k + 1) := by
                rw [← hf]
                exact erase_at HR.out.nodup hkL
              have HG := Lib.hid hG
              have HGONE := Lib.hid hgone
              have HER := Lib.hid her
              have HTK := Lib.hid htk
              have HGB := Lib.hid hgb
              have HFX := Lib.hid hfx
              have HFM := Lib.hid hfm
              have k0 : (0 : Int) ≤ (k : Int) := by omega
              have k1 : (k : Int) < (L.length : Int) := by omega
              have hL20 : L.length ≤ 20 := by omega
              clear hG hgone her htk hgb hfx hfm hmem hf
              go_wp2_with fail
              refine HG.out.mono ?_
              rintro e w8 ⟨rfl, hR8⟩
              have hx8 : w8.cell? ⟨g, k, none⟩ = some (.int .i64 (f : Int)) := (World.cell?_of_block (a := ⟨g, k, none⟩) (hR8.keeps HS.out hn3 hgC hgl)).trans hx0
              have hgb8 := (hR8.keeps HS.out hn3 hgC hgl).trans HGB.out
              have hb8 := hb.trans (hR8.below HS.out hn3 hb.size)
              have hbad := hgive_bad hR8.2 (by omega) (f / 32) hn3 (f % 32) o (by omega) (by omega) (by rw [if_pos rfl]; exact HGONE.out)
              rw [HFX.out] at hbad
              have HBAD := Lib.hid hbad
              have H8 := Lib.hid hR8.2
              have HGB8 := Lib.hid hgb8
              clear hR8 hbad hgb8 hx0 hb
              go_wp2_with fail
              refine HBAD.out.mono ?_
              rintro e w9 ⟨rfl, m9, hw9⟩
              have h9 := H8.out.drewN m9
              rw [← hw9] at h9
              have hb9 : Below w.heap.size w w9 := by rw [hw9]; exact hb8.trans (drewN_below _ _ _)
              have hgb9 : w9.heap[g]? = some (.cells cur 3 (0, 0)) := by rw [hw9]; exact HGB8.out
              have hs9 : C ≤ w9.heap.size := by
                have : g < w9.heap.size := (Array.getElem?_eq_some_iff.1 hgb9).1
                omega
              have lg : g < w9.heap.size := (Array.getElem?_eq_some_iff.1 hgb9).1
              have H9 := Lib.hid h9
              have hgb9 := Lib.hid hgb9
              clear h9 hw9 HGB8 H8 hb8 hx8
              have f1 : IntKind.i64.wrap ((k : Int) + 1) = (k : Int) + 1 := IntWalk.i64_in _ (by omega)
              have f2 : (0 : Int) ≤ (k : Int) + 1 := by omega
              have f3 : ((k : Int) + 1).toNat = k + 1 := by omega
              have f4 : (k : Int) + 1 ≤ (L.length : Int) := by omega
              have f5 : (k : Int) ≤ (L.length : Int) := by omega
              have f6 : k ≤ tcap := by omega
              have f7 : k + 1 ≤ L.length := by omega
              have f9 : k + 1 ≤ tcap := by omega
              have f10 : (k : Int) ≤ (k : Int) + 1 := by omega
              have hec : (tcap = k + 1 ∧ L.length = k + 1) ∨ (¬ tcap = k + 1 ∧ 0 ≤ k) := by omega
              clear hcap hgl hkL
              rcases hec with ⟨ecap, etl⟩ | ⟨ecap, etl⟩
              all_goals
                go_wp2_with fail
                go_region_law (first
                  | (refine step_append_own _ (by rfl) _ _ _ (by rfl) w9.heap.size 3 i0 _ 1 8 Try.underlying41 hi hz0 hz1 hzb rfl (by omega) (.slice (some ⟨w9.heap.size, 0, none⟩) 0 0) 0 [] (by rfl) ((World.ownsRow_made w9 #[] 0 (Nat.le_refl _) (by decide) rfl).drew) ⟨g, 0, none⟩ k _ (intV (L.take k)) (by rfl) (by rw [intV_len]; simp; omega) (news_take1 ((Below.heap_alloc w9 _ _ lg).trans hgb9.out) HTK.out) (intV_one _) (by unfold maxLen; omega) (by omega) (by simp) ?_; intro v3 w10 hown3 hgrow3 hnil3; have hB3 : Below w9.heap.size w9 w10 := ⟨hgrow3.os, hgrow3.tape, hgrow3.output, Nat.le_trans (by simp) hgrow3.size, (fun i hi => (hgrow3.block i (by simp; omega) (by simp [Value.ownBlock]; omega)).trans (Below.heap_alloc _ _ _ hi))⟩; have HB3 := Lib.hid hB3; have hs3 := hgrow3.size; clear hB3)
                  | (refine step_append_own _ (by rfl) _ _ _ (by rfl) w9.heap.size 3 i0 _ 1 8 Try.underlying41 hi hz0 hz1 hzb rfl (by omega) v3 (0 + k) ([] ++ intV (L.take k)) (by rfl) hown3 _ _ _ (intV (L.drop (k + 1))) (by rfl) (by rw [intV_len]; simp; try omega) (by first | exact news_drop1 ((HB3.out.block g lg).trans hgb9.out) HTK.out | (intro j u hj; rw [List.drop_of_length_le (by omega)] at hj; simp [intV] at hj)) (intV_one _) (by unfold maxLen; omega) (by omega) (by simp at hs3; omega) ?_; intro v4 w11 hown4 hgrow4 hnil4; have hB4 : Below w9.heap.size w9 w11 := ⟨hgrow4.os.trans HB3.out.os, hgrow4.tape.trans HB3.out.tape, hgrow4.output.trans HB3.out.output, Nat.le_trans HB3.out.size hgrow4.size, (fun i hi => (hgrow4.block i (by simp at hs3; omega) (fun e => by have := (hown3.lt i e.symm).1; omega)).trans (HB3.out.block i hi))⟩; have HB4 := Lib.hid hB4; have HO4 := Lib.hid (own_app1 hown4); clear hB4 hown4 hgrow4 hnil4))
                all_goals go_wp2_with fail
                all_goals go_roundw
                case rel => exact ⟨i + 1, L.erase f, _, _, by go_num, by rw [HER.out]; simp; omega, HR.out.gave H9.out HFM.out (fun j _ => rfl) HB4.out hs9 (by rw [HER.out]; exact HO4.out), hb9.trans (HB4.out.mono hb9.size)⟩
                case measure => simp [intOf]; omega

end Go.Proofs.Ytikahcbkeempdaa
