/- The law MessuagePlaces: the walk. -/
import Derived.Test.YtikahcbkeempdaaGreatDoorPn0
import Derived.Test.YtikahcbkeempdaaGreatDoorTopH
import Derived.Test.YtikahcbkeempdaaGreatDoorRows0
import Derived.OpenShut
import Derived.Deep.RegionHeld3
import Derived.Deep.CutRange
namespace Go.Proofs.YtikahcbkeempdaaGreatDoor
open Go.RowKit Go.Maps

def PlRel (w0 : World) (hp n m : Nat) (nv : Value) (bb : Nat → Nat) (B1 C1 k s : Nat) (vi vl : Value) (wr : World) : Prop :=
  ∃ (i : Nat) (F : Nat → Nat → List Nat) (T : Nat → List (Nat × Nat)), vi = .int .i64 (i : Int) ∧ vl = .int .i64 (lastN k (plN m k s) i : Int) ∧ i ≤ 6 * (plN m k s).length ∧ HeapAt wr hp 8 2 2 8 n nv bb F T ∧ (∀ j, j < n → Bu.sumF (F j) 11 = frN (plN m k s) i j) ∧ Kept B1 C1 w0 wr
def PlRel2 (n : Nat) (vi : Value) : Prop := ∃ i : Nat, vi = .int .i64 (i : Int) ∧ i ≤ n

def PlCut (wr : World) (x k : Nat) (v18 v19 : Value) (wx : World) : Prop :=
  ∃ g, v18 = .pointer (some ⟨g, 0, none⟩) ∧ v19 = .int .i64 0 ∧ Below wr.heap.size wr wx ∧ wr.heap.size ≤ g ∧ wx.heap[g]? = some (.cells #[.int .i64 (x : Int), .int .i64 (k : Int), .int .i64 0] 42 (0, 0))

def PlEnd (wr : World) (_ v19 : Value) (wx : World) : Prop := v19 = .int .i64 5 ∧ Below wr.heap.size wr wx

theorem took1 {n y kk : Nat} {Ti : List (Nat × Nat)} {Fi : Nat → List Nat} (I : Bu.Inv n Ti Fi) (hp : Bu.pick Fi 0 = some (kk, y)) : Bu.sumF (Bu.takeF Fi kk 0 y) 11 = Bu.sumF Fi 11 - 1 := by
  have h1 := I.sum
  have h2 := (I.take_pick hp).sum
  have h3 : Bu.sumT (Ti ++ [(y, 0)]) = Bu.sumT Ti + 1 := by simp [Bu.sumT]
  rw [h3] at h2
  omega

set_option maxRecDepth 100000 in
set_option maxHeartbeats 4000000 in
theorem messuagePlaces_walk (a0 a1 a2 : Int) (w : World) (h1 : (Lit.int .u8 a1).wf = true) :
    Calls Tryz.prog 3 #[.int .i64 a0, .int .u8 a1, .int .i64 a2] w fun e w' => e = .returned (.bool true) ∧ Below w.heap.size w w' := by
  have hb1 := bounds_u8 h1
  obtain ⟨S, rfl⟩ : ∃ S : Nat, a1 = (S : Int) := ⟨a1.toNat, by omega⟩
  obtain ⟨m, hm, hm1⟩ := u64mod' a0 6 (by decide)
  obtain ⟨n, hn⟩ : ∃ n, m + 1 = n := ⟨_, rfl⟩
  have hn1 : (1 : Int) + (m : Int) = (n : Int) := by omega
  have n6 : n ≤ 6 := by omega
  have n1 : 1 ≤ n := by omega
  obtain ⟨k, hk, hk1⟩ := u64mod' a2 (n : Int) (by omega)
  have hkn : k < n := by omega
  have hwl : IntKind.u64.wrap (n : Int) = (n : Int) := IntWalk.u64_in _ (by omega)
  have hwj : IntKind.i64.wrap (k : Int) = (k : Int) := IntWalk.i64_in _ (by omega)
  have ht0 : ((n : Int) == 0) = false := by rw [beq_eq_false_iff_ne]; omega
  have ht1 : ¬ (n : Int) = 0 := by omega
  obtain ⟨A, hA⟩ : ∃ A, 2 ^ n - 1 = A := ⟨_, rfl⟩
  obtain ⟨s, hs⟩ : ∃ s, S &&& A = s := ⟨_, rfl⟩
  have hand : bits BinOp.and IntKind.u8 (S : Int) (A : Int) = (s : Int) := by rw [← hs, ← hA]; exact and_u8 n S n6 (by omega)
  have hs2 : s < 2 ^ n := by
    have h1 : s ≤ A := by rw [← hs]; exact Nat.and_le_right
    have h2 := Bu.pos2 n
    omega
  have hall := fun w => nsall_any n (by omega) w
  rw [hA] at hall
  have HALL := Lib.hid hall
  have HN := Lib.hid hn
  have HS2 := Lib.hid hs2
  clear h1 hb1 hn hA hs hs2 hall
  go_enter Tryz.func3, Tryz.ntmps3
  go_wp2_with fail
  refine (line_any n n1 n6 _).mono ?_
  rintro e w1 ⟨cb, cc, db, dc, rg, rc, rfl, hT1, hb1⟩
  have HT1 := Lib.hid hT1
  have HB1 := Lib.hid hb1
  clear hT1 hb1
  go_upto_region 3 with (fail)
  obtain ⟨tb, htb⟩ : ∃ tb, w1.heap.size = tb := ⟨_, rfl⟩
  obtain ⟨w2, hw2⟩ : ∃ w2, w1.alloc (.cells #[.int .i64 (n : Int), .int .i64 8, .slice (some ⟨cb, 0, none⟩) n cc, .slice (some ⟨db, 0, none⟩) n dc] 26) = w2 := ⟨_, rfl⟩
  have hblk : w2.heap[tb]? = some (.cells #[.int .i64 (n : Int), .int .i64 8, .slice (some ⟨cb, 0, none⟩) n cc, .slice (some ⟨db, 0, none⟩) n dc] 26 (0, 0)) := by rw [← hw2, ← htb]; exact heap_alloc_new w1 _
  have hba : Below w1.heap.size w1 w2 := by rw [← hw2]; exact (Below.refl _ _).alloc (Nat.le_refl _) _
  have HT2 := Lib.hid (HT1.out.below hba)
  have HB2 := Lib.hid (HB1.out.trans (hba.mono HB1.out.size))
  have htl : tb < w2.heap.size := (Array.getElem?_eq_some_iff.1 hblk).1
  have HBLK := Lib.hid hblk
  rw [hw2, htb]
  clear hw2 htb hblk hba HT1 HB1
  go_wp2_with fail
  refine (HALL.out _).mono ?_
  rintro e wq ⟨rfl, rfl⟩
  have HNW := Lib.hid (hnew_any n 8 3 2 2 8 w2 n1 (by omega) (by omega) rfl)
  go_wp2_with fail
  refine HNW.out.mono ?_
  rintro e w3 hpost
  obtain ⟨hp, nv, bb, rfl, hH3, hS3, hb3⟩ := hpost.ok ⟨by omega, by omega, by omega, by omega⟩
  have HH3 := Lib.hid hH3
  have HS := Lib.hid hS3
  have HB3 := Lib.hid hb3
  clear hpost hH3 hS3 hb3 HNW
  go_wp2_with fail
  refine (stands_any _).mono ?_
  rintro e w4 ⟨rfl, hb4⟩
  go_wp2_with fail
  refine (halvesT_any _).mono ?_
  rintro e w5 ⟨rfl, hb5⟩
  have HB5 := Lib.hid (hb4.trans (hb5.mono hb4.size))
  clear hb4 hb5
  by_cases s0 : s = 0
  · have s0' : ((s : Int) == 0) = true := by simp [s0]
    clear s0
    go_wp2_with fail
    refine (stands_any _).mono ?_
    rintro e w6 ⟨rfl, hb6⟩
    go_wp2_with fail
    refine (halvesT_any _).mono ?_
    rintro e w7 ⟨rfl, hb7⟩
    have HB7 := Lib.hid (HB5.out.trans ((hb6.trans (hb7.mono hb6.size)).mono HB5.out.size))
    clear hb6 hb7
    go_wp2_with fail
    go_ret
    exact ⟨rfl, (HB2.out.trans (HB3.out.mono HB2.out.size)).trans (HB7.out.mono (by have := HB3.out.size; have := HB2.out.size; omega))⟩
  · have s0' : ((s : Int) == 0) = false := by rw [beq_eq_false_iff_ne]; omega
    have s0'' : ¬ (s : Int) = 0 := by omega
    have S0 := Lib.hid s0
    clear s0
    go_upto_region 10 with (fail)
    obtain ⟨w6, hw6⟩ : ∃ w6, w5.alloc (.cells #[.int .i64 1, .int .u8 (s : Int), .int .i64 0] 39) = w6 := ⟨_, rfl⟩
    obtain ⟨pb, hpb⟩ : ∃ pb, w5.heap.size = pb := ⟨_, rfl⟩
    have hpk : w6.heap[pb]? = some (.cells #[.int .i64 1, .int .u8 (s : Int), .int .i64 0] 39 (0, 0)) := by rw [← hw6, ← hpb]; exact heap_alloc_new w5 _
    have hb6 : Below w5.heap.size w5 w6 := by rw [← hw6]; exact (Below.refl _ _).alloc (Nat.le_refl _) _
    have hpl : pb < w6.heap.size := (Array.getElem?_eq_some_iff.1 hpk).1
    obtain ⟨B1, hB1⟩ : ∃ B1, w2.heap.size = B1 := ⟨_, rfl⟩
    obtain ⟨C1, hC1⟩ : ∃ C1, w3.heap.size = C1 := ⟨_, rfl⟩
    have hBC : B1 ≤ C1 := by rw [← hB1, ← hC1]; exact HB3.out.size
    have hCp : C1 ≤ pb := by rw [← hpb, ← hC1]; exact HB5.out.size
    have hB36 : Below C1 w3 w6 := by rw [← hC1]; exact HB5.out.trans (hb6.mono HB5.out.size)
    have hB26 : Below B1 w2 w6 := by
      have h1 := HB3.out
      rw [hB1] at h1
      exact h1.trans (hB36.mono hBC)
    have hH6 : HeapAt w6 hp 8 2 2 8 n nv bb (fun _ => Bu.newF 8) (fun _ => []) := HH3.out.below (by rw [hC1]; exact hB36)
    have HH6 := Lib.hid hH6
    have hS := HS.out
    rw [hB1, hC1] at hS
    have HS := Lib.hid hS
    have CB := Lib.hid (fun (w' : World) (hk : Kept B1 C1 w6 w') => (hB26.trans (hk.below (Nat.le_refl _) (by omega)) : Below B1 w2 w'))
    have CT := Lib.hid (fun (w' : World) (hk : Kept B1 C1 w6 w') => ((CB.out w' hk).block tb (by omega)).trans HBLK.out)
    have CP := Lib.hid (fun (w' : World) (hk : Kept B1 C1 w6 w') => (hk.block pb hpl (by omega)).trans hpk)
    have CC := Lib.hid (fun (w' : World) (hk : Kept B1 C1 w6 w') => And.intro (show w'.cell? ⟨tb, 0, none⟩ = some (.int .i64 (n : Int)) by simp [World.cell?, CT.out w' hk]) (And.intro (show w'.cell? ⟨tb, 1, none⟩ = some (.int .i64 8) by simp [World.cell?, CT.out w' hk]) (And.intro (show w'.cell? ⟨tb, 2, none⟩ = some (.slice (some ⟨cb, 0, none⟩) n cc) by simp [World.cell?, CT.out w' hk]) (And.intro (show w'.cell? ⟨tb, 3, none⟩ = some (.slice (some ⟨db, 0, none⟩) n dc) by simp [World.cell?, CT.out w' hk])
      (And.intro (show w'.cell? ⟨pb, 0, none⟩ = some (.int .i64 1) by simp [World.cell?, CP.out w' hk]) (And.intro (show w'.cell? ⟨pb, 1, none⟩ = some (.int .u8 (s : Int)) by simp [World.cell?, CP.out w' hk]) (show w'.cell? ⟨pb, 2, none⟩ = some (.int .i64 0) by simp [World.cell?, CP.out w' hk])))))))
    have CTP := Lib.hid (fun (w' : World) (hk : Kept B1 C1 w6 w') => (HT2.out.below (by rw [hB1]; exact CB.out w' hk) : TopoAt w' n cb db rg rc))
    have HBF := Lib.hid (fun (w' : World) (hk : Kept B1 C1 w6 w') => (HB2.out.trans ((CB.out w' hk).mono (by rw [← hB1]; exact HB2.out.size)) : Below w.heap.size w w'))
    have hs64 : s < 64 := Nat.lt_of_lt_of_le HS2.out (by
      have : 2 ^ n ≤ 2 ^ 6 := Nat.pow_le_pow_right (by omega) (by omega)
      simpa using this)
    have hs0 : 0 < s := by have := S0.out; omega
    have PS := fun (u : World) => @place_step u m cb cc db dc rg rc
    have PE := fun (u : World) => @place_end u m cb cc db dc rg rc
    have hmem := plN_mem m k s
    have hplt := plN_lt m k s
    have hone := plN_ones m k s (by omega) (by rw [HN.out]; exact HS2.out) hs64
    simp only [HN.out] at PS PE hmem hplt
    obtain ⟨c, hc⟩ : ∃ c, (plN m k s).length = c := ⟨_, rfl⟩
    have hc6 : c ≤ 6 := by
      rw [← hc, plN_len]
      have := nodesF_len m k s
      omega
    rw [hc] at hone
    have hcnt := fun w' => nscount_any s hs64 w'
    rw [hone] at hcnt
    have HCNT := Lib.hid hcnt
    have HC := Lib.hid hc
    have PS := Lib.hid PS
    have PE := Lib.hid PE
    have HMEM := Lib.hid hmem
    have HPLT := Lib.hid hplt
    rw [hw6, hpb]
    clear hw6 hpb hpk hb6 hB36 hB26 hH6 hS HB5 HB3 HH3 hone hcnt hc hmem hplt HT2 hB1 hC1
    go_wp2_with fail
    go_loopw [17, 16] (fun vi vl wr => PlRel w6 hp n m nv bb B1 C1 k s vi vl wr) (fun vi _ _ => 6 * c - (intOf vi).toNat)
    case atStart => exact ⟨0, _, _, rfl, rfl, Nat.zero_le _, HH6.out, (fun j _ => by rw [frN_zero]; rfl), Kept.refl _ _ _⟩
    case round =>
      obtain ⟨i, F, T, rfl, rfl, hi, hH, hF, hK⟩ := hrel
      rw [HC.out] at hi
      have HH := Lib.hid hH
      have HF := Lib.hid hF
      have HK := Lib.hid hK
      obtain ⟨ll, hll⟩ : ∃ ll, lastN k (plN m k s) i = ll := ⟨_, rfl⟩
      have HLL := Lib.hid hll
      rw [hll]
      by_cases e : i < 6 * c
      · have ci : (i : Int) < 6 * (c : Int) := by omega
        have hq : i / 6 < (plN m k s).length := by rw [HC.out]; omega
        obtain ⟨x, hx⟩ : ∃ x, (plN m k s)[i / 6] = x := ⟨_, rfl⟩
        have hxm : x ∈ plN m k s := by rw [← hx]; exact List.getElem_mem hq
        have hxn := HPLT.out x hxm
        have hbit := (HMEM.out x hxn).1 hxm
        have HA := Lib.hid (fun q => hall_any (hH.drewN q) (by omega) 0)
        have HX := Lib.hid hx
        have hlast := lastN_le (k := k) (plN_sorted m k s) hq
        have hstep := lastN_step k (plN m k s) hq
        rw [hll, hx] at hlast
        rw [hx] at hstep
        obtain ⟨dd, hdd⟩ : ∃ dd, distN k x = dd := ⟨_, rfl⟩
        rw [hdd] at hlast hstep
        have cdl : ¬ (dd : Int) < (ll : Int) := by omega
        have HST := Lib.hid hstep
        have HDD := Lib.hid hdd
        obtain ⟨t0, t1, t2, t3, p0, p1, p2⟩ := CC.out wr hK
        have x0 : (0 : Int) ≤ (x : Int) := by omega
        have x1 : (x : Int) < (n : Int) := by omega
        have kk0 : (0 : Int) ≤ (k : Int) := by omega
        have hHB := Lib.hid hbit
        have hwrl : B1 ≤ wr.heap.size := by have := hK.size; omega
        clear hH hF hK hx hll hstep hdd hbit hxm
        go_wp2_with fail
        refine (HCNT.out _).mono ?_
        rintro e wq ⟨rfl, rfl⟩
        have HAb := Lib.hid (hall_any ((HH.out.below ((Below.refl _ _).alloc (Nat.le_refl _) (.cells #[.int .i64 0, .int .i64 0, .int .i64 0] 42))).drewN 1) (by omega) 0)
        have hAB : Below wr.heap.size wr ((wr.alloc (.cells #[.int .i64 0, .int .i64 0, .int .i64 0] 42)).drewN 1) := ((Below.refl _ _).alloc (Nat.le_refl _) _).trans (drewN_below _ _ _)
        have HABB := Lib.hid hAB
        have n0 := World.new_ne wr _ t0
        have n1 := World.new_ne wr _ p0
        clear hAB
        go_upto_region 14 with (fail)
        go_cut [18, 19] from 95 to 103 (fun v18 v19 wx => PlCut wr x k v18 v19 wx)
        case first =>
          go_region_held3 (fun u => u.cell? ⟨tb, 0, none⟩ = some (.int .i64 (n : Int)) ∧ u.cell? ⟨tb, 1, none⟩ = some (.int .i64 8) ∧ u.cell? ⟨tb, 2, none⟩ = some (.slice (some ⟨cb, 0, none⟩) n cc) ∧ u.cell? ⟨tb, 3, none⟩ = some (.slice (some ⟨db, 0, none⟩) n dc) ∧ u.cell? ⟨pb, 0, none⟩ = some (.int .i64 1) ∧ u.cell? ⟨pb, 1, none⟩ = some (.int .u8 (s : Int)) ∧ u.cell? ⟨pb, 2, none⟩ = some (.int .i64 0))
            (first | (go_split_ands; refine ⟨?_, ?_, ?_, ?_, ?_, ?_, ?_⟩ <;> assumption) | go_keep)
            (first
              | (go_at_call 11; refine (HA.out 1).mono ?_; rintro e u1 ⟨va, rfl, hrow, hbu⟩; obtain ⟨ma, mc, rfl, hma, hml, hmc⟩ := own_head hrow (by omega); have HBU := Lib.hid ((drewN_below wr 1 _).trans hbu : Below wr.heap.size wr u1); have HMC := Lib.hid hmc; obtain ⟨a0', a1', a2', a3', b0', b1', b2'⟩ := CC.out u1 (HK.out.trans (Kept.of_below HBU.out _ _)); have m0 := World.new_ne u1 _ a0'; have m1 := World.new_ne u1 _ b0'; clear hrow hbu hmc)
              | (go_at_call 11; refine HAb.out.mono ?_; rintro e u1 ⟨va, rfl, hrow, hbu⟩; obtain ⟨ma, mc, rfl, hma, hml, hmc⟩ := own_head hrow (by omega); have hz := (hbu.block wr.heap.size (by simp)).trans (heap_alloc_new wr _); have HBU := Lib.hid (HABB.out.trans (hbu.mono HABB.out.size) : Below wr.heap.size wr u1); have HMC := Lib.hid hmc; obtain ⟨a0', a1', a2', a3', b0', b1', b2'⟩ := CC.out u1 (HK.out.trans (Kept.of_below HBU.out _ _)); have HZ := Lib.hid hz; clear hrow hbu hmc hz)
              | (go_at_call 10; refine (PS.out u1 (CTP.out u1 (HK.out.trans (Kept.of_below HBU.out _ _))) (by omega) k s hkn hs0 HS2.out ma mc F (fun j hj => (HMC.out j hj).trans (by simp [hj])) hq HF.out).mono ?_; rintro e u2 ⟨rfl, hbu2⟩; have hz := (hbu2.block wr.heap.size (Array.getElem?_eq_some_iff.1 HZ.out).1).trans HZ.out; have HBU2 := Lib.hid (HBU.out.trans (hbu2.mono HBU.out.size)); obtain ⟨g0', g1', g2', g3', q0', q1', q2'⟩ := CC.out u2 (HK.out.trans (Kept.of_below HBU2.out _ _)); have z0 : u2.cell? ⟨wr.heap.size, 0, none⟩ = some (.int .i64 0) := (by simp [World.cell?, hz]); have z1 : u2.cell? ⟨wr.heap.size, 1, none⟩ = some (.int .i64 0) := (by simp [World.cell?, hz]); have z2 : u2.cell? ⟨wr.heap.size, 2, none⟩ = some (.int .i64 0) := (by simp [World.cell?, hz]); have zf : ∀ o, u2.frozen? ⟨wr.heap.size, o, none⟩ = false := (fun o => by simp [World.frozen?, hz]); have HZ2 := Lib.hid hz; clear hbu2 hz)
              | (go_at_call 10; refine (PS.out u1 (CTP.out u1 (HK.out.trans (Kept.of_below HBU.out _ _))) (by omega) k s hkn hs0 HS2.out ma mc F (fun j hj => (HMC.out j hj).trans (by simp [hj])) hq HF.out).mono ?_; rintro e u2 ⟨rfl, hbu2⟩; have HBU2 := Lib.hid (HBU.out.trans (hbu2.mono HBU.out.size)); obtain ⟨g0', g1', g2', g3', q0', q1', q2'⟩ := CC.out u2 (HK.out.trans (Kept.of_below HBU2.out _ _)); have l0 := World.new_ne u2 _ g0'; have l1 := World.new_ne u2 _ q0'; clear hbu2)
              | (go_at_call 10; refine (PS.out (u1.alloc (.cells #[.int .i64 0, .int .i64 0, .int .i64 0] 42)) (CTP.out _ (HK.out.trans (Kept.of_below (HBU.out.alloc HBU.out.size _) _ _))) (by omega) k s hkn hs0 HS2.out ma mc F (fun j hj => (World.cell?_alloc_lt (w := u1) (a := ⟨ma, j, none⟩) _ hml).trans ((HMC.out j hj).trans (by simp [hj]))) hq HF.out).mono ?_; rintro e u2 ⟨rfl, hbu2⟩; have hz := (hbu2.block u1.heap.size (by simp)).trans (heap_alloc_new u1 _); have HBU2 := Lib.hid ((HBU.out.alloc HBU.out.size _).trans (hbu2.mono (HBU.out.alloc HBU.out.size (.cells #[.int .i64 0, .int .i64 0, .int .i64 0] 42)).size)); obtain ⟨g0', g1', g2', g3', q0', q1', q2'⟩ := CC.out u2 (HK.out.trans (Kept.of_below HBU2.out _ _)); have z0 : u2.cell? ⟨u1.heap.size, 0, none⟩ = some (.int .i64 0) := (by simp [World.cell?, hz]); have z1 : u2.cell? ⟨u1.heap.size, 1, none⟩ = some (.int .i64 0) := (by simp [World.cell?, hz]); have z2 : u2.cell? ⟨u1.heap.size, 2, none⟩ = some (.int .i64 0) := (by simp [World.cell?, hz]); have zf : ∀ o, u2.frozen? ⟨u1.heap.size, o, none⟩ = false := (fun o => by simp [World.frozen?, hz]); have HZ2 := Lib.hid hz; clear hbu2 hz))
          · go_wp2_with fail
            go_meet
            exact ⟨u2.heap.size, rfl, rfl, HBU2.out.alloc HBU2.out.size _, HBU2.out.size, by rw [← HX.out]; exact heap_alloc_new u2 _⟩
          · go_wp2_with fail
            go_meet
            exact ⟨u1.heap.size, rfl, rfl, ((HBU2.out.setCell (p := ⟨u1.heap.size, 0, none⟩) HBU.out.size _).setCell (p := ⟨u1.heap.size, 1, none⟩) HBU.out.size _).setCell (p := ⟨u1.heap.size, 2, none⟩) HBU.out.size _, HBU.out.size, by rw [← HX.out]; simp [World.setCell, Array.getElem?_modify, HZ2.out]⟩
          · go_wp2_with fail
            go_meet
            exact ⟨wr.heap.size, rfl, rfl, ((HBU2.out.setCell (p := ⟨wr.heap.size, 0, none⟩) (Nat.le_refl _) _).setCell (p := ⟨wr.heap.size, 1, none⟩) (Nat.le_refl _) _).setCell (p := ⟨wr.heap.size, 2, none⟩) (Nat.le_refl _) _, Nat.le_refl _, by rw [← HX.out]; simp [World.setCell, Array.getElem?_modify, HZ2.out]⟩
        case rest =>
          obtain ⟨g, rfl, rfl, hbx, hgl, hgk⟩ := hcut
          have hKc := HK.out.trans (Kept.of_below hbx B1 C1)
          obtain ⟨c0, c1, c2, c3, d0, d1, d2⟩ := CC.out wc hKc
          have g0 : wc.cell? ⟨g, 0, none⟩ = some (.int .i64 (x : Int)) := by simp [World.cell?, hgk]
          have g1 : wc.cell? ⟨g, 1, none⟩ = some (.int .i64 (k : Int)) := by simp [World.cell?, hgk]
          have hHc := HH.out.below hbx
          have hTc := CTP.out wc hKc
          have hdk := hTc.dst k hkn
          have hdx := hTc.row k hkn x hxn
          rw [HDD.out] at hdx
          have hhas := fun w' => nshas_any s x hs64 (by omega) w'
          rw [hHB.out] at hhas
          have HHAS := Lib.hid hhas
          have hsum : Bu.sumF (F x) 11 = frN (plN m k s) i x := HF.out x hxn
          have hmay : mayF (F x) 2 ((0 : Nat) : Int) = true := by
            have h3 := (frN_now (plN_nodup m k s) hq).1
            rw [HX.out] at h3
            have h4 := mayF_zero (F x)
            rw [hsum, decide_eq_true h3] at h4
            exact h4
          have hpk : (Bu.pick (F x) 0).isSome = true := pick0_of (by
            have h3 := (frN_now (plN_nodup m k s) hq).1
            rw [HX.out] at h3
            omega)
          obtain ⟨⟨kk, y⟩, hpick⟩ := Option.isSome_iff_exists.1 hpk
          have HPK := Lib.hid hpick
          have htook := took1 (HH.out.inv x hxn) hpick
          have HTOOK := Lib.hid htook
          have HSUM := Lib.hid hsum
          have HKC := Lib.hid hKc
          have HHC := Lib.hid hHc
          have hgx : g < wc.heap.size := (Array.getElem?_eq_some_iff.1 hgk).1
          have HGK := Lib.hid hgk
          clear hKc hHc hTc hhas hmay hpk hpick htook hsum hgk t0 t1 t2 t3 p0 p1 p2 n0 n1
          go_wp2_with fail
          refine (HHAS.out _).mono ?_
          rintro e wq ⟨rfl, rfl⟩
          go_wp2_with fail
          go_quiet (fail)
          have g0q : (wc.drewN nq).cell? ⟨g, 0, none⟩ = some (.int .i64 (x : Int)) := g0
          have HTKQ := Lib.hid (fun q => htake_ok (HHC.out.drewN q) (by omega) x hxn 0 (by omega) (by
            have h3 := (frN_now (plN_nodup m k s) hq).1
            rw [HX.out] at h3
            have h4 := mayF_zero (F x)
            rw [HSUM.out, decide_eq_true h3] at h4
            exact h4) HPK.out)
          unfold HTakePost at HTKQ
          go_wp2_with fail
          refine (HTKQ.out nq).mono ?_
          rintro e w8 ⟨rfl, hk8, hH8⟩
          have HH8 := Lib.hid hH8
          have HK8 := Lib.hid ((HKC.out.drewN nq).trans (hk8.wider (HS.out.bb x hxn).1 (HS.out.bb x hxn).2))
          clear hH8 hk8
          go_wp2_with fail
          go_roundw
          case rel =>
            refine ⟨i + 1, _, _, by go_num, by rw [HST.out], by rw [HC.out]; omega, HH8.out, fun j hj => ?_, HK8.out⟩
            rw [frN_step (plN_nodup m k s) hq, HX.out]
            by_cases ej : j = x
            · subst ej
              simp only [if_pos]
              rw [HTOOK.out, HSUM.out]
            · simp only [if_neg ej]
              exact HF.out j hj
          case measure => simp [intOf]; omega
      · have ci : ¬ (i : Int) < 6 * (c : Int) := by omega
        obtain rfl : i = 6 * c := by omega
        have hFE : ∀ j, j < n → Bu.sumF (F j) 11 = frN (plN m k s) (6 * (plN m k s).length) j := fun j hj => by rw [HC.out]; exact hF j hj
        have HFE := Lib.hid hFE
        have HA := Lib.hid (fun q => hall_any (hH.drewN q) (by omega) 0)
        obtain ⟨t0, t1, t2, t3, p0, p1, p2⟩ := CC.out wr hK
        clear hH hF hK hll hFE
        go_wp2_with fail
        refine (HCNT.out _).mono ?_
        rintro e wq ⟨rfl, rfl⟩
        have HAb := Lib.hid (hall_any ((HH.out.below ((Below.refl _ _).alloc (Nat.le_refl _) (.cells #[.int .i64 0, .int .i64 0, .int .i64 0] 42))).drewN 1) (by omega) 0)
        have hAB : Below wr.heap.size wr ((wr.alloc (.cells #[.int .i64 0, .int .i64 0, .int .i64 0] 42)).drewN 1) := ((Below.refl _ _).alloc (Nat.le_refl _) _).trans (drewN_below _ _ _)
        have HABB := Lib.hid hAB
        have n0 := World.new_ne wr _ t0
        have n1 := World.new_ne wr _ p0
        clear hAB
        go_upto_region 24 with (fail)
        go_cut [23, 24] from 141 to 149 (fun v18 v19 wx => PlEnd wr v18 v19 wx)
        case first =>
          go_region_held3 (fun u => u.cell? ⟨tb, 0, none⟩ = some (.int .i64 (n : Int)) ∧ u.cell? ⟨tb, 1, none⟩ = some (.int .i64 8) ∧ u.cell? ⟨tb, 2, none⟩ = some (.slice (some ⟨cb, 0, none⟩) n cc) ∧ u.cell? ⟨tb, 3, none⟩ = some (.slice (some ⟨db, 0, none⟩) n dc) ∧ u.cell? ⟨pb, 0, none⟩ = some (.int .i64 1) ∧ u.cell? ⟨pb, 1, none⟩ = some (.int .u8 (s : Int)) ∧ u.cell? ⟨pb, 2, none⟩ = some (.int .i64 0))
            (first | (go_split_ands; refine ⟨?_, ?_, ?_, ?_, ?_, ?_, ?_⟩ <;> assumption) | go_keep)
            (first
              | (go_at_call 11; refine (HA.out 1).mono ?_; rintro e u1 ⟨va, rfl, hrow, hbu⟩; obtain ⟨ma, mc, rfl, hma, hml, hmc⟩ := own_head hrow (by omega); have HBU := Lib.hid ((drewN_below wr 1 _).trans hbu : Below wr.heap.size wr u1); have HMC := Lib.hid hmc; obtain ⟨a0', a1', a2', a3', b0', b1', b2'⟩ := CC.out u1 (HK.out.trans (Kept.of_below HBU.out _ _)); have m0 := World.new_ne u1 _ a0'; have m1 := World.new_ne u1 _ b0'; clear hrow hbu hmc)
              | (go_at_call 11; refine HAb.out.mono ?_; rintro e u1 ⟨va, rfl, hrow, hbu⟩; obtain ⟨ma, mc, rfl, hma, hml, hmc⟩ := own_head hrow (by omega); have hz := (hbu.block wr.heap.size (by simp)).trans (heap_alloc_new wr _); have HBU := Lib.hid (HABB.out.trans (hbu.mono HABB.out.size) : Below wr.heap.size wr u1); have HMC := Lib.hid hmc; obtain ⟨a0', a1', a2', a3', b0', b1', b2'⟩ := CC.out u1 (HK.out.trans (Kept.of_below HBU.out _ _)); have HZ := Lib.hid hz; clear hrow hbu hmc hz)
              | (go_at_call 10; refine (PE.out u1 (CTP.out u1 (HK.out.trans (Kept.of_below HBU.out _ _))) (by omega) k s hkn hs0 HS2.out ma mc F (fun j hj => (HMC.out j hj).trans (by simp [hj])) HFE.out).mono ?_; rintro e u2 ⟨rfl, hbu2⟩; have hz := (hbu2.block wr.heap.size (Array.getElem?_eq_some_iff.1 HZ.out).1).trans HZ.out; have HBU2 := Lib.hid (HBU.out.trans (hbu2.mono HBU.out.size)); obtain ⟨g0', g1', g2', g3', q0', q1', q2'⟩ := CC.out u2 (HK.out.trans (Kept.of_below HBU2.out _ _)); have z0 : u2.cell? ⟨wr.heap.size, 0, none⟩ = some (.int .i64 0) := (by simp [World.cell?, hz]); have z1 : u2.cell? ⟨wr.heap.size, 1, none⟩ = some (.int .i64 0) := (by simp [World.cell?, hz]); have z2 : u2.cell? ⟨wr.heap.size, 2, none⟩ = some (.int .i64 0) := (by simp [World.cell?, hz]); have zf : ∀ o, u2.frozen? ⟨wr.heap.size, o, none⟩ = false := (fun o => by simp [World.frozen?, hz]); have HZ2 := Lib.hid hz; clear hbu2 hz)
              | (go_at_call 10; refine (PE.out u1 (CTP.out u1 (HK.out.trans (Kept.of_below HBU.out _ _))) (by omega) k s hkn hs0 HS2.out ma mc F (fun j hj => (HMC.out j hj).trans (by simp [hj])) HFE.out).mono ?_; rintro e u2 ⟨rfl, hbu2⟩; have HBU2 := Lib.hid (HBU.out.trans (hbu2.mono HBU.out.size)); obtain ⟨g0', g1', g2', g3', q0', q1', q2'⟩ := CC.out u2 (HK.out.trans (Kept.of_below HBU2.out _ _)); have l0 := World.new_ne u2 _ g0'; have l1 := World.new_ne u2 _ q0'; clear hbu2)
              | (go_at_call 10; refine (PE.out (u1.alloc (.cells #[.int .i64 0, .int .i64 0, .int .i64 0] 42)) (CTP.out _ (HK.out.trans (Kept.of_below (HBU.out.alloc HBU.out.size _) _ _))) (by omega) k s hkn hs0 HS2.out ma mc F (fun j hj => (World.cell?_alloc_lt (w := u1) (a := ⟨ma, j, none⟩) _ hml).trans ((HMC.out j hj).trans (by simp [hj]))) HFE.out).mono ?_; rintro e u2 ⟨rfl, hbu2⟩; have hz := (hbu2.block u1.heap.size (by simp)).trans (heap_alloc_new u1 _); have HBU2 := Lib.hid ((HBU.out.alloc HBU.out.size _).trans (hbu2.mono (HBU.out.alloc HBU.out.size (.cells #[.int .i64 0, .int .i64 0, .int .i64 0] 42)).size)); obtain ⟨g0', g1', g2', g3', q0', q1', q2'⟩ := CC.out u2 (HK.out.trans (Kept.of_below HBU2.out _ _)); have z0 : u2.cell? ⟨u1.heap.size, 0, none⟩ = some (.int .i64 0) := (by simp [World.cell?, hz]); have z1 : u2.cell? ⟨u1.heap.size, 1, none⟩ = some (.int .i64 0) := (by simp [World.cell?, hz]); have z2 : u2.cell? ⟨u1.heap.size, 2, none⟩ = some (.int .i64 0) := (by simp [World.cell?, hz]); have zf : ∀ o, u2.frozen? ⟨u1.heap.size, o, none⟩ = false := (fun o => by simp [World.frozen?, hz]); have HZ2 := Lib.hid hz; clear hbu2 hz))
          all_goals go_wp2_with fail
          all_goals go_meet
          · exact ⟨rfl, HBU2.out.alloc HBU2.out.size _⟩
          · exact ⟨rfl, ((HBU2.out.setCell (p := ⟨u1.heap.size, 0, none⟩) HBU.out.size _).setCell (p := ⟨u1.heap.size, 1, none⟩) HBU.out.size _).setCell (p := ⟨u1.heap.size, 2, none⟩) HBU.out.size _⟩
          · exact ⟨rfl, ((HBU2.out.setCell (p := ⟨wr.heap.size, 0, none⟩) (Nat.le_refl _) _).setCell (p := ⟨wr.heap.size, 1, none⟩) (Nat.le_refl _) _).setCell (p := ⟨wr.heap.size, 2, none⟩) (Nat.le_refl _) _⟩
        case rest =>
          obtain ⟨rfl, hbx⟩ := hcut
          have hHc := HH.out.below hbx
          have HHC := Lib.hid hHc
          have HBX := Lib.hid (HBF.out wc (HK.out.trans (Kept.of_below hbx B1 C1)))
          clear hHc hbx t0 t1 t2 t3 p0 p1 p2 n0 n1
          go_wp2_with fail
          go_loop [25] (fun vi => PlRel2 n vi) (fun vi => n - (intOf vi).toNat)
          case atStart => exact ⟨0, rfl, Nat.zero_le _⟩
          case round =>
            obtain ⟨j, rfl, hj⟩ := hrel
            by_cases e2 : j < n
            · have cj : (j : Int) < (n : Int) := by omega
              have hfr := hfree_yes HHC.out j e2
              rw [HFE.out j e2] at hfr
              have hhas := fun w' => nshas_any s j hs64 (by omega) w'
              by_cases hb : s.testBit j = true
              · have hjm : j ∈ plN m k s := (HMEM.out j e2).2 hb
                rw [frN_last hjm] at hfr
                rw [hb] at hhas
                have HFR := Lib.hid hfr
                have HHAS := Lib.hid hhas
                clear hfr hhas hb hjm
                go_wp2_with fail
                refine HFR.out.mono ?_
                rintro e wq ⟨rfl, rfl⟩
                go_wp2_with fail
                refine (HHAS.out _).mono ?_
                rintro e wq ⟨rfl, rfl⟩
                go_wp2_with fail
                go_round
                case rel => exact ⟨j + 1, by go_num, by omega⟩
                case measure => simp [intOf]; omega
              · have hjm : ¬ j ∈ plN m k s := fun h => hb ((HMEM.out j e2).1 h)
                have hb' : s.testBit j = false := by simpa using hb
                rw [frN_out hjm (Nat.le_refl _)] at hfr
                rw [hb'] at hhas
                have HFR := Lib.hid hfr
                have HHAS := Lib.hid hhas
                clear hfr hhas hb hb' hjm
                go_wp2_with fail
                refine HFR.out.mono ?_
                rintro e wq ⟨rfl, rfl⟩
                go_wp2_with fail
                refine (HHAS.out _).mono ?_
                rintro e wq ⟨rfl, rfl⟩
                go_wp2_with fail
                go_round
                case rel => exact ⟨j + 1, by go_num, by omega⟩
                case measure => simp [intOf]; omega
            · have cj : ¬ (j : Int) < (n : Int) := by omega
              obtain rfl : j = n := by omega
              go_wp2_with fail
              go_ret
              exact ⟨rfl, HBX.out⟩
end Go.Proofs.YtikahcbkeempdaaGreatDoor
