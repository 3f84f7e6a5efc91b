/- choose: Node walked. -/
import Derived.Test.YtikahcbkeempdaaGreatDoorZo2
namespace Go.Proofs.YtikahcbkeempdaaGreatDoor
open Go.RowKit Go.Maps Go.Shelf

def ChPost (w : World) (m k s : Nat) (mv : Nat → Bool) (e : Ending) (w' : World) : Prop :=
  Below w.heap.size w w' ∧ ((∃ j, ∃ hj : j < (nodesF m k s).length, e = .returned (.tuple #[.agg #[.int .i64 ((nodesF m k s)[j].val : Int), .int .i64 (k : Int), .int .i64 0], .int .i64 0]) ∧ mv (nodesF m k s)[j].val = true ∧ ∀ i (hi : i < (nodesF m k s).length), i < j → mv (nodesF m k s)[i].val = false) ∨
    (e = .returned (.tuple #[.agg #[.int .i64 0, .int .i64 (k : Int), .int .i64 0], .int .i64 5]) ∧ ∀ i (hi : i < (nodesF m k s).length), mv (nodesF m k s)[i].val = false))

section
variable {w w' : World} {cb cc db dc : Nat} {rg rc : Nat → Nat}
set_option maxRecDepth 100000 in
set_option maxHeartbeats 2000000 in
theorem chnode_any {m : Nat} (h : TopoAt w (m + 1) cb db rg rc) (hm : m ≤ 5) (k s : Nat) (hk : k < m + 1) (h0 : 0 < s) (hs : s < 2 ^ (m + 1)) (ma mc : Nat) (mv : Nat → Bool) (hmay : ∀ j, j < m + 1 → w.cell? ⟨ma, j, none⟩ = some (.bool (mv j))) :
    Calls Tryz.prog 10 #[.agg #[.int .i64 ((m + 1 : Nat) : Int), .int .i64 8, .slice (some ⟨cb, 0, none⟩) (m + 1) cc, .slice (some ⟨db, 0, none⟩) (m + 1) dc], .agg #[.int .i64 1, .int .u8 (s : Int), .int .i64 0], .int .i64 (k : Int), .int .i64 0, .slice (some ⟨ma, 0, none⟩) (m + 1) mc] w (ChPost w m k s mv) := by
  have hs64 : s < 64 := Nat.lt_of_lt_of_le hs (by
    have : 2 ^ (m + 1) ≤ 2 ^ 6 := Nat.pow_le_pow_right (by omega) (by omega)
    simpa using this)
  have HN4 := Lib.hid (fun (w' : World) (hb : Below w.heap.size w w') => znear_any (cc := cc) (dc := dc) (h.below hb) hm k s hk hs64 ma mc mv fun j hj => (hb.cell (p := ⟨ma, j, none⟩) (World.block_lt_of_cell? w _ (hmay j hj))).trans (hmay j hj))
  have HC := Lib.hid (fun (w' : World) (hb : Below w.heap.size w w') => tcheck_any (cc := cc) (dc := dc) (h.below hb) (by omega) (by omega))
  have HP := Lib.hid (fun w' => plperm_any (m + 1) s (by omega) (by omega) hs h0 w')
  have HS := Lib.hid (fun w' => plstart_any (m + 1) s k 0 (by omega) (by omega) hs h0 hk w')
  have hck := h.cpu k hk
  have hcl : cb < w.heap.size := World.block_lt_of_cell? w _ hck
  obtain ⟨n, hn⟩ : ∃ n, m + 1 = n := ⟨_, rfl⟩
  have n6 : n ≤ 6 := by omega
  simp only [hn] at HC HN4 HP HS
  simp only [hn]
  rw [hn] at hk
  have k0 : ¬ (k : Int) < 0 := by omega
  have k0' : (0 : Int) ≤ (k : Int) := by omega
  have k1 : ¬ (n : Int) ≤ (k : Int) := by omega
  have k2 : (k : Int) < (n : Int) := by omega
  have hz := hs64
  clear h hn hs hmay
  go_enter Tryz.func10, Tryz.ntmps10
  go_upto_region 1 with (fail)
  obtain ⟨w3, hw3⟩ : ∃ w3, ((w.alloc (.cells #[.int .i64 (n : Int), .int .i64 8, .slice (some ⟨cb, 0, none⟩) n cc, .slice (some ⟨db, 0, none⟩) n dc] 26)).alloc (.cells #[.int .i64 1, .int .u8 (s : Int), .int .i64 0] 39)).alloc (.cells #[.int .i64 0, .int .i64 0, .int .i64 0] 42) = w3 := ⟨_, rfl⟩
  obtain ⟨tb, htb⟩ : ∃ tb, w.heap.size = tb := ⟨_, rfl⟩
  obtain ⟨pb, hpb⟩ : ∃ pb, tb + 1 = pb := ⟨_, rfl⟩
  obtain ⟨rb, hrb⟩ : ∃ rb, pb + 1 = rb := ⟨_, rfl⟩
  have hwr : w.heap.size ≤ rb := by omega
  have hs3 : w3.heap.size = rb + 1 := by rw [← hw3]; simp; omega
  have b1 : w3.heap[tb]? = some (.cells #[.int .i64 (n : Int), .int .i64 8, .slice (some ⟨cb, 0, none⟩) n cc, .slice (some ⟨db, 0, none⟩) n dc] 26 (0, 0)) := by
    rw [← hw3, Below.heap_alloc _ _ _ (by simp; omega), Below.heap_alloc _ _ _ (by simp; omega), ← htb]
    exact heap_alloc_new w _
  have b2 : w3.heap[pb]? = some (.cells #[.int .i64 1, .int .u8 (s : Int), .int .i64 0] 39 (0, 0)) := by
    rw [← hw3, Below.heap_alloc _ _ _ (by simp; omega)]
    have := heap_alloc_new (w.alloc (.cells #[.int .i64 (n : Int), .int .i64 8, .slice (some ⟨cb, 0, none⟩) n cc, .slice (some ⟨db, 0, none⟩) n dc] 26)) (.cells #[.int .i64 1, .int .u8 (s : Int), .int .i64 0] 39)
    rw [World.size_alloc, htb, hpb] at this
    exact this
  have b3 : w3.heap[rb]? = some (.cells #[.int .i64 0, .int .i64 0, .int .i64 0] 42 (0, 0)) := by
    rw [← hw3]
    have := heap_alloc_new ((w.alloc (.cells #[.int .i64 (n : Int), .int .i64 8, .slice (some ⟨cb, 0, none⟩) n cc, .slice (some ⟨db, 0, none⟩) n dc] 26)).alloc (.cells #[.int .i64 1, .int .u8 (s : Int), .int .i64 0] 39)) (.cells #[.int .i64 0, .int .i64 0, .int .i64 0] 42)
    rw [World.size_alloc, World.size_alloc, htb, hpb, hrb] at this
    exact this
  have hb3 : Below w.heap.size w w3 := by rw [← hw3]; exact (((Below.refl _ _).alloc (Nat.le_refl _) _).alloc (by simp) _).alloc (by simp; omega) _
  have hwl : w.heap.size ≤ w3.heap.size := hb3.size
  have HB3 := Lib.hid hb3
  have CK := Lib.hid (fun (w' : World) (hb : Below w3.heap.size w3 w') => (hb.block cb (by omega)).trans (hb3.block cb hcl))
  have CT := Lib.hid (fun (w' : World) (hb : Below w3.heap.size w3 w') => (hb.block tb (by omega)).trans b1)
  have CP := Lib.hid (fun (w' : World) (hb : Below w3.heap.size w3 w') => (hb.block pb (by omega)).trans b2)
  have CR := Lib.hid (fun (w' : World) (hb : Below w3.heap.size w3 w') => (hb.block rb (by omega)).trans b3)
  have CC := Lib.hid (fun (w' : World) (hb : Below w3.heap.size w3 w') => And.intro (show w'.cell? ⟨tb, 0, none⟩ = some (.int .i64 (n : Int)) by simp [World.cell?, CT.out w' hb]) (And.intro (show w'.cell? ⟨tb, 1, none⟩ = some (.int .i64 8) by simp [World.cell?, CT.out w' hb]) (And.intro (show w'.cell? ⟨tb, 2, none⟩ = some (.slice (some ⟨cb, 0, none⟩) n cc) by simp [World.cell?, CT.out w' hb]) (And.intro (show w'.cell? ⟨tb, 3, none⟩ = some (.slice (some ⟨db, 0, none⟩) n dc) by simp [World.cell?, CT.out w' hb])
    (And.intro (show w'.cell? ⟨pb, 0, none⟩ = some (.int .i64 1) by simp [World.cell?, CP.out w' hb]) (And.intro (show w'.cell? ⟨pb, 1, none⟩ = some (.int .u8 (s : Int)) by simp [World.cell?, CP.out w' hb]) (And.intro (show w'.cell? ⟨pb, 2, none⟩ = some (.int .i64 0) by simp [World.cell?, CP.out w' hb]) (show w'.cell? ⟨cb, k, none⟩ = some (.int .i64 (k : Int)) from (World.cell?_of_block (a := ⟨cb, k, none⟩) (CK.out w' hb)).trans hck))))))))
  rw [hw3, htb, hpb, hrb]
  have HTB := Lib.hid htb
  obtain ⟨t0, t1, t2, t3, p0, p1, p2, q0⟩ := CC.out w3 (Below.refl _ _)
  clear hw3 htb hpb hrb b1 b2 b3 hb3 hck hcl
  go_wp2_with fail
  refine (HC.out _ HB3.out).mono ?_
  rintro e w4 ⟨rfl, hb4⟩
  have HB4 := Lib.hid hb4
  clear t0 t1 t2 t3 p0 p1 p2 q0 hb4
  obtain ⟨t0, t1, t2, t3, p0, p1, p2, q0⟩ := CC.out w4 HB4.out
  go_wp2_with fail
  refine (HP.out _).mono ?_
  rintro e w5 ⟨rfl, hb5⟩
  have HB5 := Lib.hid (HB4.out.trans (hb5.mono HB4.out.size))
  clear t0 t1 t2 t3 p0 p1 p2 q0 hb5
  obtain ⟨t0, t1, t2, t3, p0, p1, p2, q0⟩ := CC.out w5 HB5.out
  go_wp2_with fail
  go_region_held3 (fun u => u.cell? ⟨tb, 0, none⟩ = some (.int .i64 (n : Int)) ∧ u.cell? ⟨tb, 2, none⟩ = some (.slice (some ⟨cb, 0, none⟩) n cc) ∧ u.cell? ⟨pb, 0, none⟩ = some (.int .i64 1) ∧ u.cell? ⟨pb, 1, none⟩ = some (.int .u8 (s : Int)) ∧ u.cell? ⟨pb, 2, none⟩ = some (.int .i64 0) ∧ u.cell? ⟨cb, k, none⟩ = some (.int .i64 (k : Int)))
    (first | (go_split_ands; refine ⟨?_, ?_, ?_, ?_, ?_, ?_⟩ <;> assumption) | go_keep)
    ((go_at_call 22; refine (HS.out _).mono ?_; rintro e w6 ⟨rfl, hb6⟩; have HB6 := Lib.hid ((HB5.out.trans (drewN_below _ 1 _)).trans (hb6.mono HB5.out.size)); clear t0 t1 t2 t3 p0 p1 p2 q0; obtain ⟨t0, t1, t2, t3, p0, p1, p2, q0⟩ := CC.out w6 HB6.out))
  clear hb6
  go_wp2_with fail
  have hb7 := HB3.out.trans (HB6.out.mono hwl)
  refine (HN4.out _ hb7).mono ?_
  rintro e w7 ⟨hb8, hres⟩
  have HB8 := Lib.hid (HB6.out.trans (hb8.mono HB6.out.size))
  have HB9 := Lib.hid (hb7.trans (hb8.mono hb7.size))
  have hr := CR.out w7 HB8.out
  have hrl : rb < w7.heap.size := (Array.getElem?_eq_some_iff.1 hr).1
  have HR := Lib.hid hres
  clear hb7 hb8 hres t0 t1 t2 t3 p0 p1 p2 q0
  have r0 : w7.cell? ⟨rb, 0, none⟩ = some (.int .i64 0) := by simp [World.cell?, hr]
  have r1 : w7.cell? ⟨rb, 1, none⟩ = some (.int .i64 0) := by simp [World.cell?, hr]
  have r2 : w7.cell? ⟨rb, 2, none⟩ = some (.int .i64 0) := by simp [World.cell?, hr]
  have f0 : ∀ o, w7.frozen? ⟨rb, o, none⟩ = false := fun o => by simp [World.frozen?, hr]
  rcases HR.out with ⟨j, hj, rfl, h1, h2⟩ | ⟨rfl, h2⟩
  · have H12 := Lib.hid (And.intro h1 h2)
    obtain ⟨x, hx⟩ : ∃ x, ((nodesF m k s)[j]).val = x := ⟨_, rfl⟩
    rw [hx]
    have HX := Lib.hid hx
    clear h1 h2 hx
    go_wp2_with fail
    refine bodyPost_ret (v := .tuple #[.agg #[.int .i64 (x : Int), .int .i64 (k : Int), .int .i64 0], .int .i64 0]) (by simp [results, Tryz.results10, go_sem, r0, r1, r2]) rfl ⟨?_, .inl ⟨j, hj, by rw [HX.out], H12.out.1, H12.out.2⟩⟩
    exact ((HB9.out.setCell (p := ⟨rb, 0, none⟩) hwr _).setCell (p := ⟨rb, 1, none⟩) hwr _).setCell (p := ⟨rb, 2, none⟩) hwr _
  · have H2 := Lib.hid h2
    clear h2
    go_wp2_with fail
    refine bodyPost_ret (v := .tuple #[.agg #[.int .i64 0, .int .i64 (k : Int), .int .i64 0], .int .i64 5]) (by simp [results, Tryz.results10, go_sem, r0, r1, r2]) rfl ⟨?_, .inr ⟨rfl, H2.out⟩⟩
    exact ((HB9.out.setCell (p := ⟨rb, 0, none⟩) hwr _).setCell (p := ⟨rb, 1, none⟩) hwr _).setCell (p := ⟨rb, 2, none⟩) hwr _
end
end Go.Proofs.YtikahcbkeempdaaGreatDoor
