/- Give of a run that is taken. -/
import Derived.Test.YtikahcbkeempdaaGive
import Derived.Test.YtikahcbkeempdaaBits
namespace Go.Proofs.Ytikahcbkeempdaa
open Go.RowKit Go.Maps

def GiveRel (w : World) (b n : Nat) (Ffin : Nat → List Nat) (T' : List (Nat × Nat)) (va vk : Value) (wr : World) : Prop :=
  ∃ (x k : Nat) (G : Nat → List Nat), va = .int .i64 (x : Int) ∧ vk = .int .i64 (k : Int) ∧ k ≤ 10 ∧ Bu.Pend n T' G x k ∧ Bud wr b n G T' ∧ Bu.giveF (10 - k) G x k = Ffin ∧ Kept b (b + 13) w wr

set_option maxRecDepth 100000 in
set_option maxHeartbeats 1000000 in
theorem give_ok {w : World} {b n : Nat} {F T} (hB : Bud w b n F T) (a o : Nat) (ho : o ≤ 10) (ha : a ≤ 1024) (hn : n ≤ 1024) (ht : (a, o) ∈ T) (hP : Bu.Pend n (T.erase (a, o)) F a o) :
    Calls Try.prog 33 #[.pointer (some ⟨b + 1, 0, none⟩), .int .i64 (a : Int), .int .i64 (o : Int)] w (GivePost w b n (Bu.giveF (10 - o) F a o) (T.erase (a, o))) := by
  have hct := hB.ct
  have hlk := hB.tak.lookup (x := (a : Int)) (wfI (by omega) (by omega))
  have hm : memZ (T.map (·.1)) (a : Int) = true := by rw [memZ_nat]; simp; exact ⟨o, ht⟩
  have hta : takAt T (a : Int) = (o : Int) := by rw [takAt_mem hB.tak.1 ht]
  rw [hm, hta] at hlk
  have HT := Lib.hid ht
  have HP := Lib.hid hP
  clear hm hta ht hP
  go_enter Try.func33, Try.ntmps33
  go_wp2_with (first
    | (go_at_call 68; refine (right_yes _ _ _ (by omega) (by omega)).mono ?_; rintro e w' ⟨rfl, rfl⟩)
    | (at_delete; refine wpList_tak_del _ rfl _ _ rfl b T rfl hB.tak (a, o) (by show (a : Int) ≤ _; omega) rfl HT.out ?_; intro w2 hs2 ht2; have hB2 := hB.tak' hs2 ht2; have hk2 := (Kept.refl b (b + 13) w).turned ht2 (.inl ⟨by omega, by omega⟩); clear hct hlk hs2 ht2)
    | go_in)
  go_frame
  go_loopw [1, 2] (fun va vk wr => GiveRel w b n (Bu.giveF (10 - o) F a o) (T.erase (a, o)) va vk wr) (fun _ vk _ => 10 - (intOf vk).toNat)
  case atStart => exact ⟨a, o, F, rfl, rfl, ho, HP.out, hB2, rfl, hk2⟩
  case round =>
    obtain ⟨x, k, G, rfl, rfl, hk, hP, hBr, hG, hkr⟩ := hrel
    obtain ⟨p1, p2⟩ := hP.pal
    have hx : (x : Int) ≤ 1024 := by omega
    have HP' := Lib.hid hP
    have HG := Lib.hid hG
    have hgl : (G k).length < maxLen := by
      have h1 := Bu.sumF_le G k 11 (by omega)
      have h2 := hP.sum
      unfold maxLen
      omega
    have hxor := bits_xor (x := x) (k := k) (by omega) hk p1
    have handn := bits_andNot (x := x) (k := k) (by omega) hk p1
    have H1 := Lib.hid p1
    have hcell := hBr.cf (k := k) (by omega)
    have e0 : (0 : Int) ≤ (k : Int) := by omega
    have e1 : (k : Int) < 11 := by omega
    have ep := powI (k := k) (by omega)
    have ep1 : IntKind.i64.wrap ((2 : Int) ^ k) = 2 ^ k := IntWalk.i64_in _ (by omega)
    have hbu : (Bu.bud x k : Int) ≤ 2048 := by
      have h3 := pow1024 hk
      unfold Bu.bud
      split <;> omega
    have hlk := fun m => (hBr.same (w' := wr.drewN m) (fun _ _ _ => rfl)).sets k hk |>.lookup (x := (Bu.bud x k : Int)) (wfI (by omega) (by omega))
    have hlk1 := (hBr.same (w' := wr.drew) (fun _ _ _ => rfl)).sets k hk |>.lookup (x := (Bu.bud x k : Int)) (wfI (by omega) (by omega))
    have hBq := fun m => hBr.same (w' := wr.drewN m) (fun _ _ _ => rfl)
    have hkq := fun m => hkr.drewN m
    clear hP hG hB2 hk2 hB HP p1
    have hexit : k = 10 ∨ Bu.bud x k ∉ G k → Bu.giveF (10 - k) G x k = Bu.upd G k (Bu.ins x (G k)) := by
      intro h
      cases hd : 10 - k with
      | zero => rfl
      | succ d =>
        unfold Bu.giveF
        rw [if_neg (h.resolve_left (by omega))]
    have HE := Lib.hid hexit
    clear hexit
    by_cases e : k = 10 ∨ Bu.bud x k ∉ G k
    · have hres := HE.out e
      rw [HG.out] at hres
      have HR := Lib.hid hres
      clear hres HE
      have hcase : decide ((k : Int) < 10) = false ∨ (decide ((k : Int) < 10) = true ∧ memZ (G k) (Bu.bud x k : Int) = false) := by
        by_cases h : k = 10
        · exact .inl (by simp; omega)
        · exact .inr ⟨by simp; omega, by rw [memZ_nat]; simpa using e.resolve_left h⟩
      clear e
      rcases hcase with hd | ⟨hd, hm⟩
      · clear hxor hlk hlk1 handn
        go_wp2
        go_quiet (fail)
        go_wp2_with (first
          | (at_mapUpdate; refine wpList_set_put _ rfl _ _ _ rfl (b + 2 + k) (G k) rfl ((hBq _).sets k hk) hgl x (by omega) rfl rfl ?_; intro w3 hs3 ht3; have hB3 := (hBq _).put hs3 ht3; have hk3 := (hkq _).turned ht3 (.inl ⟨by omega, by omega⟩); clear hs3 ht3)
          | go_in)
        go_ret
        exact ⟨rfl, HR.out ▸ hB3, hk3⟩
      · simp only [hm] at hlk hlk1
        clear hm
        have hd' : (k : Int) < 10 := by simpa using hd
        go_wp2
        go_quiet (fail)
        go_wp2_with (first
          | (at_mapUpdate; refine wpList_set_put _ rfl _ _ _ rfl (b + 2 + k) (G k) rfl ((hBq _).sets k hk) hgl x (by omega) rfl rfl ?_; intro w3 hs3 ht3; have hB3 := (hBq _).put hs3 ht3; have hk3 := (hkq _).turned ht3 (.inl ⟨by omega, by omega⟩); clear hs3 ht3)
          | go_in)
        go_ret
        exact ⟨rfl, HR.out ▸ hB3, hk3⟩
    · have hb : Bu.bud x k ∈ G k := Classical.byContradiction fun h => e (.inr h)
      have hk10 : k < 10 := by
        have : k ≠ 10 := fun h => e (.inl h)
        omega
      clear e HE
      have e2 : (k : Int) < 10 := by omega
      have hm : memZ (G k) (Bu.bud x k : Int) = true := by rw [memZ_nat]; simpa using hb
      simp only [hm] at hlk hlk1
      generalize hq : Bu.bud x k = q at *
      have HQ := Lib.hid hq
      have HB := Lib.hid hb
      clear hm hq hb
      generalize hy : x / 2 ^ (k + 1) * 2 ^ (k + 1) = y at *
      have HY := Lib.hid hy
      clear hy
      go_wp2
      go_quiet (fail)
      go_wp2
      generalize hwq : World.drewN wr _ = wq
      have hBw : Bud wq b n G (T.erase (a, o)) := by rw [← hwq]; exact hBq _
      have hkw : Kept b (b + 13) w wq := by rw [← hwq]; exact hkq _
      clear hwq hlk hlk1 hBq hkq hcell
      have hcell := hBw.cf (k := k) (by omega)
      go_still_tail 10, (by kernel_rfl)
      change wpList _ _ _ _ _ wq.drew
      refine wpList_set_del _ rfl _ _ rfl (b + 2 + k) (G k) rfl (hBw.drew.sets k hk) q (by omega) rfl HB.out ?_
      intro w3 hs3 ht3
      have hB3 := hBw.drew.put hs3 ht3
      have hk3 := hkw.drew.turned ht3 (.inl ⟨by omega, by omega⟩)
      clear hs3 ht3 hxor hcell
      go_wp2
      go_roundw
      case rel =>
        refine ⟨y, k + 1, _, rfl, by go_num, by omega, ?_, hB3, ?_, hk3⟩
        · have hs := HP'.out.step hk10 (by rw [HQ.out]; exact HB.out)
          rw [HQ.out, HY.out] at hs
          exact hs
        · rw [← HG.out, show 10 - k = (10 - (k + 1)) + 1 by omega]
          conv => rhs; unfold Bu.giveF
          rw [HQ.out, HY.out, if_pos HB.out]
      case measure => simp [intOf]; omega

/-- THE CONTRACT: a run that was taken is given. -/
theorem give_inv {w : World} {b n : Nat} {F T} (hB : Bud w b n F T) (I : Bu.Inv n T F) (a o : Nat) (ht : (a, o) ∈ T) :
    Calls Try.prog 33 #[.pointer (some ⟨b + 1, 0, none⟩), .int .i64 (a : Int), .int .i64 (o : Int)] w (GivePost w b n (Bu.giveF (10 - o) F a o) (T.erase (a, o))) := by
  obtain ⟨N, hN, hn⟩ := I.pow
  have h1 := pow1024 hN
  obtain ⟨t1, t2, t3⟩ := I.taken _ ht
  simp only at t1 t2 t3
  exact give_ok hB a o t1 (by omega) (by omega) ht (I.pend ht)

end Go.Proofs.Ytikahcbkeempdaa
