/- The reference's buddy: Runs, Free walked. -/
import Derived.Test.YtikahcbkeempdaaRef0
namespace Go.Proofs.Ytikahcbkeempdaa
open Go.RowKit

def isRunU (n : Nat) (U : Nat → Bool) (k q : Nat) : Bool := blkU n U (q * 2 ^ k) k && (k == 10 || !blkU n U (q / 2 * 2 ^ (k + 1)) (k + 1))
def runsTo (n : Nat) (U : Nat → Bool) (k c : Nat) : List Nat := ((List.range c).filter (isRunU n U k)).map (· * 2 ^ k)
theorem runsTo_runs (n : Nat) (T : List (Nat × Nat)) (k : Nat) : runsTo n (Bu.used T) k ((n + 2 ^ k - 1) / 2 ^ k) = Bu.runs n T k := by
  unfold runsTo Bu.runs
  congr 1
  apply List.filter_congr
  intro q _
  unfold isRunU Bu.isRun
  rw [blkU_blk, blkU_blk]
theorem runsTo_yes {n : Nat} {U : Nat → Bool} {k c : Nat} (h : isRunU n U k c = true) : runsTo n U k (c + 1) = runsTo n U k c ++ [c * 2 ^ k] := by
  simp [runsTo, List.range_succ, h]
theorem runsTo_no {n : Nat} {U : Nat → Bool} {k c : Nat} (h : isRunU n U k c = false) : runsTo n U k (c + 1) = runsTo n U k c := by
  simp [runsTo, List.range_succ, h]
theorem runsTo_len (n : Nat) (U : Nat → Bool) (k c : Nat) : (runsTo n U k c).length ≤ c := by
  unfold runsTo
  rw [List.length_map]
  exact Nat.le_trans (List.length_filter_le _ _) (by simp)

def intV (l : List Nat) : List Value := l.map fun a : Nat => .int .i64 (a : Int)

def RRel (w : World) (n k C : Nat) (U : Nat → Bool) (va vo : Value) (wr : World) : Prop :=
  ∃ q : Nat, va = .int .i64 ((q * 2 ^ k : Nat) : Int) ∧ q ≤ C ∧ wr.ownsRow w.heap.size 3 1 vo (runsTo n U k q).length (intV (runsTo n U k q)) ∧ Below w.heap.size w wr

set_option maxRecDepth 100000 in
set_option maxHeartbeats 2000000 in
theorem rruns_any {w : World} {n p u : Nat} {tv U T} (h : RefAt w n p u tv U T) (k : Nat) (hk : k ≤ 10) (hn : n ≤ 1024) :
    Calls Try.prog 41 #[.pointer (some ⟨p, 0, none⟩), .int .i64 (k : Int)] w fun e w' => ∃ v, e = .returned v ∧
      w'.ownsRow w.heap.size 3 1 v (runsTo n U k ((n + 2 ^ k - 1) / 2 ^ k)).length (intV (runsTo n U k ((n + 2 ^ k - 1) / 2 ^ k))) ∧ Below w.heap.size w w' := by
  obtain ⟨i0, hi, hz0, hz1, hz2⟩ := info_parts infoI
  obtain ⟨P, hP⟩ : ∃ P, 2 ^ k = P := ⟨_, rfl⟩
  have hPl : P ≤ 1024 := by rw [← hP]; exact pow1024 hk
  have hPp : 1 ≤ P := by rw [← hP]; exact Bu.pos2 k
  have hcp : (2 : Int) ^ k = (P : Int) := by rw [castPow, hP]
  obtain ⟨C, hC⟩ : ∃ C, (n + 2 ^ k - 1) / 2 ^ k = C := ⟨_, rfl⟩
  have hCn : ∀ q, q < C ↔ q * P < n := fun q => by
    rw [← hC, hP, ← Nat.succ_le_iff, Nat.le_div_iff_mul_le (by omega), Nat.succ_mul]
    omega
  have HCN := Lib.hid hCn
  have HP := Lib.hid hP
  have HC := Lib.hid hC
  have H := Lib.hid h
  have hC4 : C ≤ 1024 := by
    rcases Nat.lt_or_ge 1024 C with hlt | hge
    · have := (hCn 1024).1 hlt
      have : 1024 * 1 ≤ 1024 * P := Nat.mul_le_mul_left _ hPp
      omega
    · exact hge
  rw [hC]
  clear hP h hC hCn
  go_enter Try.func41, Try.ntmps41
  go_wp2
  go_loopw [6, 5] (fun va vo wr => RRel w n k C U va vo wr) (fun va _ _ => n - (intOf va).toNat)
  case atStart => exact ⟨0, by simp, Nat.zero_le _, by simpa [runsTo, intV] using World.ownsRow_nil w _ _ _, Below.refl _ _⟩
  case round =>
    obtain ⟨q, rfl, hq, hrow, hb⟩ := hrel
    have hR := H.out.below hb
    have hc0 := hR.c0
    have hqp : q * 2 ^ k = q * P := by rw [HP.out]
    obtain ⟨a, ha⟩ : ∃ a, q * 2 ^ k = a := ⟨_, rfl⟩
    rw [ha] at hqp ⊢
    have HA := Lib.hid ha
    have HQP := Lib.hid hqp
    have HR := Lib.hid hR
    have hlen := runsTo_len n U k q
    by_cases e : q < C
    · have han : a < n := by rw [hqp]; exact (HCN.out q).1 e
      have ca : (a : Int) < (n : Int) := by omega
      obtain ⟨Q, hQ⟩ : ∃ Q, 2 * P = Q := ⟨_, rfl⟩
      have hcq : (2 : Int) * (P : Int) = (Q : Int) := by omega
      have hQk : 2 ^ (k + 1) = Q := by rw [Nat.pow_succ, HP.out]; omega
      obtain ⟨up, hup⟩ : ∃ up, q / 2 * 2 ^ (k + 1) = up := ⟨_, rfl⟩
      have hmod : a % Q = a - up := by
        have e1 : a / Q = q / 2 := by rw [← hQk, ← ha, Bu.div_pow_succ, Nat.mul_div_cancel _ (Bu.pos2 k)]
        have e2 := Nat.div_add_mod a Q
        rw [e1] at e2
        have e3 : Q * (q / 2) = up := by rw [← hup, hQk, Nat.mul_comm]
        omega
      have hupa : up ≤ a := by
        have e2 := Nat.mod_le a Q
        rw [← hup, ← ha]
        have : q / 2 * 2 ^ (k + 1) = q / 2 * 2 * 2 ^ k := by rw [Nat.pow_succ, Nat.mul_comm (2 ^ k) 2, Nat.mul_assoc]
        rw [this]
        exact Nat.mul_le_mul_right _ (by omega)
      have hsub : (a : Int) - (a : Int) % (Q : Int) = (up : Int) := by
        have : ((a % Q : Nat) : Int) = (a : Int) % (Q : Int) := Int.natCast_emod a Q
        omega
      have hQn : (0 : Int) < (Q : Int) := by omega
      have hQz : ((Q : Int) == 0) = false := by rw [beq_eq_false_iff_ne]; omega
      have HUP := Lib.hid hup
      have hnext : (a : Int) + (P : Int) = (((q + 1) * 2 ^ k : Nat) : Int) := by rw [HP.out, Nat.add_mul]; omega
      have HNX := Lib.hid hnext
      clear ha hqp hR hup hmod hnext hQ hQk han
      cases hf1 : blkU n U a k with
      | false =>
        have hrun : isRunU n U k q = false := by unfold isRunU; rw [HA.out, hf1]; rfl
        have HF := Lib.hid hf1
        have HRUN := Lib.hid hrun
        clear hf1 hrun
        go_wp2_with fail
        refine (rfree_any HR.out a k hk (by omega) hn).mono ?_
        rintro e w1 ⟨rfl, m, rfl⟩
        rw [HF.out]
        go_wp2_with fail
        go_roundw
        case rel => exact ⟨q + 1, by rw [← HNX.out], by omega, by rw [runsTo_no HRUN.out]; exact ownsRow_same hrow (fun _ _ => rfl), hb.trans (drewN_below _ _ _)⟩
        case measure => simp [intOf]; omega
      | true =>
        have HF := Lib.hid hf1
        clear hf1
        have hcase : (((k : Int) == 10) = true ∧ isRunU n U k q = true) ∨ (((k : Int) == 10) = false ∧ k < 10 ∧ blkU n U up (k + 1) = false ∧ isRunU n U k q = true) ∨ (((k : Int) == 10) = false ∧ k < 10 ∧ blkU n U up (k + 1) = true ∧ isRunU n U k q = false) := by
          unfold isRunU
          rw [HA.out, HUP.out, HF.out, Bool.true_and]
          by_cases e10 : k = 10
          · subst e10; exact .inl ⟨rfl, rfl⟩
          · have e11 : ((k : Int) == 10) = false := by rw [beq_eq_false_iff_ne]; omega
            have e12 : (k == 10) = false := by simpa using e10
            rw [e11, e12, Bool.false_or]
            cases blkU n U up (k + 1)
            · exact .inr (.inl ⟨rfl, by omega, rfl, rfl⟩)
            · exact .inr (.inr ⟨rfl, by omega, rfl, rfl⟩)
        rcases hcase with ⟨e10, hrun⟩ | ⟨e10, hk9, hf2, hrun⟩ | ⟨e10, hk9, hf2, hrun⟩
        · have HRUN := Lib.hid hrun
          clear hrun
          go_wp2_with fail
          refine (rfree_any HR.out a k hk (by omega) hn).mono ?_
          rintro e w1 ⟨rfl, m, rfl⟩
          rw [HF.out]
          have hrow2 : (wr.drewN m).ownsRow w.heap.size 3 1 _ (runsTo n U k q).length (intV (runsTo n U k q)) := ownsRow_same hrow (fun _ _ => rfl)
          have hb2 := hb.trans (drewN_below _ m _)
          clear hrow
          go_wp2_with (first
            | (at_builtin; refine wpList_append_own _ rfl _ _ 41 rfl w.heap.size 3 i0 (.int .i64 0) 1 8 Try.underlying41 hi hz0 hz1 hz2 rfl (by decide) _ _ _ rfl (hrow2.alloc _) ⟨wr.heap.size, 0, none⟩ 1 1 [.int .i64 (a : Int)] rfl rfl (cell_one_new _ _ _) (by simp [Value.oneCell']) (by unfold maxLen; omega) (by omega) (by have := hb2.size; simp at *; omega) ?_; intro v' w3 hown' hg3 hnil3; go_frame)
            | go_in)
          go_roundw
          case rel =>
            refine ⟨q + 1, by rw [← HNX.out], by omega, ?_, (hb2.alloc hb2.size _).grown hg3 (by have := hb2.size; simp at *; omega) (fun j hj => (hrow2.lt j hj).1)⟩
            rw [runsTo_yes HRUN.out, HA.out]
            simpa [intV] using hown'
          case measure => simp [intOf]; omega
        · have HF2 := Lib.hid hf2
          have HRUN := Lib.hid hrun
          clear hrun hf2
          have hfr2 := fun m => rfree_any (HR.out.drewN m) up (k + 1) (by omega) (by omega) hn
          have HFR := Lib.hid hfr2
          clear hfr2
          go_wp2_with fail
          refine (rfree_any HR.out a k hk (by omega) hn).mono ?_
          rintro e w1 ⟨rfl, m, rfl⟩
          rw [HF.out]
          go_wp2_with fail
          refine (HFR.out m).mono ?_
          rintro e w1 ⟨rfl, m2, rfl⟩
          rw [HF2.out]
          simp only [World.drewN_drewN]
          have hrow2 : (wr.drewN (m + m2)).ownsRow w.heap.size 3 1 _ (runsTo n U k q).length (intV (runsTo n U k q)) := ownsRow_same hrow (fun _ _ => rfl)
          have hb2 := hb.trans (drewN_below _ (m + m2) _)
          clear hrow
          go_wp2_with (first
            | (at_builtin; refine wpList_append_own _ rfl _ _ 41 rfl w.heap.size 3 i0 (.int .i64 0) 1 8 Try.underlying41 hi hz0 hz1 hz2 rfl (by decide) _ _ _ rfl (hrow2.alloc _) ⟨wr.heap.size, 0, none⟩ 1 1 [.int .i64 (a : Int)] rfl rfl (cell_one_new _ _ _) (by simp [Value.oneCell']) (by unfold maxLen; omega) (by omega) (by have := hb2.size; simp at *; omega) ?_; intro v' w3 hown' hg3 hnil3; go_frame)
            | go_in)
          go_roundw
          case rel =>
            refine ⟨q + 1, by rw [← HNX.out], by omega, ?_, (hb2.alloc hb2.size _).grown hg3 (by have := hb2.size; simp at *; omega) (fun j hj => (hrow2.lt j hj).1)⟩
            rw [runsTo_yes HRUN.out, HA.out]
            simpa [intV] using hown'
          case measure => simp [intOf]; omega
        · have HF2 := Lib.hid hf2
          have HRUN := Lib.hid hrun
          clear hrun hf2
          have hfr2 := fun m => rfree_any (HR.out.drewN m) up (k + 1) (by omega) (by omega) hn
          have HFR := Lib.hid hfr2
          clear hfr2
          go_wp2_with fail
          refine (rfree_any HR.out a k hk (by omega) hn).mono ?_
          rintro e w1 ⟨rfl, m, rfl⟩
          rw [HF.out]
          go_wp2_with fail
          refine (HFR.out m).mono ?_
          rintro e w1 ⟨rfl, m2, rfl⟩
          rw [HF2.out]
          simp only [World.drewN_drewN]
          go_wp2_with fail
          go_roundw
          case rel => exact ⟨q + 1, by rw [← HNX.out], by omega, by rw [runsTo_no HRUN.out]; exact ownsRow_same hrow (fun _ _ => rfl), hb.trans (drewN_below _ _ _)⟩
          case measure => simp [intOf]; omega
    · have han : ¬ a < n := by rw [hqp]; exact fun h => e ((HCN.out q).2 h)
      have ca : ¬ (a : Int) < (n : Int) := by omega
      obtain rfl : q = C := by omega
      go_wp2
      go_ret
      exact ⟨_, rfl, hrow, hb⟩

end Go.Proofs.Ytikahcbkeempdaa
