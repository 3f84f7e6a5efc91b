/- Take: a run is taken. -/
import Derived.Test.YtikahcbkeempdaaRuns
import Derived.StillTailTactics
import Derived.Deep.Light
namespace Go.Proofs.Ytikahcbkeempdaa
open Go.RowKit Go.Maps

section
variable {P : Program} (w : World) {ops : Array Oper} {rest : List Oper} {o : Oper} {a : Act} {Q : Exit → Act → World → Prop}

theorem wpList_set_put (hg : o.guard = none) (m x v : Operand) (hop : o.op = Op.mapUpdate 105 m x v) (b : Nat) (l : List Nat) (hm : a.eval m = .map (some b)) (hset : SetMap w b l) (hn : l.length < maxLen)
    (y : Nat) (hy : (y : Int) ≤ 9223372036854775807) (hx : a.eval x = .int .i64 (y : Int)) (hv : a.eval v = .bool true)
    (hK : ∀ w', SetMap w' b (Bu.ins y l) → w.mapTurned w' b → wpList Try.prog ops Q rest (a.put o.dst undef) w') :
    wpList Try.prog ops Q (o :: rest) a w := by
  refine wpList_plain hg fun K' hK' => ?_
  obtain ⟨w', hrun, r1, r2⟩ := hset.put hy hn
  unfold Oper.wp
  simp [execOp, hop, hm, hx, hv, hrun, Result.andThen]
  exact hK' _ _ (hK w' r1 r2)

theorem wpList_set_del (hg : o.guard = none) (m x : Operand) (hop : o.op = Op.call { callee := Callee.builtin Builtin.delete, args := #[m, x], argTypes := #[105, 3] }) (b : Nat) (l : List Nat)
    (hm : a.eval m = .map (some b)) (hset : SetMap w b l) (y : Nat) (hy : (y : Int) ≤ 9223372036854775807) (hx : a.eval x = .int .i64 (y : Int)) (hmem : y ∈ l)
    (hK : ∀ w', SetMap w' b (l.erase y) → w.mapTurned w' b → wpList Try.prog ops Q rest (a.put o.dst (.tuple #[])) w') :
    wpList Try.prog ops Q (o :: rest) a w := by
  refine wpList_plain hg fun K' hK' => ?_
  obtain ⟨w', hrun, r1, r2⟩ := hset.del hy hmem o.type
  unfold Oper.wp
  simp [execOp, hop, resolve, invoke, builtin, hm, hx, hrun, Result.andThen]
  exact hK' _ _ (hK w' r1 r2)

theorem wpList_tak_put (hg : o.guard = none) (m x v : Operand) (hop : o.op = Op.mapUpdate 104 m x v) (b : Nat) (T : List (Nat × Nat)) (hm : a.eval m = .map (some b)) (hset : TakMap w b T) (hn : T.length < maxLen)
    (y k : Nat) (hy : (y : Int) ≤ 9223372036854775807) (hk : (k : Int) ≤ 9223372036854775807) (hna : y ∉ T.map (·.1)) (hx : a.eval x = .int .i64 (y : Int)) (hv : a.eval v = .int .i64 (k : Int))
    (hK : ∀ w', TakMap w' b (T ++ [(y, k)]) → w.mapTurned w' b → wpList Try.prog ops Q rest (a.put o.dst undef) w') :
    wpList Try.prog ops Q (o :: rest) a w := by
  refine wpList_plain hg fun K' hK' => ?_
  obtain ⟨w', hrun, r1, r2⟩ := hset.put hy hk hna hn
  unfold Oper.wp
  simp [execOp, hop, hm, hx, hv, hrun, Result.andThen]
  exact hK' _ _ (hK w' r1 r2)

theorem wpList_tak_del (hg : o.guard = none) (m x : Operand) (hop : o.op = Op.call { callee := Callee.builtin Builtin.delete, args := #[m, x], argTypes := #[104, 3] }) (b : Nat) (T : List (Nat × Nat))
    (hm : a.eval m = .map (some b)) (hset : TakMap w b T) (t : Nat × Nat) (hy : (t.1 : Int) ≤ 9223372036854775807) (hx : a.eval x = .int .i64 (t.1 : Int)) (hmem : t ∈ T)
    (hK : ∀ w', TakMap w' b (T.erase t) → w.mapTurned w' b → wpList Try.prog ops Q rest (a.put o.dst (.tuple #[])) w') :
    wpList Try.prog ops Q (o :: rest) a w := by
  refine wpList_plain hg fun K' hK' => ?_
  obtain ⟨w', hrun, r1, r2⟩ := hset.del hy hmem o.type
  unfold Oper.wp
  simp [execOp, hop, resolve, invoke, builtin, hm, hx, hrun, Result.andThen]
  exact hK' _ _ (hK w' r1 r2)
end

theorem Bud.put {w w' : World} {b n : Nat} {F T} (h : Bud w b n F T) {k : Nat} {l : List Nat} (hs : SetMap w' (b + 2 + k) l) (ht : w.mapTurned w' (b + 2 + k)) : Bud w' b n (Bu.upd F k l) T := by
  refine ⟨(ht.grown.block _ (by have := h.lt; omega) (by simp; omega)).trans h.blk, fun j hj => ?_, h.tak.turned ht (by omega)⟩
  by_cases e : j = k
  · subst e; rw [Bu.upd_same]; exact hs
  · rw [Bu.upd_ne _ _ e]; exact (h.sets j hj).turned ht (by omega)

theorem Bud.tak' {w w' : World} {b n : Nat} {F T T'} (h : Bud w b n F T) (hs : TakMap w' b T') (ht : w.mapTurned w' b) : Bud w' b n F T' :=
  ⟨(ht.grown.block _ (by have := h.lt; omega) (by simp)).trans h.blk, fun j hj => (h.sets j hj).turned ht (by omega), hs⟩

theorem pow_le_1024 {k : Nat} (hk : k ≤ 10) : 2 ^ k ≤ 1024 := Nat.pow_le_pow_right (n := 2) (by omega) hk

theorem powI {k : Nat} (hk : k ≤ 10) : 1 ≤ (2 : Int) ^ k ∧ (2 : Int) ^ k ≤ 1024 := by
  have h1 := pow_le_1024 hk
  have h2 := Bu.pos2 k
  have : ((2 ^ k : Nat) : Int) = (2 : Int) ^ k := Int.natCast_pow 2 k
  omega
theorem castAdd (a k : Nat) : ((a + 2 ^ k : Nat) : Int) = (a : Int) + 2 ^ k := by
  rw [Int.natCast_add, Int.natCast_pow]; rfl

def TakePost (w : World) (b n o a : Nat) (F' : Nat → List Nat) (T : List (Nat × Nat)) (e : Ending) (w' : World) : Prop :=
  e = .returned (.tuple #[.int .i64 (a : Int), .int .i64 0]) ∧ Bud w' b n F' (T ++ [(a, o)]) ∧ Kept b (b + 13) w w'

def TakeRel (w : World) (b n o a k0 : Nat) (Ffin : Nat → List Nat) (T : List (Nat × Nat)) (i : Value) (wr : World) : Prop :=
  ∃ (k : Nat) (G : Nat → List Nat), i = .int .i64 (k : Int) ∧ o ≤ k ∧ k ≤ k0 ∧ Bud wr b n G T ∧ Bu.splitF a o (k - o) G = Ffin ∧ (∀ j, o ≤ j → j < k → G j = []) ∧ Kept b (b + 13) w wr

set_option maxRecDepth 100000 in
set_option maxHeartbeats 1000000 in
theorem take_ok {w : World} {b n : Nat} {F T} (hB : Bud w b n F T) (o k0 : Nat) (ho : o ≤ k0) (hk0 : k0 ≤ 10) (hnone : ∀ j, o ≤ j → j < k0 → F j = []) {a : Nat} {l : List Nat} (hF : F k0 = a :: l)
    (hlen : (F k0).length ≤ 1024) (ha : a ≤ 1024) (hT : T.length ≤ 1024) (hna : a ∉ T.map (·.1)) :
    Calls Try.prog 30 #[.pointer (some ⟨b + 1, 0, none⟩), .int .i64 (o : Int)] w (TakePost w b n o a (Bu.takeF F k0 o a) T) := by
  have hmem : a ∈ F k0 := by rw [hF]; simp
  have hab := above_some hB o k0 ho hk0 (by rw [hF]; simp) (fun j h1 h2 => by rw [hnone j h1 h2]; simp)
  have hfi := first_any hB k0 hk0 hlen hF
  have HAB := Lib.hid hab
  have HFI := Lib.hid hfi
  have HN := Lib.hid hnone
  have HF := Lib.hid hF
  have HNA := Lib.hid hna
  have HM := Lib.hid hmem
  clear hab hfi hnone hF hna hmem
  go_enter Try.func30, Try.ntmps30
  go_wp2_with (first
    | (go_at_call 68; refine (right_yes _ _ _ (by omega) (by omega)).mono ?_; rintro e w' ⟨rfl, rfl⟩)
    | (go_at_call 69; refine HAB.out.mono ?_; rintro e w' ⟨rfl, rfl⟩)
    | (go_at_call 70; refine HFI.out.mono ?_; rintro e w1 ⟨rfl, hbl⟩; have hk1 := Kept.of_below hbl b (b + 13); have hB1 := hB.same (w' := w1) (fun i h1 h2 => hbl.block i (by have := hB.lt; omega)); have hcell := hB1.cf hk0)
    | (at_delete; refine wpList_set_del _ rfl _ _ rfl (b + 2 + k0) (F k0) rfl (hB1.sets k0 hk0) a (by omega) rfl HM.out ?_; intro w2 hs2 ht2; have hB2 := hB1.put hs2 ht2; have hk2 := hk1.turned ht2 (.inl ⟨by omega, by omega⟩); clear hcell hs2 ht2)
    | go_in)
  go_frame
  go_loopw [6] (fun i wr => TakeRel w b n o a k0 (Bu.takeF F k0 o a) T i wr) (fun i _ => (intOf i).toNat)
  case atStart => exact ⟨k0, _, rfl, ho, Nat.le_refl _, hB2, rfl, fun j h1 h2 => by rw [Bu.upd_ne _ _ (by omega)]; exact HN.out j h1 h2, hk2⟩
  case round =>
    obtain ⟨k, G, rfl, h1, h2, hBr, hS, hG, hkr⟩ := hrel
    have HS := Lib.hid hS
    have HG := Lib.hid hG
    clear hS hG hB2 hk2 hk1 hB1 hbl
    by_cases e : k = o
    · subst e
      have hct := hBr.ct
      go_wp2_with (first
        | (at_mapUpdate; refine wpList_tak_put _ rfl _ _ _ rfl b T rfl hBr.tak (by unfold maxLen; omega) a k (by omega) (by omega) HNA.out rfl rfl ?_; intro w3 hs3 ht3)
        | go_in)
      go_ret2
      have hB3 := hBr.tak' hs3 ht3
      have hk3 := hkr.turned ht3 (.inl ⟨by omega, by omega⟩)
      rw [Nat.sub_self] at HS
      have := HS.out
      simp only [Bu.splitF] at this
      exact ⟨rfl, this ▸ hB3, hk3⟩
    · obtain ⟨k, rfl⟩ : ∃ m, k = m + 1 := ⟨k - 1, by omega⟩
      have hcell := hBr.cf (k := k) (by omega)
      go_wp2
      have ew : IntKind.i64.wrap (k : Int) = (k : Int) := IntWalk.i64_in _ (by omega)
      have e0 : (0 : Int) ≤ (k : Int) := by omega
      have e1 : (k : Int) < 11 := by omega
      have ep := powI (k := k) (by omega)
      have ep1 : IntKind.i64.wrap ((2 : Int) ^ k) = 2 ^ k := IntWalk.i64_in _ (by omega)
      have ep2 : IntKind.i64.wrap ((a : Int) + 2 ^ k) = a + 2 ^ k := IntWalk.i64_in _ (by omega)
      have hgk : (G k).length < maxLen := by rw [HG.out k (by omega) (by omega)]; decide
      go_still_tail 12, (by kernel_rfl)
      change wpList _ _ _ _ _ wr.drew
      clear ew ep1 ep2
      have hd : Bud wr.drew b n G T := hBr.same (fun _ _ _ => rfl)
      refine wpList_set_put _ rfl _ _ _ rfl (b + 2 + k) (G k) rfl (hd.sets k (by omega)) hgk (a + 2 ^ k) (by rw [castAdd]; omega) (by rw [castAdd]; rfl) rfl ?_
      intro w3 hs3 ht3
      have hB3 := hd.put hs3 ht3
      have hk3 := hkr.drew.turned ht3 (.inl ⟨by omega, by omega⟩)
      clear hs3 ht3 hd
      go_wp2
      go_roundw
      case rel =>
        refine ⟨k, _, by go_num, by omega, by omega, hB3, ?_, fun j h3 h4 => by rw [Bu.upd_ne _ _ (by omega)]; exact HG.out j h3 (by omega), hk3⟩
        rw [← HS.out, show k + 1 - o = (k - o) + 1 by omega]
        simp only [Bu.splitF]
        rw [show o + (k - o) = k by omega]
      case measure => simp [intOf]

set_option maxHeartbeats 400000 in
theorem take_none {w : World} {b n : Nat} {F T} (hB : Bud w b n F T) (o : Nat) (ho : o ≤ 10) (hnone : ∀ j, o ≤ j → j ≤ 10 → (F j).length ≤ 0) :
    Calls Try.prog 30 #[.pointer (some ⟨b + 1, 0, none⟩), .int .i64 (o : Int)] w fun e w' => e = .returned (.tuple #[.int .i64 0, .int .i64 5]) ∧ w = w' := by
  have H := Lib.hid (above_none hB o ho hnone)
  clear hnone
  go_enter Try.func30, Try.ntmps30
  go_wp2_with (first
    | (go_at_call 68; refine (right_yes _ _ _ (by omega) (by omega)).mono ?_; rintro e w' ⟨rfl, rfl⟩)
    | (go_at_call 69; refine H.out.mono ?_; rintro e w' ⟨rfl, rfl⟩))
  go_ret2
  exact ⟨rfl, rfl⟩

set_option maxHeartbeats 400000 in
theorem take_no (a : Addr) (o : Int) (w : World) (h : o < 0 ∨ 10 < o) :
    Calls Try.prog 30 #[.pointer (some a), .int .i64 o] w fun e w' => e = .returned (.tuple #[.int .i64 0, .int .i64 1]) ∧ w = w' := by
  have H := Lib.hid h
  clear h
  go_enter Try.func30, Try.ntmps30
  go_wp2_with (go_at_call 68; refine (right_no _ _ _ H.out).mono ?_; rintro e w' ⟨rfl, rfl⟩)
  go_ret2
  exact ⟨rfl, rfl⟩

set_option maxHeartbeats 400000 in
theorem take_nil (o : Int) (w : World) :
    Calls Try.prog 30 #[.pointer none, .int .i64 o] w fun e w' => e = .returned (.tuple #[.int .i64 0, .int .i64 1]) ∧ w = w' := by
  go_enter Try.func30, Try.ntmps30
  go_wp2_with (go_at_call 68; refine (right_nil _ _).mono ?_; rintro e w' ⟨rfl, rfl⟩)
  go_ret2
  exact ⟨rfl, rfl⟩

end Go.Proofs.Ytikahcbkeempdaa
