/- The reference's buddy: DocGive walked. -/
import Derived.Test.YtikahcbkeempdaaRef3
namespace Go.Proofs.Ytikahcbkeempdaa
open Go.RowKit

theorem own_shape2 {w : World} {base e n : Nat} {v : Value} {xs : List Value} (h : w.ownsRow base e 2 v n xs) :
    ∃ oa cap, v = .slice oa n cap ∧ n ≤ cap ∧ (0 < n → ∃ g, oa = some ⟨g, 0, none⟩ ∧ g < w.heap.size ∧ v.ownBlock = some g ∧ ∀ i, i < n * 2 → w.cell? ⟨g, i, none⟩ = some (xs.getD i undef)) := by
  rcases h.2 with ⟨rfl, rfl⟩ | ⟨g, cap, cur, rfl, hbase, hb, h1, h2, h3, h4⟩
  · exact ⟨none, 0, rfl, Nat.le_refl _, fun h => absurd h (by omega)⟩
  · refine ⟨_, cap, rfl, h1, fun _ => ⟨g, rfl, (Array.getElem?_eq_some_iff.1 hb).1, rfl, fun i hi => ?_⟩⟩
    have hx : i < xs.length := by rw [h.1]; exact hi
    rw [h.cellAt i hi]
    simp [hx]

theorem takCells_len (T : List (Nat × Nat)) : (takCells T).length = T.length * 2 := by
  induction T with
  | nil => rfl
  | cons t T ih => simp only [takCells, List.flatMap_cons, List.length_append] at *; rw [ih]; simp; omega
theorem takCells_at (T : List (Nat × Nat)) {i : Nat} (hi : i < T.length) : (takCells T).getD (i * 2) undef = .int .i64 ((T[i]).1 : Int) ∧ (takCells T).getD (i * 2 + 1) undef = .int .i64 ((T[i]).2 : Int) := by
  induction T generalizing i with
  | nil => simp at hi
  | cons t T ih =>
    cases i with
    | zero => simp [takCells]
    | succ i =>
      have := ih (i := i) (by simpa using hi)
      simp only [takCells, List.flatMap_cons] at this ⊢
      rw [show (i + 1) * 2 = i * 2 + 1 + 1 by omega, show i * 2 + 1 + 1 + 1 = (i * 2 + 1) + 1 + 1 by omega]
      simpa using this
theorem takCells_take (T : List (Nat × Nat)) (i : Nat) : (takCells T).take (i * 2) = takCells (T.take i) := by
  induction T generalizing i with
  | nil => simp [takCells]
  | cons t T ih =>
    cases i with
    | zero => simp [takCells]
    | succ i =>
      have := ih i
      simp only [takCells, List.flatMap_cons, List.take_succ_cons] at this ⊢
      rw [show (i + 1) * 2 = i * 2 + 1 + 1 by omega]
      simpa using this
theorem takCells_drop (T : List (Nat × Nat)) (i : Nat) : (takCells T).drop (i * 2) = takCells (T.drop i) := by
  induction T generalizing i with
  | nil => simp [takCells]
  | cons t T ih =>
    cases i with
    | zero => simp [takCells]
    | succ i =>
      have := ih i
      simp only [takCells, List.flatMap_cons, List.drop_succ_cons] at this ⊢
      rw [show (i + 1) * 2 = i * 2 + 1 + 1 by omega]
      simpa using this
theorem takCells_app (S T : List (Nat × Nat)) : takCells (S ++ T) = takCells S ++ takCells T := by simp [takCells]

theorem pair_eq (d : Nat) (a b c e : Int) (w : World) : (Op.equalIn (d + 2) 51 (.agg #[.int .i64 a, .int .i64 b]) (.agg #[.int .i64 c, .int .i64 e])).run Try.prog w = .ok (a == c && b == e) w := by
  obtain ⟨i0, hi, hz0, hz1, hz2⟩ := info_parts infoI
  have h1 := run_equalIn_int (P := Try.prog) w d 3 .i64 .i64 a c Try.underlying3
  have h2 := run_equalIn_int (P := Try.prog) w d 3 .i64 .i64 b e Try.underlying3
  rw [Op.equalIn]
  simp only [Sem.run_bind, run_underlying Try.underlying51, Result.andThen_ok, sizeOf, typeInfo, run_program, hi]
  simp [Std.Legacy.Range.forIn_eq_forIn_range', Std.Legacy.Range.size, List.range', part, hi, hz1, sizeOf, typeInfo, isAgg, run_underlying Try.underlying3]
  rw [h1]
  cases a == c
  · simp [Result.andThen]
  · simp only [Result.andThen_ok, Bool.true_eq_false, if_false]
    rw [h2]
    cases b == e <;> simp [Result.andThen]
theorem pair_eq' (a b c e : Int) (w : World) : (Op.equalIn 10000 51 (.agg #[.int .i64 a, .int .i64 b]) (.agg #[.int .i64 c, .int .i64 e])).run Try.prog w = .ok (a == c && b == e) w := pair_eq 9998 a b c e w

set_option maxHeartbeats 400000 in
theorem rgive_no (a : Addr) (x o : Int) (w : World) (h : o < 0 ∨ 10 < o) :
    Calls Try.prog 39 #[.pointer (some a), .int .i64 x, .int .i64 o] w fun e w' => e = .returned (.int .i64 1) ∧ w = w' := by
  rcases h with h | h
  all_goals
    go_enter Try.func39, Try.ntmps39
    go_wp2_with fail
    go_ret
    exact ⟨rfl, rfl⟩

set_option maxRecDepth 100000 in
set_option maxHeartbeats 1000000 in
theorem rgive_bad {w : World} {n p u : Nat} {tv U T} (h : RefAt w n p u tv U T) (x : Int) (o : Nat) (ho : o ≤ 10) (hT : T.length ≤ 1024) (hbad : ∀ t ∈ T, ¬ ((t.1 : Int) = x ∧ t.2 = o)) :
    Calls Try.prog 39 #[.pointer (some ⟨p, 0, none⟩), .int .i64 x, .int .i64 (o : Int)] w fun e w' => e = .returned (.int .i64 6) ∧ w = w' := by
  obtain ⟨oa, cap, rfl, hcap, hsh⟩ := own_shape2 h.tak
  have hc1 := h.c1
  have HSH := Lib.hid hsh
  have HB := Lib.hid hbad
  clear h hsh hbad
  go_enter Try.func39, Try.ntmps39
  go_wp2_with fail
  go_loop [7] (fun v => ∃ i : Nat, v = .int .i64 (i : Int) ∧ i ≤ T.length) (fun v => T.length - (intOf v).toNat)
  case atStart => exact ⟨0, rfl, Nat.zero_le _⟩
  case round =>
    obtain ⟨i, rfl, hi⟩ := hrel
    by_cases e : i < T.length
    · have ci : (i : Int) < (T.length : Int) := by omega
      obtain ⟨g, rfl, hg, _, hcells⟩ := HSH.out (by omega)
      have g0 := hcells (i * 2) (by omega)
      have g1 := hcells (i * 2 + 1) (by omega)
      rw [(takCells_at T e).1] at g0
      rw [(takCells_at T e).2] at g1
      have hne := HB.out T[i] (List.getElem_mem e)
      clear hcells
      generalize (T[i]).1 = t1 at *
      generalize (T[i]).2 = t2 at *
      have hcase : ((t1 : Int) == x) = false ∨ (((t1 : Int) == x) = true ∧ ((t2 : Int) == (o : Int)) = false) := by
        by_cases ex : (t1 : Int) = x
        · refine .inr ⟨by simpa using ex, ?_⟩
          rw [beq_eq_false_iff_ne]
          exact fun h => hne ⟨ex, by omega⟩
        · exact .inl (by simpa using ex)
      clear hne
      rcases hcase with hb | ⟨hb1, hb2⟩
      all_goals
        have hpe := fun w' => pair_eq' (t1 : Int) (t2 : Int) x (o : Int) w'
        go_wp2_with fail
        go_round
        case rel => exact ⟨i + 1, by go_num, by omega⟩
        case measure => simp [intOf]; omega
    · have ci : ¬ (i : Int) < (T.length : Int) := by omega
      go_wp2_with fail
      go_ret
      exact ⟨rfl, rfl⟩

end Go.Proofs.Ytikahcbkeempdaa
