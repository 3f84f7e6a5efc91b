/- messuagelaw09: none; Poor, Rich of none; marks compared. -/
import Derived.Test.YtikahcbkeempdaaRHeap5
namespace Go.Proofs.Ytikahcbkeempdaa
open Go.RowKit Go.Maps

set_option maxHeartbeats 400000 in
theorem none9_any (w : World) : Calls Try.prog 58 #[] w fun e w' => e = .returned (.pointer none) ∧ w = w' := by
  go_enter Try.func58, Try.ntmps58
  go_wp2
  go_ret
  exact ⟨rfl, rfl⟩
set_option maxHeartbeats 1000000 in
theorem poor_nil (n : Int) (w : World) : Calls Try.prog 60 #[.pointer none, .int .i64 n] w fun e w' => e = .returned (.bool false) ∧ Below w.heap.size w w' := by
  go_enter Try.func60, Try.ntmps60
  go_wp2_with fail
  refine (hfree_nil n _).mono ?_
  rintro e w1 ⟨rfl, rfl⟩
  go_wp2_with fail
  go_ret
  exact ⟨rfl, Below.refl _ _⟩
set_option maxHeartbeats 1000000 in
theorem rich_nil (n : Int) (w : World) : Calls Try.prog 61 #[.pointer none, .int .i64 n] w fun e w' => e = .returned (.bool false) ∧ Below w.heap.size w w' := by
  go_enter Try.func61, Try.ntmps61
  go_wp2_with fail
  refine (hfree_nil n _).mono ?_
  rintro e w1 ⟨rfl, rfl⟩
  go_wp2_with fail
  go_ret
  exact ⟨rfl, Below.refl _ _⟩

theorem marks_eqD (d : Nat) (a b c e f g : Int) (w : World) : (Op.equalIn (d + 2) 82 (.agg #[.int .i64 a, .int .i64 b, .int .i64 c]) (.agg #[.int .i64 e, .int .i64 f, .int .i64 g])).run Try.prog w = .ok (a == e && (b == f && c == g)) w := by
  obtain ⟨i0, hi, hz0, hz1, hz2⟩ := info_parts infoI
  have h1 := run_equalIn_int (P := Try.prog) w d 3 .i64 .i64 a e Try.underlying3
  have h2 := run_equalIn_int (P := Try.prog) w d 3 .i64 .i64 b f Try.underlying3
  have h3 := run_equalIn_int (P := Try.prog) w d 3 .i64 .i64 c g Try.underlying3
  have hs : Try.prog.stoodInHeld 82 = false := by kernel_rfl
  rw [Op.equalIn]
  simp only [Sem.run_bind, run_underlying Try.underlying82, Result.andThen_ok, run_program, hs]
  simp [part, hi, hz1, sizeOf, typeInfo, isAgg, run_underlying Try.underlying3]
  rw [h1]
  cases a == e
  · simp [Result.andThen]
  · simp only [Result.andThen_ok, Bool.true_eq_false, if_false]
    rw [h2]
    cases b == f
    · simp [Result.andThen]
    · simp only [Result.andThen_ok, Bool.true_eq_false, if_false]
      rw [h3]
      cases c == g <;> simp [Result.andThen]
theorem marks_eq (a b c e f g : Int) (w : World) : (Op.equalIn 10000 82 (.agg #[.int .i64 a, .int .i64 b, .int .i64 c]) (.agg #[.int .i64 e, .int .i64 f, .int .i64 g])).run Try.prog w = .ok (a == e && (b == f && c == g)) w := marks_eqD 9998 a b c e f g w
end Go.Proofs.Ytikahcbkeempdaa
