/- For every size, every row of calls and every order the law FragTells returns true: how broken up the free frames are is told; of no buddy nothing is. No condition. -/
import Derived.Test.YtikahcbkeempdaaRows
import Derived.Test.YtikahcbkeempdaaLwTells
import Derived.Test.YtikahcbkeempdaaRows1
import Derived.ProofKit
import Derived.OpenShut
namespace Go.Proofs.Ytikahcbkeempdaa.lpFragTells
open Go.ChangeShapes Go.WideShapes Go.ChangeAt Go.RowKit

theorem laidOut : laidOutB Try.prog = true := by kernel_rfl

theorem own : ownKnob Try.prog.godebug = none := by kernel_rfl

set_option maxRecDepth 100000 in
theorem lifted (os : Os) (started : os.Started) (H : Type) (enc : TypeId × Value → H) :
    ReturnsInHanded {} Try.checked os 9 .any (Rows.fragTellsSpec.pre6 enc Try.prog Try.f9 Rows.fragTellsRow.domain false) (Rows.fragTellsSpec.post enc Try.prog Try.f9 false true false false) := by
  refine returnsInHanded_of_change (C := Try.checked) own started (by kernel_rfl) Try.func9
    (ChangeSpec.witness6 (enc := enc) (C := Try.checked) false ⟨#[], #[.int .i64 0, .slice none 0 0, .int .i64 0], []⟩ 8 (by kernel_rfl) (by kernel_rfl) (by kernel_rfl) (by kernel_rfl)) ?_
  intro W base args ds gs before hval0 hW hcnd _
  have hval : ∀ (j : Nat) t v, Try.f9.params[j]? = some t → args[j]? = some v → Value.okWide Try.prog W .any base t v := hval0
  have hW' := hW
  obtain ⟨p, q, hA0, hV, rfl, hfz, hnd⟩ := hW
  have hA : DataW.TrodAll enc Try.prog W 0 (fun _ => true) true Try.f9.params.toList args.toList ds p := hA0
  rw [Try.params9] at hA hval
  obtain ⟨v0, vs0, d0, ds0, p0, q0, hargs, rfl, rfl, h0, r0⟩ := trodAll_cons hA
  obtain ⟨v1, vs1, d1, ds1, p1, q1, rfl, rfl, rfl, h1, r1⟩ := trodAll_cons r0
  obtain ⟨v2, vs2, d2, ds2, p2, q2, rfl, rfl, rfl, h2, r2⟩ := trodAll_cons r1
  obtain ⟨rfl, rfl, rfl⟩ := trodAll_nil r2
  obtain rfl : args = #[v0, v1, v2] := by cases args; simp_all
  obtain ⟨rfl, rfl⟩ := trodVars_none hV
  obtain ⟨a0, rfl, rfl, rfl, w0⟩ := open_int Try.underlying3 (hval 0 3 v0 rfl rfl) h0
  obtain ⟨a1, len1, cap1, rfl⟩ := okWide_slice Try.underlying66 (hval 1 66 v1 rfl rfl)
  have k1 := h1
  have lt1 : ∀ x ∈ p1, x.block < W.heap.size := by obtain ⟨m, hm⟩ := k1; exact DataW.trod_lt m _ _ _ hm
  obtain ⟨m1, z1, w1⟩ : len1 ≤ 9223372036854775807 ∧ ∃ z, RowsAtK W a1 len1 [false, true, true] z := by
    obtain ⟨fuel, hf⟩ := h1
    obtain ⟨hm, z, hz⟩ := open_rows (ks := [false, true, true]) Try.underlying66 Try.underlying114 rfl (by decide) (by kernel_rfl) (fun j f hj => by
      rcases j with _ | _ | _ | j
      · obtain rfl := Option.some.inj hj; exact ⟨rfl, by kernel_rfl, by first | exact Try.underlying3 | exact Try.underlying4⟩
      · obtain rfl := Option.some.inj hj; exact ⟨rfl, by kernel_rfl, by first | exact Try.underlying3 | exact Try.underlying4⟩
      · obtain rfl := Option.some.inj hj; exact ⟨rfl, by kernel_rfl, by first | exact Try.underlying3 | exact Try.underlying4⟩
      · simp at hj) hf
    exact ⟨by unfold maxLen at hm; omega, z, hz⟩
  obtain ⟨a2, rfl, rfl, rfl, w2⟩ := open_int Try.underlying3 (hval 2 3 v2 rfl rfl) h2
  clear hA0 hval0
  try simp only [List.append_nil] at hW'
  refine (fragTells_walk a0 a1 len1 cap1 z1 a2 W w1 m1).mono fun e W' ⟨he, bel⟩ => ?_
  subst he
  exact ⟨_, rfl, _, _, _, [], _, [], hW', trodAll_mk1 (shut_bool Try.underlying4 _), (trodAll_cons_mk (shut_int Try.underlying3 w0) (trodAll_cons_mk (Below.trod laidOut (by kernel_rfl) (of_decide_eq_true (by kernel_rfl)) k1 bel lt1) (trodAll_cons_mk (shut_int Try.underlying3 w2) (trodAll_mk0)))), rfl, bel.frame _, fun h => by cases h⟩

theorem over : Rows.fragTellsRow.holds Try.pinned (OpenSpec.ofChange Rows.fragTellsSpec) :=
  OpenClaim.holds_of_wide 9 Try.f9 rfl rfl rfl rfl rfl rfl rfl ⟨rfl, rfl, rfl, rfl, rfl⟩ rfl rfl rfl rfl rfl (by kernel_rfl) Try.func9 (by kernel_rfl)
    (of_decide_eq_true (by kernel_rfl)) (by unfold Func.isWrapper; first | (rw [if_pos (by decide +kernel)]; kernel_rfl) | (rw [if_neg (by decide +kernel)]; exact ⟨rfl, rfl⟩))
    (fun os started H enc _ => lifted os started H enc)

theorem proved : Rows.FragTellsSaid := over
#print axioms proved
end Go.Proofs.Ytikahcbkeempdaa.lpFragTells
