/- For every count of nodes and frames, all marks and every row of calls the law HeapActs returns true: a heap answers what the chapter says, and no node comes below its mark; of none nothing is told. No condition. -/
import Derived.Test.YtikahcbkeempdaaRows
import Derived.Test.YtikahcbkeempdaaLwHActs
import Derived.Test.YtikahcbkeempdaaRows1
import Derived.Test.YtikahcbkeempdaaRows3
import Derived.ProofKit
import Derived.OpenShut
namespace Go.Proofs.Ytikahcbkeempdaa.lpHeapActs
open Go.ChangeShapes Go.WideShapes Go.ChangeAt Go.RowKit

theorem laidOut : laidOutB Try.prog = true := by kernel_rfl

theorem own : ownKnob Try.prog.godebug = none := by kernel_rfl

set_option maxRecDepth 100000 in
theorem lifted (os : Os) (started : os.Started) (H : Type) (enc : TypeId × Value → H) :
    ReturnsInHanded {} Try.checked os 15 .any (Rows.heapActsSpec.pre6 enc Try.prog Try.f15 Rows.heapActsRow.domain false) (Rows.heapActsSpec.post enc Try.prog Try.f15 false true false false) := by
  refine returnsInHanded_of_change (C := Try.checked) own started (by kernel_rfl) Try.func15
    (ChangeSpec.witness6 (enc := enc) (C := Try.checked) false ⟨#[], #[.agg #[.int .i64 0, .int .i64 0], .agg #[.int .i64 0, .int .i64 0, .int .i64 0], .slice none 0 0], []⟩ 8 (by kernel_rfl) (by kernel_rfl) (by kernel_rfl) (by kernel_rfl)) ?_
  intro W base args ds gs before hval0 hW hcnd _
  have hval : ∀ (j : Nat) t v, Try.f15.params[j]? = some t → args[j]? = some v → Value.okWide Try.prog W .any base t v := hval0
  have hW' := hW
  obtain ⟨p, q, hA0, hV, rfl, hfz, hnd⟩ := hW
  have hA : DataW.TrodAll enc Try.prog W 0 (fun _ => true) true Try.f15.params.toList args.toList ds p := hA0
  rw [Try.params15] at hA hval
  obtain ⟨v0, vs0, d0, ds0, p0, q0, hargs, rfl, rfl, h0, r0⟩ := trodAll_cons hA
  obtain ⟨v1, vs1, d1, ds1, p1, q1, rfl, rfl, rfl, h1, r1⟩ := trodAll_cons r0
  obtain ⟨v2, vs2, d2, ds2, p2, q2, rfl, rfl, rfl, h2, r2⟩ := trodAll_cons r1
  obtain ⟨rfl, rfl, rfl⟩ := trodAll_nil r2
  obtain rfl : args = #[v0, v1, v2] := by cases args; simp_all
  obtain ⟨rfl, rfl⟩ := trodVars_none hV
  have k0 := h0
  have lt0 : ∀ x ∈ p0, x.block < W.heap.size := by obtain ⟨m, hm⟩ := k0; exact DataW.trod_lt m _ _ _ hm
  obtain ⟨zs0, hl0, rfl⟩ := open_arr Try.underlying51 Try.underlying3 (by kernel_rfl) (by kernel_rfl) (hval 0 51 v0 rfl rfl) h0
  obtain ⟨x0, y0, rfl⟩ := list2 zs0 hl0
  have k1 := h1
  have lt1 : ∀ x ∈ p1, x.block < W.heap.size := by obtain ⟨m, hm⟩ := k1; exact DataW.trod_lt m _ _ _ hm
  obtain ⟨zs1, hl1, rfl⟩ := open_arr Try.underlying85 Try.underlying3 (by kernel_rfl) (by kernel_rfl) (hval 1 85 v1 rfl rfl) h1
  obtain ⟨x1, y1, z1, rfl⟩ := list3 zs1 hl1
  obtain ⟨a2, len2, cap2, rfl⟩ := okWide_slice Try.underlying86 (hval 2 86 v2 rfl rfl)
  have k2 := h2
  have lt2 : ∀ x ∈ p2, x.block < W.heap.size := by obtain ⟨m, hm⟩ := k2; exact DataW.trod_lt m _ _ _ hm
  obtain ⟨m2, z2, w2⟩ : len2 ≤ 9223372036854775807 ∧ ∃ z, RowsAt W a2 len2 4 z := by
    obtain ⟨fuel, hf⟩ := h2
    obtain ⟨hm, z, hz⟩ := open_rows (ks := [true, true, true, true]) Try.underlying86 Try.underlying93 rfl (by decide) (by kernel_rfl) (fun j f hj => by
      rcases j with _ | _ | _ | _ | j
      · obtain rfl := Option.some.inj hj; exact ⟨rfl, by kernel_rfl, by first | exact Try.underlying3 | exact Try.underlying4⟩
      · obtain rfl := Option.some.inj hj; exact ⟨rfl, by kernel_rfl, by first | exact Try.underlying3 | exact Try.underlying4⟩
      · obtain rfl := Option.some.inj hj; exact ⟨rfl, by kernel_rfl, by first | exact Try.underlying3 | exact Try.underlying4⟩
      · obtain rfl := Option.some.inj hj; exact ⟨rfl, by kernel_rfl, by first | exact Try.underlying3 | exact Try.underlying4⟩
      · simp at hj) hf
    exact ⟨by unfold maxLen at hm; omega, z, rowsAt_of (fun j => by rcases j with _ | _ | _ | _ | j <;> rfl) hz⟩
  clear hA0 hval0
  try simp only [List.append_nil] at hW'
  refine (heapActs_walk x0 y0 x1 y1 z1 a2 len2 cap2 z2 W w2 m2).mono fun e W' ⟨he, bel⟩ => ?_
  subst he
  exact ⟨_, rfl, _, _, _, [], _, [], hW', trodAll_mk1 (shut_bool Try.underlying4 _), (trodAll_cons_mk (Below.trod laidOut (by kernel_rfl) (of_decide_eq_true (by kernel_rfl)) k0 bel lt0) (trodAll_cons_mk (Below.trod laidOut (by kernel_rfl) (of_decide_eq_true (by kernel_rfl)) k1 bel lt1) (trodAll_cons_mk (Below.trod laidOut (by kernel_rfl) (of_decide_eq_true (by kernel_rfl)) k2 bel lt2) (trodAll_mk0)))), rfl, bel.frame _, fun h => by cases h⟩

theorem over : Rows.heapActsRow.holds Try.pinned (OpenSpec.ofChange Rows.heapActsSpec) :=
  OpenClaim.holds_of_wide 15 Try.f15 rfl rfl rfl rfl rfl rfl rfl ⟨rfl, rfl, rfl, rfl, rfl⟩ rfl rfl rfl rfl rfl (by kernel_rfl) Try.func15 (by kernel_rfl)
    (of_decide_eq_true (by kernel_rfl)) (by unfold Func.isWrapper; first | (rw [if_pos (by decide +kernel)]; kernel_rfl) | (rw [if_neg (by decide +kernel)]; exact ⟨rfl, rfl⟩))
    (fun os started H enc _ => lifted os started H enc)

theorem proved : Rows.HeapActsSaid := over
#print axioms proved
end Go.Proofs.Ytikahcbkeempdaa.lpHeapActs
