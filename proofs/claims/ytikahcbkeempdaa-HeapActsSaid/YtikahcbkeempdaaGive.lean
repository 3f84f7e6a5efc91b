/- Give: a run is free again. -/
import Derived.Test.YtikahcbkeempdaaTake
import Derived.Deep.QuietTactic
import Derived.BigQuiet
namespace Go.Proofs.Ytikahcbkeempdaa
open Go.RowKit Go.Maps

def GivePost (w : World) (b n : Nat) (F' : Nat → List Nat) (T' : List (Nat × Nat)) (e : Ending) (w' : World) : Prop :=
  e = .returned (.int .i64 0) ∧ Bud w' b n F' T' ∧ Kept b (b + 13) w w'

theorem takAt_mem {T : List (Nat × Nat)} (h : (T.map (·.1)).Nodup) {t : Nat × Nat} (ht : t ∈ T) : takAt T (t.1 : Int) = t.2 := by
  unfold takAt
  cases hf : T.find? (fun u => decide ((u.1 : Int) = (t.1 : Int))) with
  | none =>
    have := List.find?_eq_none.1 hf t ht
    simp at this
  | some u =>
    have h1 := List.find?_some hf
    have h2 := List.mem_of_find?_eq_some hf
    simp only [decide_eq_true_eq] at h1
    have e : u.1 = t.1 := by omega
    have : u = t := by
      clear hf
      induction T with
      | nil => cases ht
      | cons x T ih =>
        rw [List.map_cons, List.nodup_cons] at h
        rcases List.mem_cons.1 ht with rfl | ht' <;> rcases List.mem_cons.1 h2 with rfl | h2'
        · rfl
        · exact absurd (e ▸ List.mem_map_of_mem h2') h.1
        · exact absurd (e.symm ▸ List.mem_map_of_mem ht') h.1
        · exact ih h.2 ht' h2'
    rw [this]

set_option maxHeartbeats 400000 in
theorem give_no (a : Addr) (x o : Int) (w : World) (h : o < 0 ∨ 10 < o) :
    Calls Try.prog 33 #[.pointer (some a), .int .i64 x, .int .i64 o] w fun e w' => e = .returned (.int .i64 1) ∧ w = w' := by
  have H := Lib.hid h
  clear h
  go_enter Try.func33, Try.ntmps33
  go_wp2_with (go_at_call 68; refine (right_no _ _ _ H.out).mono ?_; rintro e w' ⟨rfl, rfl⟩)
  go_ret
  exact ⟨rfl, rfl⟩

set_option maxHeartbeats 400000 in
theorem give_nil (x o : Int) (w : World) :
    Calls Try.prog 33 #[.pointer none, .int .i64 x, .int .i64 o] w fun e w' => e = .returned (.int .i64 1) ∧ w = w' := by
  go_enter Try.func33, Try.ntmps33
  go_wp2_with (go_at_call 68; refine (right_nil _ _).mono ?_; rintro e w' ⟨rfl, rfl⟩)
  go_ret
  exact ⟨rfl, rfl⟩

theorem takAt_false {T : List (Nat × Nat)} {x : Int} (h : memZ (T.map (·.1)) x = false) : takAt T x = 0 := by
  unfold takAt
  cases hf : T.find? (fun u => decide ((u.1 : Int) = x)) with
  | none => rfl
  | some u =>
    have h1 := List.find?_some hf
    have h2 := List.mem_of_find?_eq_some hf
    simp only [decide_eq_true_eq] at h1
    have : memZ (T.map (·.1)) x = true := by
      unfold memZ
      exact List.any_eq_true.2 ⟨u.1, List.mem_map_of_mem h2, by simpa using h1⟩
    rw [this] at h
    cases h

set_option maxHeartbeats 400000 in
theorem give_bad {w : World} {b n : Nat} {F T} (hB : Bud w b n F T) (x : Int) (o : Nat) (ho : o ≤ 10) (hx : (Lit.int .i64 x).wf = true) (hbad : ∀ t ∈ T, ¬ ((t.1 : Int) = x ∧ t.2 = o)) :
    Calls Try.prog 33 #[.pointer (some ⟨b + 1, 0, none⟩), .int .i64 x, .int .i64 (o : Int)] w fun e w' => e = .returned (.int .i64 6) ∧ w = w' := by
  have hct := hB.ct
  have hlk := hB.tak.lookup hx
  have hcase : memZ (T.map (·.1)) x = false ∨ (memZ (T.map (·.1)) x = true ∧ (takAt T x == (o : Int)) = false) := by
    cases hm : memZ (T.map (·.1)) x with
    | false => exact .inl rfl
    | true =>
      refine .inr ⟨rfl, ?_⟩
      unfold memZ at hm
      rw [List.any_map, List.any_eq_true] at hm
      obtain ⟨t, ht, e⟩ := hm
      have e : (t.1 : Int) = x := by simpa using e
      rw [← e, takAt_mem hB.tak.1 ht]
      have := hbad t ht
      rw [beq_eq_false_iff_ne]
      intro h
      exact this ⟨e, by omega⟩
  clear hbad hx
  generalize memZ (T.map (·.1)) x = m at *
  generalize takAt T x = q at *
  rcases hcase with rfl | ⟨rfl, hq⟩
  · go_enter Try.func33, Try.ntmps33
    go_wp2_with (go_at_call 68; refine (right_yes _ _ _ (by omega) (by omega)).mono ?_; rintro e w' ⟨rfl, rfl⟩)
    go_ret
    exact ⟨rfl, rfl⟩
  · have hq' : (q != (o : Int)) = true := by rw [bne, hq]; rfl
    go_enter Try.func33, Try.ntmps33
    go_wp2_with (go_at_call 68; refine (right_yes _ _ _ (by omega) (by omega)).mono ?_; rintro e w' ⟨rfl, rfl⟩)
    go_ret
    exact ⟨rfl, rfl⟩

end Go.Proofs.Ytikahcbkeempdaa
