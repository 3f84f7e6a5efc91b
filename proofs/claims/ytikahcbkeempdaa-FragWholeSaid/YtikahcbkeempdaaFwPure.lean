/- For FragWhole: all frames taken one by one, each second one given back: plain facts. -/
import Derived.Test.YtikahcbkeempdaaFrag4
import Derived.Test.YtikahcbkeempdaaLwFits
namespace Go.Proofs.Ytikahcbkeempdaa

theorem inv_nodup {n : Nat} {T F} (I : Bu.Inv n T F) : T.Nodup := I.disj.imp fun {s t} h e => by
  subst e
  have := Bu.pos2 s.2
  exact h s.1 ((Bu.cov_iff _ _).2 ⟨Nat.le_refl _, by omega⟩) ((Bu.cov_iff _ _).2 ⟨Nat.le_refl _, by omega⟩)

/-- The even frames below 2 j are given. -/
def Alt (n j : Nat) (T : List (Nat × Nat)) : Prop := (∀ t, t ∈ T ↔ ∃ x, t = (x, 0) ∧ x < n ∧ (x % 2 = 1 ∨ 2 * j ≤ x)) ∧ Bu.sumT T + j = n

theorem alt_zero (n : Nat) : Alt n 0 (Bu.lowT n 0) := by
  refine ⟨fun t => ?_, ?_⟩
  · simp only [Bu.lowT, List.mem_map, List.mem_range, Nat.pow_zero, Nat.mul_one]
    constructor
    · rintro ⟨x, hx, rfl⟩; exact ⟨x, rfl, hx, .inr (by omega)⟩
    · rintro ⟨x, rfl, hx, _⟩; exact ⟨x, hx, rfl⟩
  · rw [Bu.lowT_sum]; simp
theorem alt_mem {n j : Nat} {T} (h : Alt n j T) (hj : 2 * j < n) : (2 * j, 0) ∈ T := (h.1 _).2 ⟨2 * j, rfl, hj, .inr (Nat.le_refl _)⟩
theorem alt_succ {n j : Nat} {T F} (h : Alt n j T) (I : Bu.Inv n T F) (hj : 2 * j < n) : Alt n (j + 1) (T.erase (2 * j, 0)) := by
  refine ⟨fun t => ?_, ?_⟩
  · rw [(inv_nodup I).mem_erase_iff, h.1]
    constructor
    · rintro ⟨hne, x, rfl, hx, hc⟩
      refine ⟨x, rfl, hx, ?_⟩
      rcases hc with hc | hc
      · exact .inl hc
      · by_cases e : x = 2 * j
        · exact absurd (by rw [e]) hne
        · by_cases e2 : x % 2 = 1
          · exact .inl e2
          · exact .inr (by omega)
    · rintro ⟨x, rfl, hx, hc⟩
      refine ⟨fun e => ?_, x, rfl, hx, by omega⟩
      have : x = 2 * j := (Prod.mk.inj e).1
      omega
  · have := Bu.sumT_erase (alt_mem h hj)
    have := h.2
    simp at *
    omega

theorem alt_end {m : Nat} {T F} (I : Bu.Inv (2 * m) T F) (h : Alt (2 * m) m T) : (∀ j, 1 ≤ j → j ≤ 10 → F j = []) ∧ (F 0).length = m := by
  have h1 : ∀ j, 1 ≤ j → j ≤ 10 → F j = [] := fun j h1 h2 => by
    cases hF : F j with
    | nil => rfl
    | cons x l =>
      exfalso
      have hx : x ∈ F j := by rw [hF]; simp
      have hfr := I.free j h2 x hx
      have hal := I.al j h2 x hx
      have hp : 2 ≤ 2 ^ j := by
        have := Bu.pow_mono (i := 1) h1
        simpa using this
      have hev : x % 2 = 0 := by
        have := Bu.mod_mono (i := 1) h1 hal.1
        simpa using this
      have hu := hfr (x + 1) (by omega) (by omega)
      have hm : (x + 1, 0) ∈ T := (h.1 _).2 ⟨x + 1, rfl, by omega, .inl (by omega)⟩
      have := Bu.used_of_cov (x := x + 1) hm ((Bu.cov_iff _ _).2 ⟨Nat.le_refl _, by simp⟩)
      rw [hu] at this
      cases this
  refine ⟨h1, ?_⟩
  have hs := I.sum
  have h2 := h.2
  have h3 : Bu.sumF F 11 = (F 0).length := by
    simp [Bu.sumF, h1 1, h1 2, h1 3, h1 4, h1 5, h1 6, h1 7, h1 8, h1 9, h1 10]
  omega

theorem alt_sum {F : Nat → List Nat} (h : ∀ j, 1 ≤ j → j ≤ 10 → F j = []) : ∀ o, 1 ≤ o → o ≤ 11 → Bu.sumF F o = (F 0).length
  | 0, h1, _ => by omega
  | 1, _, _ => by simp [Bu.sumF]
  | o + 2, _, h2 => by
    have ih := alt_sum h (o + 1) (by omega) (by omega)
    show Bu.sumF F (o + 1) + (F (o + 1)).length * 2 ^ (o + 1) = _
    rw [ih, h (o + 1) (by omega) (by omega)]
    simp
theorem alt_fit {F : Nat → List Nat} (h : ∀ j, 1 ≤ j → j ≤ 10 → F j = []) {o : Nat} (h1 : 1 ≤ o) (h2 : o ≤ 10) : fitF (cntF F) o (11 - o) = 0 :=
  fit_none (Bu.pick_nil fun j j1 j2 => h j (by omega) j2) (11 - o) (by omega)
theorem alt_best {F : Nat → List Nat} (h : ∀ j, 1 ≤ j → j ≤ 10 → F j = []) (h0 : 0 < (F 0).length) : bestTo (cntF F) 11 = 0 := by
  simp [bestTo, cntF, h 1, h 2, h 3, h 4, h 5, h 6, h 7, h 8, h 9, h 10, h0]

theorem newF_facts {k : Nat} (hk : k ≤ 10) : Bu.sumF (Bu.newF (2 ^ k)) k = 0 ∧ bestTo (cntF (Bu.newF (2 ^ k))) 11 = (k : Int) ∧ Bu.sumF (Bu.newF (2 ^ k)) 11 = 2 ^ k := by
  have : k = 0 ∨ k = 1 ∨ k = 2 ∨ k = 3 ∨ k = 4 ∨ k = 5 ∨ k = 6 ∨ k = 7 ∨ k = 8 ∨ k = 9 ∨ k = 10 := by omega
  rcases this with rfl | rfl | rfl | rfl | rfl | rfl | rfl | rfl | rfl | rfl | rfl <;> exact ⟨by decide, by decide, by decide⟩

end Go.Proofs.Ytikahcbkeempdaa
