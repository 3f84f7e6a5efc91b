/- The plain law of the buddy: which run is taken; runs of one order from a whole buddy. No program in sight. -/
import Derived.Test.YtikahcbkeempdaaBuStep
namespace Go.Proofs.Ytikahcbkeempdaa
namespace Bu

/-- The least order from o on of which there is a free run (fuel d), and its first run. -/
def pickFrom (F : Nat → List Nat) (k : Nat) : Nat → Option (Nat × Nat)
  | 0 => none
  | d + 1 => match F k with
    | a :: _ => some (k, a)
    | [] => pickFrom F (k + 1) d
def pick (F : Nat → List Nat) (o : Nat) : Option (Nat × Nat) := pickFrom F o (11 - o)

theorem pickFrom_some {F : Nat → List Nat} {k' a : Nat} : ∀ {d k : Nat}, pickFrom F k d = some (k', a) → k ≤ k' ∧ k' < k + d ∧ (∃ l, F k' = a :: l) ∧ ∀ j, k ≤ j → j < k' → F j = []
  | 0, k, h => by cases h
  | d + 1, k, h => by
    unfold pickFrom at h
    split at h
    · rename_i a' l hl
      cases h
      exact ⟨Nat.le_refl _, by omega, ⟨l, hl⟩, fun j h1 h2 => by omega⟩
    · rename_i hl
      obtain ⟨h1, h2, h3, h4⟩ := pickFrom_some h
      refine ⟨by omega, by omega, h3, fun j j1 j2 => ?_⟩
      by_cases e : j = k
      · subst e; exact hl
      · exact h4 j (by omega) j2

theorem pickFrom_none {F : Nat → List Nat} : ∀ {d k : Nat}, pickFrom F k d = none → ∀ j, k ≤ j → j < k + d → F j = []
  | 0, k, _, j, h1, h2 => by omega
  | d + 1, k, h, j, h1, h2 => by
    unfold pickFrom at h
    split at h
    · cases h
    · rename_i hl
      by_cases e : j = k
      · subst e; exact hl
      · exact pickFrom_none h j (by omega) (by omega)

theorem pick_some {F : Nat → List Nat} {o k a : Nat} (h : pick F o = some (k, a)) : o ≤ k ∧ k ≤ 10 ∧ (∃ l, F k = a :: l) ∧ ∀ j, o ≤ j → j < k → F j = [] := by
  obtain ⟨h1, h2, h3, h4⟩ := pickFrom_some h
  exact ⟨h1, by omega, h3, h4⟩
theorem pick_none {F : Nat → List Nat} {o : Nat} (h : pick F o = none) : ∀ j, o ≤ j → j ≤ 10 → F j = [] := fun j h1 h2 => pickFrom_none h j h1 (by omega)

theorem pickFrom_mk {F : Nat → List Nat} {k' a : Nat} {l : List Nat} (hl : F k' = a :: l) : ∀ {d k : Nat}, k ≤ k' → k' < k + d → (∀ j, k ≤ j → j < k' → F j = []) → pickFrom F k d = some (k', a)
  | 0, k, h1, h2, _ => by omega
  | d + 1, k, h1, h2, h3 => by
    unfold pickFrom
    by_cases e : k = k'
    · subst e; rw [hl]
    · rw [h3 k (Nat.le_refl _) (by omega)]
      exact pickFrom_mk hl (by omega) (by omega) (fun j j1 j2 => h3 j (by omega) j2)
theorem pick_mk {F : Nat → List Nat} {o k a : Nat} {l : List Nat} (hl : F k = a :: l) (h1 : o ≤ k) (h2 : k ≤ 10) (h3 : ∀ j, o ≤ j → j < k → F j = []) : pick F o = some (k, a) :=
  pickFrom_mk hl h1 (by omega) h3
theorem pickFrom_nil {F : Nat → List Nat} : ∀ {d k : Nat}, (∀ j, k ≤ j → j < k + d → F j = []) → pickFrom F k d = none
  | 0, _, _ => rfl
  | d + 1, k, h => by
    unfold pickFrom
    rw [h k (Nat.le_refl _) (by omega)]
    exact pickFrom_nil fun j h1 h2 => h j (by omega) (by omega)
theorem pick_nil {F : Nat → List Nat} {o : Nat} (h : ∀ j, o ≤ j → j ≤ 10 → F j = []) : pick F o = none := pickFrom_nil fun j h1 h2 => h j h1 (by omega)

section
variable {n : Nat} {T : List (Nat × Nat)} {F : Nat → List Nat}

theorem Inv.take_pick (I : Inv n T F) {o k a : Nat} (h : pick F o = some (k, a)) : Inv n (T ++ [(a, o)]) (takeF F k o a) := by
  obtain ⟨h1, h2, ⟨l, hl⟩, h4⟩ := pick_some h
  exact I.take h1 h2 h4 (by rw [hl]; simp)

theorem Inv.n_le (I : Inv n T F) : n ≤ 1024 := by
  obtain ⟨N, hN, rfl⟩ := I.pow
  exact Nat.pow_le_pow_right (n := 2) (by omega) hN
theorem Inv.sum_le (I : Inv n T F) : sumF F 11 ≤ 1024 := by have := I.sum; have := I.n_le; omega
theorem Inv.len_le (I : Inv n T F) {k : Nat} (hk : k ≤ 10) : (F k).length ≤ 1024 := Nat.le_trans (sumF_le F k 11 (by omega)) I.sum_le
theorem length_le_sumT : ∀ T : List (Nat × Nat), T.length ≤ sumT T
  | [] => Nat.le_refl _
  | t :: T => by
    have := length_le_sumT T
    have := pos2 t.2
    simp only [sumT, List.map_cons, List.sum_cons, List.length_cons] at *
    omega
theorem Inv.T_le (I : Inv n T F) : T.length ≤ 1024 := by have := I.sum; have := I.n_le; have := length_le_sumT T; omega
theorem Inv.mem_le (I : Inv n T F) {k a : Nat} (hk : k ≤ 10) (h : a ∈ F k) : a < 1024 := by
  have := (I.al k hk a h).2
  have := I.n_le
  have := pos2 k
  omega
theorem Inv.not_taken (I : Inv n T F) {k a : Nat} (hk : k ≤ 10) (h : a ∈ F k) : a ∉ T.map (·.1) := fun hm => by
  obtain ⟨t, ht, e⟩ := List.mem_map.1 hm
  have e : t.1 = a := e
  have hc : cov a t = true := (cov_iff a t).2 ⟨by omega, by have := pos2 t.2; omega⟩
  have := I.free k hk a h a (Nat.le_refl _) (by have := pos2 k; omega)
  rw [used_of_cov ht hc] at this
  cases this
theorem Inv.runs_len (I : Inv n T F) {k : Nat} (hk : k ≤ 10) : (F k).length = (runs n T k).length := by rw [I.runs_eq hk]

theorem pickFrom_congr {F G : Nat → List Nat} : ∀ {d k : Nat}, (∀ j, k ≤ j → j < k + d → F j = G j) → pickFrom F k d = pickFrom G k d
  | 0, _, _ => rfl
  | d + 1, k, h => by
    unfold pickFrom
    rw [h k (Nat.le_refl _) (by omega), pickFrom_congr (d := d) fun j h1 h2 => h j (by omega) (by omega)]
theorem pick_congr {F G : Nat → List Nat} (h : ∀ j, j ≤ 10 → F j = G j) (o : Nat) : pick F o = pick G o := pickFrom_congr fun j h1 h2 => h j (by omega)
theorem Inv.same (I : Inv n T F) {G : Nat → List Nat} (J : Inv n T G) : ∀ j, j ≤ 10 → F j = G j := fun j hj => by rw [I.runs_eq hj, J.runs_eq hj]
theorem Inv.notin (I : Inv n T F) {k a o : Nat} (hk : k ≤ 10) (h : a ∈ F k) : (a, o) ∉ T := fun hm => I.not_taken hk h (List.mem_map_of_mem hm)
theorem erase_last {T : List (Nat × Nat)} {t : Nat × Nat} (h : t ∉ T) : (T ++ [t]).erase t = T := by
  rw [List.erase_append_right _ h]; simp
theorem sumT_snoc (T : List (Nat × Nat)) (a o : Nat) : sumT (T ++ [(a, o)]) = sumT T + 2 ^ o := by simp [sumT]

/-! ### runs of one order, from a whole buddy -/
def lowT (i o : Nat) : List (Nat × Nat) := (List.range i).map fun j => (j * 2 ^ o, o)
theorem lowT_succ (i o : Nat) : lowT (i + 1) o = lowT i o ++ [(i * 2 ^ o, o)] := by simp [lowT, List.range_succ]
theorem lowT_sum (o : Nat) : ∀ i, sumT (lowT i o) = i * 2 ^ o
  | 0 => by simp [lowT, sumT]
  | i + 1 => by
    rw [lowT_succ]
    have := lowT_sum o i
    simp only [sumT, List.map_append, List.sum_append, List.map_cons, List.map_nil, List.sum_cons, List.sum_nil] at *
    rw [this, Nat.add_mul]; omega
theorem lowT_used (i o x : Nat) : used (lowT i o) x = decide (x < i * 2 ^ o) := by
  rw [Bool.eq_iff_iff, decide_eq_true_eq]
  unfold used lowT
  rw [List.any_map, List.any_eq_true]
  constructor
  · rintro ⟨j, hj, hc⟩
    have h := (cov_iff _ _).1 hc
    simp only at h
    have hj := List.mem_range.1 hj
    have : (j + 1) * 2 ^ o ≤ i * 2 ^ o := Nat.mul_le_mul_right _ hj
    rw [Nat.add_mul] at this
    omega
  · intro h
    refine ⟨x / 2 ^ o, List.mem_range.2 ((Nat.div_lt_iff_lt_mul (pos2 o)).2 h), ?_⟩
    show cov x (x / 2 ^ o * 2 ^ o, o) = true
    exact (cov_iff _ _).2 (start_blk rfl)

theorem low_pick {i o : Nat} (I : Inv n (lowT i o) F) (h : (i + 1) * 2 ^ o ≤ n) (ho : o ≤ 10) : ∃ k, pick F o = some (k, i * 2 ^ o) := by
  have hpo := pos2 o
  obtain ⟨N, hN, hn⟩ := I.pow
  generalize hx : i * 2 ^ o = x at *
  have hxn : x + 2 ^ o ≤ n := by rw [Nat.add_mul] at h; omega
  have hused : ∀ y, used (lowT i o) y = decide (y < x) := fun y => by rw [lowT_used, hx]
  obtain ⟨k, hk, hm⟩ := I.cover x (by omega) (by rw [hused]; simp)
  have hsb := start_blk (x := x) (k := k) (a := x / 2 ^ k * 2 ^ k) rfl
  have hge : ∀ j, j ≤ 10 → ∀ a ∈ F j, x ≤ a := fun j hj a ha => by
    have := I.free j hj a ha a (Nat.le_refl _) (by have := pos2 j; omega)
    rw [hused] at this
    simpa using this
  have hxe : x / 2 ^ k * 2 ^ k = x := Nat.le_antisymm hsb.1 (hge k hk _ hm)
  rw [hxe] at hm
  have hko : o ≤ k := by
    have hb : blk n (lowT i o) o i = true := (blk_iff _ _ _ _).2 ⟨h, fun y hy => by
      have := (in_block y o i).1 hy
      rw [hused]; simp; omega⟩
    obtain ⟨d, hd, hmd⟩ := I.up o ho i hb
    have e1 : x / 2 ^ (o + d) = i / 2 ^ d := by rw [div_pow_add, ← hx, Nat.mul_div_cancel _ hpo]
    have := I.one k (o + d) hk hd x (by rw [hxe]; exact hm) (by rw [e1]; exact hmd)
    omega
  have hal := I.al k hk x hm
  refine ⟨k, ?_⟩
  cases hl : F k with
  | nil => rw [hl] at hm; cases hm
  | cons a l =>
    have ha : a = x := by
      have h1 := hge k hk a (by rw [hl]; simp)
      have h2 := I.rising k hk
      rw [hl] at h2 hm
      unfold Rising at h2
      rw [List.pairwise_cons] at h2
      rcases List.mem_cons.1 hm with e | e
      · exact e.symm
      · have := h2.1 x e; omega
    subst ha
    refine pick_mk hl hko hk fun j j1 j2 => ?_
    cases hj : F j with
    | nil => rfl
    | cons s m =>
      exfalso
      have hs : s ∈ F j := by rw [hj]; simp
      have hsal := I.al j (by omega) s hs
      have hsx := hge j (by omega) s hs
      have hs2 : a + 2 ^ k ≤ s := by
        rcases Nat.lt_or_ge s (a + 2 ^ k) with hlt | hge'
        · have e1 := blk_start hal.1 hsx hlt
          have e2 : s / 2 ^ j * 2 ^ j = s := mul_mod_zero hsal.1
          have := I.one j k (by omega) hk s (by rw [e2]; exact hs) (by rw [e1]; exact hm)
          omega
        · exact hge'
      have hq : s / 2 ^ j * 2 ^ j ∈ F j := by rw [mul_mod_zero hsal.1]; exact hs
      have hrun := (I.mem_iff (by omega) (s / 2 ^ j)).1 hq
      unfold isRun at hrun
      rw [Bool.and_eq_true, Bool.or_eq_true, beq_iff_eq, Bool.not_eq_true'] at hrun
      rcases hrun.2 with e | e
      · omega
      · have hpar : blk n (lowT i o) (j + 1) (s / 2 ^ j / 2) = true := by
          have hd : 2 ^ (j + 1) ∣ a + 2 ^ k := Nat.dvd_add (Nat.dvd_trans (Nat.pow_dvd_pow 2 (by omega)) (Nat.dvd_of_mod_eq_zero hal.1)) (Nat.pow_dvd_pow 2 (by omega))
          obtain ⟨c, hc⟩ := hd
          have hc' : c ≤ s / 2 ^ (j + 1) := (Nat.le_div_iff_mul_le (pos2 (j + 1))).2 (by rw [Nat.mul_comm, ← hc]; exact hs2)
          refine (blk_iff _ _ _ _).2 ⟨?_, fun y hy => ?_⟩
          · have hjN : j + 1 ≤ N := by
              have : 2 ^ k ≤ 2 ^ N := by rw [← hn]; omega
              rcases Nat.lt_or_ge N k with hlt | hge'
              · have := Nat.pow_lt_pow_right (a := 2) (by omega) hlt; omega
              · omega
            have hlt : s / 2 ^ (j + 1) < 2 ^ (N - (j + 1)) := by
              rw [Nat.div_lt_iff_lt_mul (pos2 (j + 1)), ← Nat.pow_add, show N - (j + 1) + (j + 1) = N by omega, ← hn]
              have := pos2 j
              omega
            rw [← div_pow_succ]
            have : (s / 2 ^ (j + 1) + 1) * 2 ^ (j + 1) ≤ 2 ^ (N - (j + 1)) * 2 ^ (j + 1) := Nat.mul_le_mul_right _ hlt
            rwa [← Nat.pow_add, show N - (j + 1) + (j + 1) = N by omega, ← hn] at this
          · rw [← div_pow_succ] at hy
            have h1 := ((in_block y (j + 1) _).1 hy).1
            have h2 : c * 2 ^ (j + 1) ≤ s / 2 ^ (j + 1) * 2 ^ (j + 1) := Nat.mul_le_mul_right _ hc'
            rw [hused]
            simp only [decide_eq_false_iff_not]
            rw [Nat.mul_comm] at hc
            omega
        rw [hpar] at e
        cases e

theorem full_none (I : Inv n T F) (hu : ∀ x, x < n → used T x = true) (j : Nat) (hj : j ≤ 10) : F j = [] := by
  cases hl : F j with
  | nil => rfl
  | cons a l =>
    have ha : a ∈ F j := by rw [hl]; simp
    have h1 := I.free j hj a ha a (Nat.le_refl _) (by have := pos2 j; omega)
    have h2 := (I.al j hj a ha).2
    rw [hu a (by have := pos2 j; omega)] at h1
    cases h1
end

end Bu
end Go.Proofs.Ytikahcbkeempdaa
