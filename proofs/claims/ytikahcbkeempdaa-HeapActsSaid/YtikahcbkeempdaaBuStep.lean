/- The plain law of the buddy: a run is taken, a run is given; the invariant stays. No program in sight. -/
import Derived.Test.YtikahcbkeempdaaBuPure
namespace Go.Proofs.Ytikahcbkeempdaa
namespace Bu

theorem used_append (T : List (Nat × Nat)) (t : Nat × Nat) (x : Nat) : used (T ++ [t]) x = (used T x || cov x t) := by
  simp [used, List.any_append]

theorem upd_same (F : Nat → List Nat) (k : Nat) (l) : upd F k l k = l := by simp [upd]
theorem upd_ne (F : Nat → List Nat) {k j : Nat} (l) (h : j ≠ k) : upd F k l j = F j := by simp [upd, h]

theorem sumF_congr {F G : Nat → List Nat} : ∀ m, (∀ j, j < m → (F j).length = (G j).length) → sumF F m = sumF G m
  | 0, _ => rfl
  | m + 1, h => by
    simp only [sumF]
    rw [sumF_congr m (fun j hj => h j (by omega)), h m (by omega)]

theorem sumF_upd (F : Nat → List Nat) (k : Nat) (l : List Nat) : ∀ m, k < m → sumF (upd F k l) m + (F k).length * 2 ^ k = sumF F m + l.length * 2 ^ k
  | 0, h => by omega
  | m + 1, h => by
    simp only [sumF]
    by_cases e : k = m
    · subst e
      rw [upd_same, sumF_congr (F := upd F k l) (G := F) k (fun j hj => by rw [upd_ne _ _ (by omega)])]
      omega
    · rw [upd_ne _ _ (Ne.symm e)]
      have := sumF_upd F k l m (by omega)
      omega

theorem sumF_le (F : Nat → List Nat) (k : Nat) : ∀ m, k < m → (F k).length ≤ sumF F m
  | 0, h => by omega
  | m + 1, h => by
    simp only [sumF]
    by_cases e : k = m
    · subst e
      have := Nat.le_mul_of_pos_right (F k).length (pos2 k)
      omega
    · have := sumF_le F k m (by omega)
      omega

theorem sumF_mono (F : Nat → List Nat) {j m : Nat} (h : j ≤ m) : sumF F j ≤ sumF F m := by
  induction m with
  | zero => rw [show j = 0 by omega]; exact Nat.le_refl _
  | succ m ih =>
    simp only [sumF]
    by_cases e : j = m + 1
    · subst e; simp only [sumF]; exact Nat.le_refl _
    · have := ih (by omega)
      omega

/-! ### Take -/

def splitF (a order : Nat) : Nat → (Nat → List Nat) → Nat → List Nat
  | 0, F => F
  | d + 1, F => splitF a order d (upd F (order + d) (ins (a + 2 ^ (order + d)) (F (order + d))))

def takeF (F : Nat → List Nat) (k order a : Nat) : Nat → List Nat := splitF a order (k - order) (upd F k ((F k).erase a))

theorem splitF_at (a order : Nat) : ∀ d F j, splitF a order d F j = if order ≤ j ∧ j < order + d then ins (a + 2 ^ j) (F j) else F j
  | 0, F, j => by rw [if_neg (by omega)]; rfl
  | d + 1, F, j => by
    simp only [splitF]
    rw [splitF_at a order d]
    by_cases e : j = order + d
    · subst e
      rw [if_neg (by omega), if_pos (by omega), upd_same]
    · rw [upd_ne _ _ e]
      by_cases h : order ≤ j ∧ j < order + d
      · rw [if_pos h, if_pos (by omega)]
      · rw [if_neg h, if_neg (by omega)]

theorem takeF_at {F : Nat → List Nat} {k order a : Nat} (hok : order ≤ k) (hnone : ∀ j, order ≤ j → j < k → F j = []) (j : Nat) :
    takeF F k order a j = if j = k then (F k).erase a else if order ≤ j ∧ j < k then [a + 2 ^ j] else F j := by
  unfold takeF
  rw [splitF_at, show order + (k - order) = k by omega]
  by_cases e : j = k
  · subst e
    rw [if_neg (by omega), if_pos rfl, upd_same]
  · rw [if_neg e, upd_ne _ _ e]
    by_cases h : order ≤ j ∧ j < k
    · rw [if_pos h, if_pos h, hnone j h.1 h.2]; rfl
    · rw [if_neg h, if_neg h]

theorem sumF_split (a order : Nat) : ∀ d F, order + d ≤ 10 → (∀ j, order ≤ j → j < order + d → a + 2 ^ j ∉ F j) → sumF (splitF a order d F) 11 + 2 ^ order = sumF F 11 + 2 ^ (order + d)
  | 0, F, _, _ => rfl
  | d + 1, F, h, hn => by
    simp only [splitF]
    have h1 := sumF_split a order d (upd F (order + d) (ins (a + 2 ^ (order + d)) (F (order + d)))) (by omega) (fun j h1 h2 => by
      rw [upd_ne _ _ (by omega)]; exact hn j h1 (by omega))
    have h2 := sumF_upd F (order + d) (ins (a + 2 ^ (order + d)) (F (order + d))) 11 (by omega)
    rw [length_ins _ _ (hn _ (by omega) (by omega))] at h2
    rw [Nat.add_mul] at h2
    have h3 : 2 ^ (order + (d + 1)) = 2 ^ (order + d) + 2 ^ (order + d) := by rw [← Nat.add_assoc, Nat.pow_succ]; omega
    omega

theorem pow_mono {i j : Nat} (h : i ≤ j) : 2 ^ i ≤ 2 ^ j := Nat.pow_le_pow_right (by omega) h
theorem pow_lt {i j : Nat} (h : 2 ^ i < 2 ^ j) : i < j := by
  rcases Nat.lt_or_ge i j with h' | h'
  · exact h'
  · have := pow_mono h'; omega

theorem log_ex (y o : Nat) (h1 : 2 ^ o ≤ y) : ∀ k, y < 2 ^ k → ∃ i, o ≤ i ∧ i < k ∧ 2 ^ i ≤ y ∧ y < 2 ^ (i + 1)
  | 0, h => by have := pos2 o; simp at h; omega
  | k + 1, h => by
    by_cases hk : y < 2 ^ k
    · obtain ⟨i, a, b, c, d⟩ := log_ex y o h1 k hk
      exact ⟨i, a, by omega, c, d⟩
    · refine ⟨k, ?_, by omega, by omega, h⟩
      have : 2 ^ o < 2 ^ (k + 1) := by omega
      have := pow_lt this
      omega

theorem mod_mono {a i k : Nat} (h : i ≤ k) (ha : a % 2 ^ k = 0) : a % 2 ^ i = 0 :=
  Nat.mod_eq_zero_of_dvd (Nat.dvd_trans (Nat.pow_dvd_pow 2 h) (Nat.dvd_of_mod_eq_zero ha))

/-- x lies in the block of order k that begins at a. -/
theorem blk_start {a k x : Nat} (ha : a % 2 ^ k = 0) (h1 : a ≤ x) (h2 : x < a + 2 ^ k) : x / 2 ^ k * 2 ^ k = a := by
  have e := mul_mod_zero ha
  have : x / 2 ^ k = a / 2 ^ k := (in_block _ _ _).2 ⟨by omega, by rw [Nat.add_mul]; omega⟩
  rw [this, e]

theorem start_blk {x k a : Nat} (h : x / 2 ^ k * 2 ^ k = a) : a ≤ x ∧ x < a + 2 ^ k := by
  have := (in_block x k (x / 2 ^ k)).1 rfl
  rw [Nat.add_mul] at this
  omega

section
variable {n : Nat} {T : List (Nat × Nat)} {F : Nat → List Nat}

theorem cov_iff (x : Nat) (t : Nat × Nat) : cov x t = true ↔ t.1 ≤ x ∧ x < t.1 + 2 ^ t.2 := by simp [cov]

theorem used_of_cov {x : Nat} {t : Nat × Nat} (ht : t ∈ T) (h : cov x t = true) : used T x = true := by
  unfold used; exact List.any_eq_true.2 ⟨t, ht, h⟩

theorem Inv.take (I : Inv n T F) {k order a : Nat} (hok : order ≤ k) (hk : k ≤ 10) (hnone : ∀ j, order ≤ j → j < k → F j = []) (ha : a ∈ F k) :
    Inv n (T ++ [(a, order)]) (takeF F k order a) := by
  have hat := takeF_at (a := a) hok hnone
  obtain ⟨al1, al2⟩ := I.al k hk a ha
  have hpo := pow_mono hok
  have hck : ∀ x, a ≤ x → x < a + 2 ^ k → x / 2 ^ k * 2 ^ k ∈ F k := fun x h1 h2 => by rw [blk_start al1 h1 h2]; exact ha
  have hsplit : ∀ j x, j ≤ 10 → x / 2 ^ j * 2 ^ j ∈ takeF F k order a j → (x / 2 ^ j * 2 ^ j ∈ F j ∧ ¬ (a ≤ x ∧ x < a + 2 ^ k)) ∨ ((a ≤ x ∧ x < a + 2 ^ k) ∧ order ≤ j ∧ j < k ∧ a + 2 ^ j ≤ x ∧ x < a + 2 ^ (j + 1)) := by
    intro j x hj h
    rw [hat] at h
    by_cases e : j = k
    · subst e
      rw [if_pos rfl] at h
      obtain ⟨h1, h2⟩ := (mem_erase_rising (I.rising j hj) _ _).1 h
      exact .inl ⟨h2, fun ⟨h3, h4⟩ => h1 (blk_start al1 h3 h4)⟩
    · rw [if_neg e] at h
      by_cases hr : order ≤ j ∧ j < k
      · rw [if_pos hr, List.mem_singleton] at h
        obtain ⟨h1, h2⟩ := start_blk h
        have h3 : 2 ^ (j + 1) = 2 ^ j + 2 ^ j := by rw [Nat.pow_succ]; omega
        have h4 : 2 ^ (j + 1) ≤ 2 ^ k := pow_mono (by omega)
        exact .inr ⟨⟨by omega, by omega⟩, hr.1, hr.2, h1, by omega⟩
      · rw [if_neg hr] at h
        exact .inl ⟨h, fun ⟨h3, h4⟩ => e (I.one j k hj hk x h (hck x h3 h4))⟩
  refine ⟨I.pow, ?_, ?_, ?_, ?_, ?_, ?_, ?_, ?_, ?_⟩
  · intro j hj
    rw [hat]
    split
    · exact rising_erase (I.rising k hk) _
    · split
      · simp [Rising]
      · exact I.rising j hj
  · intro j hj b hb
    rw [hat] at hb
    split at hb
    · rename_i e; subst e
      exact I.al j hj b (List.mem_of_mem_erase hb)
    · split at hb
      · rename_i hr
        rw [List.mem_singleton] at hb
        subst hb
        have h3 : 2 ^ (j + 1) = 2 ^ j + 2 ^ j := by rw [Nat.pow_succ]; omega
        have h4 : 2 ^ (j + 1) ≤ 2 ^ k := pow_mono (by omega)
        exact ⟨by rw [Nat.add_mod_right]; exact mod_mono (by omega) al1, by omega⟩
      · exact I.al j hj b hb
  · intro j hj b hb x h1 h2
    have hbm : b % 2 ^ j = 0 := by
      rw [hat] at hb
      split at hb
      · rename_i e; subst e
        exact (I.al j hj b (List.mem_of_mem_erase hb)).1
      · split at hb
        · rename_i hr
          rw [List.mem_singleton] at hb
          subst hb
          rw [Nat.add_mod_right]; exact mod_mono (by omega) al1
        · exact (I.al j hj b hb).1
    have hx := blk_start hbm h1 h2
    rw [used_append]
    rcases hsplit j x hj (by rw [hx]; exact hb) with ⟨h3, h4⟩ | ⟨⟨h3, h4⟩, h5, h6, h7, h8⟩
    · have hu := I.free j hj _ h3 x (start_blk rfl).1 (start_blk rfl).2
      rw [hu, Bool.false_or]
      cases hc : cov x (a, order) with
      | false => rfl
      | true =>
        obtain ⟨c1, c2⟩ := (cov_iff _ _).1 hc
        simp only at c1 c2
        exact absurd ⟨c1, by omega⟩ h4
    · have hu := I.free k hk a ha x h3 h4
      rw [hu, Bool.false_or]
      cases hc : cov x (a, order) with
      | false => rfl
      | true =>
        obtain ⟨c1, c2⟩ := (cov_iff _ _).1 hc
        simp only at c1 c2
        have := pow_mono h5
        omega
  · intro x hx hu
    rw [used_append, Bool.or_eq_false_iff] at hu
    obtain ⟨hu, hc⟩ := hu
    obtain ⟨j, hj, hm⟩ := I.cover x hx hu
    by_cases hin : a ≤ x ∧ x < a + 2 ^ k
    · have hx2 : a + 2 ^ order ≤ x := by
        rcases Nat.lt_or_ge x (a + 2 ^ order) with h | h
        · rw [(cov_iff _ _).2 ⟨hin.1, h⟩] at hc; cases hc
        · exact h
      obtain ⟨i, i1, i2, i3, i4⟩ := log_ex (x - a) order (by omega) k (by omega)
      refine ⟨i, by omega, ?_⟩
      rw [hat, if_neg (by omega), if_pos ⟨i1, i2⟩, List.mem_singleton]
      have h3 : 2 ^ (i + 1) = 2 ^ i + 2 ^ i := by rw [Nat.pow_succ]; omega
      exact blk_start (by rw [Nat.add_mod_right]; exact mod_mono (by omega) al1) (by omega) (by omega)
    · refine ⟨j, hj, ?_⟩
      rw [hat]
      by_cases e : j = k
      · subst e
        rw [if_pos rfl]
        refine (mem_erase_rising (I.rising j hj) _ _).2 ⟨fun e => hin ?_, hm⟩
        exact start_blk e
      · rw [if_neg e]
        by_cases hr : order ≤ j ∧ j < k
        · rw [hnone j hr.1 hr.2] at hm; cases hm
        · rw [if_neg hr]; exact hm
  · intro i j hi hj x h1 h2
    rcases hsplit i x hi h1 with ⟨a1, a2⟩ | ⟨a1, a2, a3, a4, a5⟩ <;> rcases hsplit j x hj h2 with ⟨b1, b2⟩ | ⟨b1, b2, b3, b4, b5⟩
    · exact I.one i j hi hj x a1 b1
    · exact absurd b1 a2
    · exact absurd a1 b2
    · have c1 : 2 ^ i < 2 ^ (j + 1) := by omega
      have c2 : 2 ^ j < 2 ^ (i + 1) := by omega
      have := pow_lt c1
      have := pow_lt c2
      omega
  · intro j hj q h1 h2
    rw [hat] at h1 h2
    by_cases e : j = k
    · subst e
      rw [if_pos rfl] at h1 h2
      exact I.red j hj q (List.mem_of_mem_erase h1) (List.mem_of_mem_erase h2)
    · rw [if_neg e] at h1 h2
      by_cases hr : order ≤ j ∧ j < k
      · rw [if_pos hr, List.mem_singleton] at h1 h2
        have := pos2 j
        rw [Nat.add_mul] at h2
        omega
      · rw [if_neg hr] at h1 h2
        exact I.red j hj q h1 h2
  · intro t ht
    rcases List.mem_append.1 ht with ht | ht
    · exact I.taken t ht
    · rw [List.mem_singleton] at ht
      subst ht
      exact ⟨by omega, mod_mono hok al1, by simp only; omega⟩
  · refine List.pairwise_append.2 ⟨I.disj, by simp, fun s hs t ht x c1 c2 => ?_⟩
    rw [List.mem_singleton] at ht
    subst ht
    obtain ⟨d1, d2⟩ := (cov_iff _ _).1 c2
    simp only at d1 d2
    have := I.free k hk a ha x d1 (by omega)
    rw [used_of_cov hs c1] at this
    cases this
  · have h1 := sumF_split a order (k - order) (upd F k ((F k).erase a)) (by omega) (fun j j1 j2 => by
      rw [upd_ne _ _ (by omega), hnone j j1 (by omega)]; simp)
    have h2 := sumF_upd F k ((F k).erase a) 11 (by omega)
    rw [show order + (k - order) = k by omega] at h1
    have h3 : ((F k).erase a).length + 1 = (F k).length := by
      rw [List.length_erase_of_mem ha]
      have := List.length_pos_of_mem ha
      omega
    rw [← h3, Nat.add_mul] at h2
    have h4 := I.sum
    have h5 : sumT (T ++ [(a, order)]) = sumT T + 2 ^ order := by simp [sumT]
    rw [h5]
    unfold takeF
    omega

/-! ### Give -/

def giveF : Nat → (Nat → List Nat) → Nat → Nat → Nat → List Nat
  | 0, F, a, k => upd F k (ins a (F k))
  | d + 1, F, a, k => if bud a k ∈ F k then giveF d (upd F k ((F k).erase (bud a k))) (a / 2 ^ (k + 1) * 2 ^ (k + 1)) (k + 1) else upd F k (ins a (F k))

/-- The free lists, but for one free block (a, k) that is not in them yet. -/
structure Pend (n : Nat) (T : List (Nat × Nat)) (F : Nat → List Nat) (a k : Nat) : Prop where
  pow : ∃ N, N ≤ 10 ∧ n = 2 ^ N
  k10 : k ≤ 10
  rising : ∀ k, k ≤ 10 → Rising (F k)
  al : ∀ k, k ≤ 10 → ∀ a ∈ F k, a % 2 ^ k = 0 ∧ a + 2 ^ k ≤ n
  free : ∀ k, k ≤ 10 → ∀ a ∈ F k, ∀ x, a ≤ x → x < a + 2 ^ k → used T x = false
  pal : a % 2 ^ k = 0 ∧ a + 2 ^ k ≤ n
  pfree : ∀ x, a ≤ x → x < a + 2 ^ k → used T x = false
  cover : ∀ x, x < n → used T x = false → (∃ j, j ≤ 10 ∧ x / 2 ^ j * 2 ^ j ∈ F j) ∨ (a ≤ x ∧ x < a + 2 ^ k)
  one : ∀ i j, i ≤ 10 → j ≤ 10 → ∀ x, x / 2 ^ i * 2 ^ i ∈ F i → x / 2 ^ j * 2 ^ j ∈ F j → i = j
  apart : ∀ x, a ≤ x → x < a + 2 ^ k → ∀ j, j ≤ 10 → x / 2 ^ j * 2 ^ j ∈ F j → False
  red : ∀ k, k < 10 → ∀ q, 2 * q * 2 ^ k ∈ F k → (2 * q + 1) * 2 ^ k ∈ F k → False
  taken : ∀ t ∈ T, t.2 ≤ 10 ∧ t.1 % 2 ^ t.2 = 0 ∧ t.1 + 2 ^ t.2 ≤ n
  disj : T.Pairwise fun s t => ∀ x, cov x s = true → cov x t = true → False
  sum : sumF F 11 + 2 ^ k + sumT T = n

theorem used_mono {S : List (Nat × Nat)} (h : ∀ t ∈ S, t ∈ T) {x : Nat} (hu : used T x = false) : used S x = false := by
  cases hs : used S x with
  | false => rfl
  | true =>
    obtain ⟨t, ht, hc⟩ := List.any_eq_true.1 hs
    rw [used_of_cov (h t ht) hc] at hu
    cases hu

theorem used_true {x : Nat} (h : used T x = true) : ∃ t ∈ T, cov x t = true := List.any_eq_true.1 h

theorem disj_sym (h : T.Pairwise fun s t => ∀ x, cov x s = true → cov x t = true → False) {s t : Nat × Nat} (hs : s ∈ T) (ht : t ∈ T.erase s) (x : Nat) (c1 : cov x s = true) (c2 : cov x t = true) : False := by
  induction T with
  | nil => cases hs
  | cons u T ih =>
    rw [List.pairwise_cons] at h
    rw [List.erase_cons] at ht
    split at ht
    · rename_i e
      have e : u = s := by simpa using e
      subst e
      exact h.1 t ht x c1 c2
    · rename_i e
      have hs' : s ∈ T := by
        rcases List.mem_cons.1 hs with e' | h'
        · exact absurd e' (fun e' => e (by simp [e']))
        · exact h'
      rcases List.mem_cons.1 ht with e' | h'
      · subst e'
        exact h.1 s hs' x c2 c1
      · exact ih h.2 hs' h'

theorem sumT_erase {t : Nat × Nat} : ∀ {T : List (Nat × Nat)}, t ∈ T → sumT (T.erase t) + 2 ^ t.2 = sumT T
  | u :: T, h => by
    rw [List.erase_cons]
    split
    · rename_i e
      have e : u = t := by simpa using e
      subst e
      simp only [sumT, List.map_cons, List.sum_cons]; omega
    · rename_i e
      have h' : t ∈ T := by
        rcases List.mem_cons.1 h with e' | h'
        · exact absurd e' (fun e' => e (by simp [e']))
        · exact h'
      have := sumT_erase h'
      simp only [sumT, List.map_cons, List.sum_cons] at this ⊢
      omega

theorem Inv.pend (I : Inv n T F) {a k : Nat} (ht : (a, k) ∈ T) : Pend n (T.erase (a, k)) F a k := by
  obtain ⟨t1, t2, t3⟩ := I.taken _ ht
  simp only at t1 t2 t3
  have hin : ∀ x, a ≤ x → x < a + 2 ^ k → cov x (a, k) = true := fun x h1 h2 => (cov_iff _ _).2 ⟨h1, h2⟩
  refine ⟨I.pow, t1, I.rising, I.al, fun j hj b hb x h1 h2 => used_mono (fun t h => List.mem_of_mem_erase h) (I.free j hj b hb x h1 h2), ⟨t2, t3⟩, ?_, ?_, I.one, ?_, I.red, fun t h => I.taken t (List.mem_of_mem_erase h), I.disj.sublist List.erase_sublist, ?_⟩
  · intro x h1 h2
    cases hs : used (T.erase (a, k)) x with
    | false => rfl
    | true =>
      obtain ⟨t, h, hc⟩ := used_true hs
      exact (disj_sym I.disj ht h x (hin x h1 h2) hc).elim
  · intro x hx hu
    by_cases hin' : a ≤ x ∧ x < a + 2 ^ k
    · exact .inr hin'
    · left
      refine I.cover x hx ?_
      cases hs : used T x with
      | false => rfl
      | true =>
        obtain ⟨t, h, hc⟩ := used_true hs
        by_cases e : t = (a, k)
        · subst e
          exact absurd ((cov_iff _ _).1 hc) hin'
        · have : t ∈ T.erase (a, k) := (List.mem_erase_of_ne e).2 h
          rw [used_of_cov this hc] at hu
          cases hu
  · intro x h1 h2 j hj hm
    have := I.free j hj _ hm x (start_blk rfl).1 (start_blk rfl).2
    rw [used_of_cov ht (hin x h1 h2)] at this
    cases this
  · have h1 := sumT_erase ht
    have h2 := I.sum
    simp only at h1
    omega

theorem bud_cases {a k : Nat} (ha : a % 2 ^ k = 0) : (∃ q, a = 2 * q * 2 ^ k ∧ bud a k = (2 * q + 1) * 2 ^ k ∧ a / 2 ^ (k + 1) * 2 ^ (k + 1) = 2 * q * 2 ^ k) ∨ (∃ q, a = (2 * q + 1) * 2 ^ k ∧ bud a k = 2 * q * 2 ^ k ∧ a / 2 ^ (k + 1) * 2 ^ (k + 1) = 2 * q * 2 ^ k) := by
  have e := mul_mod_zero ha
  have e1 : ∀ q, q * 2 ^ (k + 1) = 2 * q * 2 ^ k := fun q => by rw [Nat.pow_succ, Nat.mul_comm (2 ^ k) 2, ← Nat.mul_assoc, Nat.mul_comm q 2]
  unfold bud
  rw [div_pow_succ, e1]
  by_cases h : a / 2 ^ k % 2 = 0
  · left
    refine ⟨a / 2 ^ k / 2, ?_, ?_, rfl⟩
    · rw [show 2 * (a / 2 ^ k / 2) = a / 2 ^ k by omega]; exact e.symm
    · rw [if_pos h, show 2 * (a / 2 ^ k / 2) = a / 2 ^ k by omega, Nat.add_mul, e]; omega
  · right
    refine ⟨a / 2 ^ k / 2, ?_, ?_, rfl⟩
    · rw [show 2 * (a / 2 ^ k / 2) + 1 = a / 2 ^ k by omega]; exact e.symm
    · rw [if_neg h]
      have : a = (2 * (a / 2 ^ k / 2) + 1) * 2 ^ k := by rw [show 2 * (a / 2 ^ k / 2) + 1 = a / 2 ^ k by omega]; exact e.symm
      rw [Nat.add_mul] at this
      omega

theorem Pend.step {a k : Nat} (I : Pend n T F a k) (hk : k < 10) (hb : bud a k ∈ F k) : Pend n T (upd F k ((F k).erase (bud a k))) (a / 2 ^ (k + 1) * 2 ^ (k + 1)) (k + 1) := by
  have hp : 2 ^ (k + 1) = 2 ^ k + 2 ^ k := by rw [Nat.pow_succ]; omega
  have hpos := pos2 k
  obtain ⟨b1, b2⟩ := I.al k (by omega) _ hb
  obtain ⟨p1, p2⟩ := I.pal
  have hsub : ∀ j, j ≤ 10 → ∀ c, c ∈ upd F k ((F k).erase (bud a k)) j → c ∈ F j := by
    intro j hj c hc
    by_cases e : j = k
    · subst e; rw [upd_same] at hc; exact List.mem_of_mem_erase hc
    · rwa [upd_ne _ _ e] at hc
  have hpart : ∀ x, a / 2 ^ (k + 1) * 2 ^ (k + 1) ≤ x → x < a / 2 ^ (k + 1) * 2 ^ (k + 1) + 2 ^ (k + 1) → (a ≤ x ∧ x < a + 2 ^ k) ∨ (bud a k ≤ x ∧ x < bud a k + 2 ^ k) := by
    intro x h1 h2
    rcases bud_cases p1 with ⟨q, e1, e2, e3⟩ | ⟨q, e1, e2, e3⟩ <;> rw [e3] at h1 h2 <;> rw [Nat.add_mul] at * <;> omega
  have hpart' : ∀ x, (a ≤ x ∧ x < a + 2 ^ k) ∨ (bud a k ≤ x ∧ x < bud a k + 2 ^ k) → a / 2 ^ (k + 1) * 2 ^ (k + 1) ≤ x ∧ x < a / 2 ^ (k + 1) * 2 ^ (k + 1) + 2 ^ (k + 1) := by
    intro x h
    rcases bud_cases p1 with ⟨q, e1, e2, e3⟩ | ⟨q, e1, e2, e3⟩ <;> rw [e3] <;> rw [Nat.add_mul] at * <;> omega
  refine ⟨I.pow, by omega, ?_, ?_, ?_, ⟨Nat.mul_mod_left _ _, ?_⟩, ?_, ?_, ?_, ?_, ?_, I.taken, I.disj, ?_⟩
  · intro j hj
    by_cases e : j = k
    · subst e; rw [upd_same]; exact rising_erase (I.rising j hj) _
    · rw [upd_ne _ _ e]; exact I.rising j hj
  · exact fun j hj c hc => I.al j hj c (hsub j hj c hc)
  · exact fun j hj c hc => I.free j hj c (hsub j hj c hc)
  · rcases bud_cases p1 with ⟨q, e1, e2, e3⟩ | ⟨q, e1, e2, e3⟩ <;> rw [e3] <;> rw [Nat.add_mul] at * <;> omega
  · intro x h1 h2
    rcases hpart x h1 h2 with ⟨h3, h4⟩ | ⟨h3, h4⟩
    · exact I.pfree x h3 h4
    · exact I.free k (by omega) _ hb x h3 h4
  · intro x hx hu
    rcases I.cover x hx hu with ⟨j, hj, hm⟩ | h
    · by_cases e : j = k ∧ x / 2 ^ j * 2 ^ j = bud a k
      · obtain ⟨rfl, e⟩ := e
        exact .inr (hpart' x (.inr (start_blk e)))
      · left
        refine ⟨j, hj, ?_⟩
        by_cases e' : j = k
        · subst e'
          rw [upd_same]
          exact (mem_erase_rising (I.rising j hj) _ _).2 ⟨fun e'' => e ⟨rfl, e''⟩, hm⟩
        · rw [upd_ne _ _ e']; exact hm
    · exact .inr (hpart' x (.inl h))
  · exact fun i j hi hj x h1 h2 => I.one i j hi hj x (hsub i hi _ h1) (hsub j hj _ h2)
  · intro x h1 h2 j hj hm
    rcases hpart x h1 h2 with ⟨h3, h4⟩ | ⟨h3, h4⟩
    · exact I.apart x h3 h4 j hj (hsub j hj _ hm)
    · have e := blk_start b1 h3 h4
      have := I.one j k hj (by omega) x (hsub j hj _ hm) (by rw [e]; exact hb)
      subst this
      rw [upd_same, e] at hm
      exact ((mem_erase_rising (I.rising j hj) _ _).1 hm).1 rfl
  · exact fun j hj q h1 h2 => I.red j hj q (hsub j (by omega) _ h1) (hsub j (by omega) _ h2)
  · have h2 := sumF_upd F k ((F k).erase (bud a k)) 11 (by omega)
    have h3 : ((F k).erase (bud a k)).length + 1 = (F k).length := by
      rw [List.length_erase_of_mem hb]
      have := List.length_pos_of_mem hb
      omega
    rw [← h3, Nat.add_mul] at h2
    have h4 := I.sum
    omega

theorem Pend.done {a k : Nat} (I : Pend n T F a k) (hb : k < 10 → bud a k ∉ F k) : Inv n T (upd F k (ins a (F k))) := by
  obtain ⟨p1, p2⟩ := I.pal
  have hpos := pos2 k
  have hk := I.k10
  have hna : a ∉ F k := fun h => I.apart a (by omega) (by omega) k hk (by rw [blk_start p1 (by omega) (by omega)]; exact h)
  have hmem : ∀ j c, c ∈ upd F k (ins a (F k)) j ↔ c ∈ F j ∨ (j = k ∧ c = a) := by
    intro j c
    by_cases e : j = k
    · subst e
      rw [upd_same, mem_ins]
      constructor
      · rintro (h | h)
        · exact .inr ⟨rfl, h⟩
        · exact .inl h
      · rintro (h | ⟨_, h⟩)
        · exact .inr h
        · exact .inl h
    · rw [upd_ne _ _ e]
      exact ⟨.inl, fun h => h.elim id fun h => absurd h.1 e⟩
  refine ⟨I.pow, ?_, ?_, ?_, ?_, ?_, ?_, I.taken, I.disj, ?_⟩
  · intro j hj
    by_cases e : j = k
    · subst e; rw [upd_same]; exact ins_rising _ _ (I.rising j hj)
    · rw [upd_ne _ _ e]; exact I.rising j hj
  · intro j hj c hc
    rcases (hmem j c).1 hc with h | ⟨rfl, rfl⟩
    · exact I.al j hj c h
    · exact I.pal
  · intro j hj c hc x h1 h2
    rcases (hmem j c).1 hc with h | ⟨rfl, rfl⟩
    · exact I.free j hj c h x h1 h2
    · exact I.pfree x h1 h2
  · intro x hx hu
    rcases I.cover x hx hu with ⟨j, hj, hm⟩ | ⟨h1, h2⟩
    · exact ⟨j, hj, (hmem _ _).2 (.inl hm)⟩
    · exact ⟨k, hk, (hmem _ _).2 (.inr ⟨rfl, blk_start p1 h1 h2⟩)⟩
  · intro i j hi hj x h1 h2
    rcases (hmem _ _).1 h1 with f1 | ⟨e1, g1⟩ <;> rcases (hmem _ _).1 h2 with f2 | ⟨e2, g2⟩
    · exact I.one i j hi hj x f1 f2
    · subst e2
      have := start_blk g2
      exact (I.apart x this.1 this.2 i hi f1).elim
    · subst e1
      have := start_blk g1
      exact (I.apart x this.1 this.2 j hj f2).elim
    · omega
  · intro j hj q h1 h2
    rcases (hmem _ _).1 h1 with f1 | ⟨e1, g1⟩ <;> rcases (hmem _ _).1 h2 with f2 | ⟨e2, g2⟩
    · exact I.red j hj q f1 f2
    · subst e2
      refine hb hj ?_
      rcases bud_cases p1 with ⟨r, r1, r2, _⟩ | ⟨r, r1, r2, _⟩
      · have := Nat.eq_of_mul_eq_mul_right hpos (g2.trans r1); omega
      · have := Nat.eq_of_mul_eq_mul_right hpos (g2.trans r1)
        rw [r2, show r = q by omega]; exact f1
    · subst e1
      refine hb hj ?_
      rcases bud_cases p1 with ⟨r, r1, r2, _⟩ | ⟨r, r1, r2, _⟩
      · have := Nat.eq_of_mul_eq_mul_right hpos (g1.trans r1)
        rw [r2, show r = q by omega]; exact f2
      · have := Nat.eq_of_mul_eq_mul_right hpos (g1.trans r1); omega
    · subst e1
      have := Nat.eq_of_mul_eq_mul_right hpos (g1.trans g2.symm); omega
  · have h2 := sumF_upd F k (ins a (F k)) 11 (by omega)
    rw [length_ins _ _ hna, Nat.add_mul] at h2
    have h4 := I.sum
    omega

theorem Pend.give : ∀ {d : Nat} {F : Nat → List Nat} {a k : Nat}, Pend n T F a k → d + k = 10 → Inv n T (giveF d F a k)
  | 0, F, a, k, I, h => I.done (by omega)
  | d + 1, F, a, k, I, h => by
    unfold giveF
    split
    · rename_i hb
      exact Pend.give (I.step (by omega) hb) (by omega)
    · rename_i hb
      exact I.done fun _ => hb

theorem Inv.give (I : Inv n T F) {a k : Nat} (ht : (a, k) ∈ T) : Inv n (T.erase (a, k)) (giveF (10 - k) F a k) :=
  Pend.give (I.pend ht) (by have := (I.taken _ ht).1; simp only at this; omega)

end

/-! ### New -/
def newF (n : Nat) (k : Nat) : List Nat := if 2 ^ k = n then [0] else []

theorem inv_new {n N : Nat} (hN : N ≤ 10) (hn : n = 2 ^ N) : Inv n [] (newF n) := by
  have hpos := pos2 N
  have hinj : ∀ {i j : Nat}, 2 ^ i = 2 ^ j → i = j := fun {i j} h => by
    rcases Nat.lt_trichotomy i j with h' | h' | h'
    · have := Nat.pow_lt_pow_right (a := 2) (by omega) h'; omega
    · exact h'
    · have := Nat.pow_lt_pow_right (a := 2) (by omega) h'; omega
  have hm : ∀ k a, a ∈ newF n k ↔ k = N ∧ a = 0 := by
    intro k a
    unfold newF
    subst hn
    split
    · rename_i h; simp [hinj h]
    · rename_i h
      simp only [List.not_mem_nil, false_iff]
      rintro ⟨rfl, _⟩
      exact h rfl
  have hz : ∀ x, x < n → x / 2 ^ N * 2 ^ N = 0 := fun x hx => by rw [hn] at hx; rw [Nat.div_eq_of_lt hx, Nat.zero_mul]
  refine ⟨⟨N, hN, hn⟩, ?_, ?_, (fun _ _ _ _ _ _ _ => rfl), ?_, ?_, ?_, (fun t h => by cases h), List.Pairwise.nil, ?_⟩
  · intro k _; unfold newF; split <;> simp [Rising]
  · intro k _ a ha
    obtain ⟨rfl, rfl⟩ := (hm _ _).1 ha
    exact ⟨Nat.zero_mod _, by omega⟩
  · exact fun x hx _ => ⟨N, hN, (hm _ _).2 ⟨rfl, hz x hx⟩⟩
  · exact fun i j _ _ x h1 h2 => ((hm _ _).1 h1).1.trans ((hm _ _).1 h2).1.symm
  · intro k _ q h1 h2
    have e1 := ((hm _ _).1 h1).2
    have e2 := ((hm _ _).1 h2).2
    rw [Nat.add_mul] at e2
    have := pos2 k
    omega
  · have : ∀ m, sumF (newF n) m = if N < m then n else 0 := by
      intro m
      induction m with
      | zero => simp [sumF]
      | succ m ih =>
        simp only [sumF, ih, newF]
        by_cases e : m = N
        · subst e; rw [if_neg (by omega), if_pos hn.symm, if_pos (by omega)]; simp [hn]
        · have hne : ¬ (2 ^ m = n) := fun h' => e (hinj (h'.trans hn))
          rw [if_neg hne]
          by_cases h : N < m
          · rw [if_pos h, if_pos (by omega)]; simp
          · rw [if_neg h, if_neg (by omega)]; simp
    rw [this, if_pos (by omega)]
    rfl

end Bu
end Go.Proofs.Ytikahcbkeempdaa
