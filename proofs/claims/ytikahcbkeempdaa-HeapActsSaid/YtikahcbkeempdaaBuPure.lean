/- The plain law of the buddy: runs of frames, halved and put together. No program in sight. -/
namespace Go.Proofs.Ytikahcbkeempdaa
namespace Bu

/-- Does a taken run cover a frame? -/
def cov (x : Nat) (t : Nat × Nat) : Bool := decide (t.1 ≤ x) && decide (x < t.1 + 2 ^ t.2)
def used (T : List (Nat × Nat)) (x : Nat) : Bool := T.any (cov x)
/-- Is block number q of order k free as a whole? -/
def blk (n : Nat) (T : List (Nat × Nat)) (k q : Nat) : Bool := decide ((q + 1) * 2 ^ k ≤ n) && (List.range (2 ^ k)).all fun i => !used T (q * 2 ^ k + i)
def isRun (n : Nat) (T : List (Nat × Nat)) (k q : Nat) : Bool := blk n T k q && (k == 10 || !blk n T (k + 1) (q / 2))
/-- The free runs of just that order, rising. -/
def runs (n : Nat) (T : List (Nat × Nat)) (k : Nat) : List Nat := ((List.range ((n + 2 ^ k - 1) / 2 ^ k)).filter (isRun n T k)).map (· * 2 ^ k)

def bud (a k : Nat) : Nat := if a / 2 ^ k % 2 = 0 then a + 2 ^ k else a - 2 ^ k

def upd (F : Nat → List Nat) (k : Nat) (l : List Nat) : Nat → List Nat := fun j => if j = k then l else F j

/-- insertion in a rising list, without repeats -/
def ins (x : Nat) : List Nat → List Nat
  | [] => [x]
  | y :: l => if x < y then x :: y :: l else if x = y then y :: l else y :: ins x l

theorem mem_ins (x y : Nat) : ∀ l, y ∈ ins x l ↔ y = x ∨ y ∈ l
  | [] => by simp [ins]
  | z :: l => by
    unfold ins
    split
    · simp
    · split
      · rename_i h; subst h; simp
      · simp [mem_ins x y l]; constructor
        · rintro (h | h | h) <;> simp [h]
        · rintro (h | h | h) <;> simp [h]

def Rising (l : List Nat) : Prop := l.Pairwise (· < ·)

theorem ins_rising (x : Nat) : ∀ l, Rising l → Rising (ins x l)
  | [], _ => by simp [ins, Rising]
  | z :: l, h => by
    unfold Rising at h
    rw [List.pairwise_cons] at h
    unfold ins
    split
    · rename_i hlt
      exact List.pairwise_cons.2 ⟨fun y hy => by
        rcases List.mem_cons.1 hy with rfl | hy
        · exact hlt
        · exact Nat.lt_trans hlt (h.1 y hy), List.pairwise_cons.2 h⟩
    · split
      · exact List.pairwise_cons.2 h
      · refine List.pairwise_cons.2 ⟨fun y hy => ?_, ins_rising x l h.2⟩
        rcases (mem_ins x y l).1 hy with rfl | hy
        · omega
        · exact h.1 y hy

theorem length_ins (x : Nat) : ∀ l, x ∉ l → (ins x l).length = l.length + 1
  | [], _ => rfl
  | z :: l, h => by
    unfold ins
    simp only [List.mem_cons, not_or] at h
    split
    · simp
    · rw [if_neg h.1]; simp [length_ins x l h.2]

theorem rising_ext : ∀ (l m : List Nat), Rising l → Rising m → (∀ x, x ∈ l ↔ x ∈ m) → l = m
  | [], [], _, _, _ => rfl
  | [], b :: m, _, _, h => by simpa using (h b).2 (by simp)
  | a :: l, [], _, _, h => by simpa using (h a).1 (by simp)
  | a :: l, b :: m, hl, hm, h => by
    unfold Rising at hl hm
    rw [List.pairwise_cons] at hl hm
    have e : a = b := by
      have h1 := (h a).1 (by simp)
      have h2 := (h b).2 (by simp)
      simp only [List.mem_cons] at h1 h2
      rcases h1 with h1 | h1
      · exact h1
      · rcases h2 with h2 | h2
        · exact h2.symm
        · have := hl.1 b h2; have := hm.1 a h1; omega
    subst e
    have : l = m := rising_ext l m hl.2 hm.2 (fun x => by
      have hx := h x
      simp only [List.mem_cons] at hx
      constructor
      · intro hxl
        rcases hx.1 (.inr hxl) with e | e
        · have := hl.1 x hxl; omega
        · exact e
      · intro hxm
        rcases hx.2 (.inr hxm) with e | e
        · have := hm.1 x hxm; omega
        · exact e)
    rw [this]

theorem rising_nodup {l : List Nat} (h : Rising l) : l.Nodup := List.Pairwise.imp (fun hab => by omega) h
theorem rising_erase {l : List Nat} (h : Rising l) (x : Nat) : Rising (l.erase x) := List.Pairwise.sublist List.erase_sublist h
theorem mem_erase_rising {l : List Nat} (h : Rising l) (x y : Nat) : y ∈ l.erase x ↔ y ≠ x ∧ y ∈ l := (rising_nodup h).mem_erase_iff

/-! ### The invariant -/

def sumF (F : Nat → List Nat) : Nat → Nat
  | 0 => 0
  | k + 1 => sumF F k + (F k).length * 2 ^ k
def sumT (T : List (Nat × Nat)) : Nat := (T.map fun t => 2 ^ t.2).sum

structure Inv (n : Nat) (T : List (Nat × Nat)) (F : Nat → List Nat) : Prop where
  pow : ∃ N, N ≤ 10 ∧ n = 2 ^ N
  rising : ∀ k, k ≤ 10 → Rising (F k)
  al : ∀ k, k ≤ 10 → ∀ a ∈ F k, a % 2 ^ k = 0 ∧ a + 2 ^ k ≤ n
  free : ∀ k, k ≤ 10 → ∀ a ∈ F k, ∀ x, a ≤ x → x < a + 2 ^ k → used T x = false
  cover : ∀ x, x < n → used T x = false → ∃ k, k ≤ 10 ∧ x / 2 ^ k * 2 ^ k ∈ F k
  one : ∀ j k, j ≤ 10 → k ≤ 10 → ∀ x, x / 2 ^ j * 2 ^ j ∈ F j → x / 2 ^ k * 2 ^ k ∈ F k → j = k
  red : ∀ k, k < 10 → ∀ q, 2 * q * 2 ^ k ∈ F k → (2 * q + 1) * 2 ^ k ∈ F k → False
  taken : ∀ t ∈ T, t.2 ≤ 10 ∧ t.1 % 2 ^ t.2 = 0 ∧ t.1 + 2 ^ t.2 ≤ n
  disj : T.Pairwise fun s t => ∀ x, cov x s = true → cov x t = true → False
  sum : sumF F 11 + sumT T = n

theorem pos2 (k : Nat) : 0 < 2 ^ k := Nat.two_pow_pos k

theorem div_pow_succ (x k : Nat) : x / 2 ^ (k + 1) = x / 2 ^ k / 2 := by
  rw [Nat.pow_succ, Nat.div_div_eq_div_mul]

theorem div_pow_add (x k d : Nat) : x / 2 ^ (k + d) = x / 2 ^ k / 2 ^ d := by
  rw [Nat.pow_add, Nat.div_div_eq_div_mul]

theorem in_block (x k q : Nat) : x / 2 ^ k = q ↔ q * 2 ^ k ≤ x ∧ x < (q + 1) * 2 ^ k := by
  have hp := pos2 k
  constructor
  · intro h
    subst h
    refine ⟨Nat.div_mul_le_self x _, ?_⟩
    rw [Nat.mul_comm]; exact Nat.lt_mul_div_succ x hp
  · rintro ⟨h1, h2⟩
    apply Nat.le_antisymm
    · exact Nat.le_of_lt_succ ((Nat.div_lt_iff_lt_mul hp).2 h2)
    · exact (Nat.le_div_iff_mul_le hp).2 h1

theorem blk_iff (n : Nat) (T) (k q : Nat) : blk n T k q = true ↔ (q + 1) * 2 ^ k ≤ n ∧ ∀ x, x / 2 ^ k = q → used T x = false := by
  unfold blk
  simp only [Bool.and_eq_true, decide_eq_true_eq, List.all_eq_true, List.mem_range, Bool.not_eq_true', and_congr_right_iff]
  intro _
  constructor
  · intro h x hx
    obtain ⟨h1, h2⟩ := (in_block x k q).1 hx
    have := h (x - q * 2 ^ k) (by rw [Nat.add_mul] at h2; omega)
    rwa [show q * 2 ^ k + (x - q * 2 ^ k) = x by omega] at this
  · intro h i hi
    exact h _ ((in_block _ _ _).2 ⟨by omega, by rw [Nat.add_mul]; omega⟩)

theorem mul_mod_zero {a k : Nat} (h : a % 2 ^ k = 0) : a / 2 ^ k * 2 ^ k = a := by
  have := Nat.div_add_mod a (2 ^ k)
  rw [h, Nat.add_zero, Nat.mul_comm] at this; exact this

section
variable {n : Nat} {T : List (Nat × Nat)} {F : Nat → List Nat}

theorem Inv.up (I : Inv n T F) : ∀ k, k ≤ 10 → ∀ q, blk n T k q = true → ∃ d, k + d ≤ 10 ∧ q / 2 ^ d * 2 ^ (k + d) ∈ F (k + d)
  | 0, _, q, h => by
    obtain ⟨h1, h2⟩ := (blk_iff _ _ _ _).1 h
    obtain ⟨j, hj, hm⟩ := I.cover q (by simp at h1; omega) (h2 q (by simp))
    exact ⟨j, by omega, by simpa using hm⟩
  | k + 1, hk, q, h => by
    obtain ⟨h1, h2⟩ := (blk_iff _ _ _ _).1 h
    have hp := pos2 k
    have e2 : 2 ^ (k + 1) = 2 * 2 ^ k := by rw [Nat.pow_succ, Nat.mul_comm]
    have hb0 : blk n T k (2 * q) = true := (blk_iff _ _ _ _).2 ⟨by
        rw [e2, ← Nat.mul_assoc] at h1
        refine Nat.le_trans (Nat.mul_le_mul_right _ ?_) h1
        omega, fun x hx => h2 x (by rw [div_pow_succ, hx]; omega)⟩
    have hb1 : blk n T k (2 * q + 1) = true := (blk_iff _ _ _ _).2 ⟨by
        rw [e2, ← Nat.mul_assoc] at h1
        refine Nat.le_trans (Nat.mul_le_mul_right _ ?_) h1
        omega, fun x hx => h2 x (by rw [div_pow_succ, hx]; omega)⟩
    obtain ⟨d0, hd0, m0⟩ := I.up k (by omega) _ hb0
    obtain ⟨d1, hd1, m1⟩ := I.up k (by omega) _ hb1
    match d0, d1, hd0, hd1, m0, m1 with
    | 0, 0, _, _, m0, m1 =>
      exact (I.red k (by omega) q (by simpa using m0) (by simpa using m1)).elim
    | d + 1, _, hd0, _, m0, _ =>
      refine ⟨d, by omega, ?_⟩
      rw [Nat.pow_succ, Nat.mul_comm (2 ^ d) 2, ← Nat.div_div_eq_div_mul, show 2 * q / 2 = q by omega] at m0
      rwa [show k + 1 + d = k + (d + 1) by omega]
    | 0, d + 1, _, hd1, _, m1 =>
      refine ⟨d, by omega, ?_⟩
      rw [Nat.pow_succ, Nat.mul_comm (2 ^ d) 2, ← Nat.div_div_eq_div_mul, show (2 * q + 1) / 2 = q by omega] at m1
      rwa [show k + 1 + d = k + (d + 1) by omega]

theorem Inv.blk_of_mem (I : Inv n T F) {k q : Nat} (hk : k ≤ 10) (h : q * 2 ^ k ∈ F k) : blk n T k q = true := by
  refine (blk_iff _ _ _ _).2 ⟨?_, fun x hx => ?_⟩
  · have := (I.al k hk _ h).2; rw [Nat.add_mul]; omega
  · obtain ⟨h1, h2⟩ := (in_block x k q).1 hx
    exact I.free k hk _ h x h1 (by rw [Nat.add_mul] at h2; omega)

/-- The free lists hold just the free blocks that lie in no greater one. -/
theorem Inv.mem_iff (I : Inv n T F) {k : Nat} (hk : k ≤ 10) (q : Nat) : q * 2 ^ k ∈ F k ↔ isRun n T k q = true := by
  unfold isRun
  constructor
  · intro h
    rw [I.blk_of_mem hk h, Bool.true_and, Bool.or_eq_true, beq_iff_eq, Bool.not_eq_true']
    by_cases h10 : k = 10
    · exact .inl h10
    · refine .inr ?_
      cases hb : blk n T (k + 1) (q / 2) with
      | false => rfl
      | true =>
        obtain ⟨d, hd, hm⟩ := I.up (k + 1) (by omega) _ hb
        have hx : q * 2 ^ k / 2 ^ k = q := Nat.mul_div_cancel _ (pos2 k)
        have e : q * 2 ^ k / 2 ^ (k + 1 + d) = q / 2 / 2 ^ d := by rw [div_pow_add, div_pow_succ, hx]
        have := I.one k (k + 1 + d) hk (by omega) (q * 2 ^ k) (by rwa [hx]) (by rw [e]; exact hm)
        omega
  · intro h
    rw [Bool.and_eq_true, Bool.or_eq_true, beq_iff_eq, Bool.not_eq_true'] at h
    obtain ⟨hb, hr⟩ := h
    obtain ⟨d, hd, hm⟩ := I.up k hk _ hb
    match d, hd, hm with
    | 0, _, hm => simpa using hm
    | d + 1, hd, hm =>
      exfalso
      rcases hr with hr | hr
      · omega
      · have hb' := I.blk_of_mem (k := k + (d + 1)) (q := q / 2 ^ (d + 1)) hd hm
        obtain ⟨b1, b2⟩ := (blk_iff _ _ _ _).1 hb'
        have : blk n T (k + 1) (q / 2) = true := by
          have eq2 : q / 2 ^ (d + 1) = q / 2 / 2 ^ d := by rw [Nat.pow_succ, Nat.mul_comm, ← Nat.div_div_eq_div_mul]
          refine (blk_iff _ _ _ _).2 ⟨?_, fun x hx => b2 x ?_⟩
          · refine Nat.le_trans ?_ b1
            rw [eq2, show k + (d + 1) = k + 1 + d by omega, Nat.pow_add 2 (k + 1) d, Nat.mul_comm (2 ^ (k + 1)), ← Nat.mul_assoc]
            refine Nat.mul_le_mul_right _ ?_
            have hq := Nat.lt_mul_div_succ (q / 2) (pos2 d)
            rw [Nat.mul_comm] at hq
            omega
          · rw [show k + (d + 1) = k + 1 + d by omega, div_pow_add, hx, eq2]
        rw [this] at hr
        cases hr

theorem mem_runs (n : Nat) (T) (k a : Nat) : a ∈ runs n T k ↔ ∃ q, a = q * 2 ^ k ∧ isRun n T k q = true := by
  unfold runs
  simp only [List.mem_map, List.mem_filter, List.mem_range]
  constructor
  · rintro ⟨q, ⟨_, h⟩, rfl⟩; exact ⟨q, rfl, h⟩
  · rintro ⟨q, rfl, h⟩
    refine ⟨q, ⟨?_, h⟩, rfl⟩
    unfold isRun at h
    rw [Bool.and_eq_true] at h
    have hb := ((blk_iff _ _ _ _).1 h.1).1
    have hp := pos2 k
    rw [← Nat.succ_le_iff, Nat.le_div_iff_mul_le hp]
    show (q + 1) * 2 ^ k ≤ _
    omega

theorem runs_rising (n : Nat) (T) (k : Nat) : Rising (runs n T k) := by
  unfold runs Rising
  rw [List.pairwise_map]
  refine (List.Pairwise.filter _ List.pairwise_lt_range).imp ?_
  intro a b h
  exact Nat.mul_lt_mul_of_pos_right h (pos2 k)

/-- THE FREE LISTS ARE WHAT THE DOCUMENT SAYS. -/
theorem Inv.runs_eq (I : Inv n T F) {k : Nat} (hk : k ≤ 10) : F k = runs n T k := by
  refine rising_ext _ _ (I.rising k hk) (runs_rising _ _ _) fun a => ?_
  rw [mem_runs]
  constructor
  · intro h
    have := mul_mod_zero (I.al k hk a h).1
    exact ⟨a / 2 ^ k, this.symm, (I.mem_iff hk _).1 (by rwa [this])⟩
  · rintro ⟨q, rfl, h⟩
    exact (I.mem_iff hk q).2 h
end

end Bu
end Go.Proofs.Ytikahcbkeempdaa
