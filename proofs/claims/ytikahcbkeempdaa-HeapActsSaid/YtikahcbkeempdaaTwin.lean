/- A buddy and its reference side by side: each call is answered alike. -/
import Derived.Test.YtikahcbkeempdaaRef5
import Derived.Test.YtikahcbkeempdaaBuddy
namespace Go.Proofs.Ytikahcbkeempdaa.Bu

theorem cnt_or {p q : Nat → Bool} : ∀ {l : List Nat}, (∀ x ∈ l, p x = true → q x = true → False) → l.countP (fun x => p x || q x) = l.countP p + l.countP q
  | [], _ => rfl
  | a :: l, h => by
    have ih := cnt_or (l := l) fun x hx => h x (List.mem_cons_of_mem _ hx)
    have h0 := h a (List.mem_cons_self ..)
    simp only [List.countP_cons, ih]
    cases hp : p a <;> cases hq : q a <;> simp_all <;> omega
theorem cnt_span (a m : Nat) : ∀ n, (List.range n).countP (fun x => decide (a ≤ x) && decide (x < a + m)) = min n (a + m) - min n a
  | 0 => by simp
  | n + 1 => by
    rw [List.range_succ, List.countP_append, cnt_span a m n]
    simp only [List.countP_cons, List.countP_nil]
    by_cases h1 : a ≤ n <;> by_cases h2 : n < a + m <;> simp [h1, h2] <;> omega
theorem cnt_used {n : Nat} : ∀ {T : List (Nat × Nat)}, (T.Pairwise fun s t => ∀ x, cov x s = true → cov x t = true → False) → (∀ t ∈ T, t.1 + 2 ^ t.2 ≤ n) → (List.range n).countP (used T) = sumT T
  | [], _, _ => by simp [used, sumT]
  | t :: T, hd, hin => by
    obtain ⟨h1, h2⟩ := List.pairwise_cons.1 hd
    have ih := cnt_used h2 fun s hs => hin s (List.mem_cons_of_mem _ hs)
    have hf : used (t :: T) = fun x => cov x t || used T x := by funext x; simp [used]
    have ht := hin t (List.mem_cons_self ..)
    have h3 : (List.range n).countP (fun x => cov x t) = 2 ^ t.2 := by
      have := cnt_span t.1 (2 ^ t.2) n
      have e : (fun x => cov x t) = fun x => decide (t.1 ≤ x) && decide (x < t.1 + 2 ^ t.2) := rfl
      rw [e, this]
      have := pos2 t.2
      generalize 2 ^ t.2 = P at *
      omega
    rw [hf, cnt_or (p := fun x => cov x t) (fun x _ c1 c2 => by
      obtain ⟨s, hs, c⟩ := used_true c2
      exact h1 s hs x c1 c), h3, ih]
    simp [sumT]
end Go.Proofs.Ytikahcbkeempdaa.Bu
namespace Go.Proofs.Ytikahcbkeempdaa
open Go.RowKit Go.Maps

theorem freeTo_inv {n : Nat} {T F} (I : Bu.Inv n T F) : freeTo (Bu.used T) n = Bu.sumF F 11 := by
  have h1 := Bu.cnt_used I.disj fun t ht => (I.taken t ht).2.2
  have h2 := I.sum
  have h3 := List.length_eq_countP_add_countP (Bu.used T) (l := List.range n)
  have h4 : freeTo (Bu.used T) n = (List.range n).countP (fun a => decide ¬ Bu.used T a = true) := by
    unfold freeTo
    rw [List.countP_eq_length_filter]
    congr 1
    apply List.filter_congr
    intro x _
    cases Bu.used T x <;> rfl
  rw [List.length_range] at h3
  omega

structure Twin (w : World) (B bb n p u : Nat) (tv : Value) (F : Nat → List Nat) (T : List (Nat × Nat)) : Prop where
  bud : Bud w bb n F T
  ref : RefAt w n p u tv (Bu.used T) T
  inv : Bu.Inv n T F
  ge : B ≤ bb ∧ ∀ i, RFp p u tv i → B ≤ i
  off : ∀ i, RFp p u tv i → ¬ (bb ≤ i ∧ i < bb + 13)

theorem Twin.lt {w : World} {B bb n p u : Nat} {tv F T} (h : Twin w B bb n p u tv F T) : B ≤ w.heap.size := by have := h.bud.lt; have := h.ge.1; omega
theorem RFp.lt {w : World} {n p u : Nat} {tv U T} (h : RefAt w n p u tv U T) {i : Nat} (hi : RFp p u tv i) : i < w.heap.size := by
  obtain ⟨h1, h2, h3⟩ := h.lt
  rcases hi with rfl | rfl | hi
  · exact h1
  · exact h2
  · exact h3 i hi
theorem Twin.below {w w' : World} {B bb n p u : Nat} {tv F T} (h : Twin w B bb n p u tv F T) (b : Below w.heap.size w w') : Twin w' B bb n p u tv F T :=
  ⟨h.bud.same fun i _ hi => b.block i (by have := h.bud.lt; omega), h.ref.below b, h.inv, h.ge, h.off⟩
theorem Twin.drewN {w : World} {B bb n p u : Nat} {tv F T} (h : Twin w B bb n p u tv F T) (m : Nat) : Twin (w.drewN m) B bb n p u tv F T := h.below (drewN_below _ _ _)
theorem RefAt.kept {w w' : World} {n p u lo hi : Nat} {tv U T} (h : RefAt w n p u tv U T) (k : Kept lo hi w w') (hoff : ∀ i, RFp p u tv i → ¬ (lo ≤ i ∧ i < hi)) : RefAt w' n p u tv U T :=
  h.same (k.block p h.lt.1 (hoff p (.inl rfl))) (k.block u h.lt.2.1 (hoff u (.inr (.inl rfl)))) fun g hg => k.block g (h.lt.2.2 g hg) (hoff g (.inr (.inr hg)))
theorem Bud.keptF {w w' : World} {b n : Nat} {F T} {S : Nat → Prop} (h : Bud w b n F T) (k : KeptF S w w') (hoff : ∀ i, S i → ¬ (b ≤ i ∧ i < b + 13)) : Bud w' b n F T :=
  h.same fun i h1 h2 => k.block i (by have := h.lt; omega) fun hs => hoff i hs ⟨h1, h2⟩

theorem Twin.pick {w : World} {B bb n p u : Nat} {tv F T} (h : Twin w B bb n p u tv F T) (o : Nat) : Bu.pick (Bu.runs n T) o = Bu.pick F o :=
  Bu.pick_congr (fun _ hj => (h.inv.runs_eq hj).symm) o

def TFp (bb p u : Nat) (tv : Value) (i : Nat) : Prop := (bb ≤ i ∧ i < bb + 13) ∨ RFp p u tv i
def TwinAfter (B bb n p u : Nat) (tv : Value) (w w' : World) : Prop := KeptF (TFp bb p u tv) w w' ∧ ∃ tv F T, Twin w' B bb n p u tv F T
theorem Twin.fp {w : World} {B bb n p u : Nat} {tv F T} (h : Twin w B bb n p u tv F T) {i : Nat} (hi : TFp bb p u tv i) : B ≤ i ∧ i < w.heap.size := by
  rcases hi with hi | hi
  · have := h.bud.lt; have := h.ge.1; omega
  · exact ⟨h.ge.2 i hi, hi.lt h.ref⟩
theorem TwinAfter.below {w w0 w' : World} {B bb n p u : Nat} {tv F T} (h : TwinAfter B bb n p u tv w w') (h0 : Twin w0 B bb n p u tv F T) (hb : B ≤ w.heap.size) : Below B w w' :=
  h.1.below hb fun _ hi => (h0.fp hi).1
def TwinTake2 (B bb n p u : Nat) (tv : Value) (w : World) (o x g : Int) (w2 : World) : Prop :=
  KeptF (fun i => bb ≤ i ∧ i < bb + 13) w w2 ∧ Calls Try.prog 38 #[.pointer (some ⟨p, 0, none⟩), .int .i64 o] w2 fun e w3 => e = .returned (.tuple #[.int .i64 x, .int .i64 g]) ∧ TwinAfter B bb n p u tv w w3

theorem twin_take {w : World} {B bb n p u : Nat} {tv F T} (h : Twin w B bb n p u tv F T) (o : Int) : ∃ x g : Int,
    Calls Try.prog 30 #[.pointer (some ⟨bb + 1, 0, none⟩), .int .i64 o] w fun e w2 => e = .returned (.tuple #[.int .i64 x, .int .i64 g]) ∧ TwinTake2 B bb n p u tv w o x g w2 := by
  by_cases ho : o < 0 ∨ 10 < o
  · refine ⟨0, 1, (take_no _ o w ho).mono ?_⟩
    rintro e w2 ⟨rfl, rfl⟩
    refine ⟨rfl, KeptF.refl _ _, (rtake_no _ o w ho).mono ?_⟩
    rintro e w3 ⟨rfl, rfl⟩
    exact ⟨rfl, KeptF.refl _ _, tv, F, T, h⟩
  · obtain ⟨k, rfl⟩ : ∃ k : Nat, o = (k : Int) := ⟨o.toNat, by omega⟩
    have hk : k ≤ 10 := by omega
    have hpk := h.pick k
    cases hp : Bu.pick F k with
    | none =>
      refine ⟨0, 5, (take_nomem h.bud k hk hp).mono ?_⟩
      rintro e w2 ⟨rfl, rfl⟩
      refine ⟨rfl, KeptF.refl _ _, (rtake_none h.ref h.inv.n_le k hk (hpk.trans hp)).mono ?_⟩
      rintro e w3 ⟨rfl, hb⟩
      exact ⟨rfl, KeptF.of_below hb _, tv, F, T, h.below hb⟩
    | some y =>
      obtain ⟨k0, a⟩ := y
      have I' := h.inv.take_pick hp
      refine ⟨a, 0, (take_pick h.bud h.inv k hp).mono ?_⟩
      rintro e w2 ⟨rfl, hB2, hk2⟩
      have hR2 := h.ref.kept hk2 h.off
      refine ⟨rfl, KeptF.of_kept hk2, (rtake_some hR2 h.inv.n_le k (hpk.trans hp) h.inv.T_le (I'.taken (a, k) (by simp)).2.2).mono ?_⟩
      rintro e w3 ⟨rfl, tv', hR3, hk3, hob⟩
      have hfp : ∀ i, RFp p u tv' i → RFp p u tv i ∨ w2.heap.size ≤ i := by
        rintro i (hi | hi | hi)
        · exact .inl (.inl hi)
        · exact .inl (.inr (.inl hi))
        · rcases hob with e | ⟨g, hg, e⟩
          · exact .inl (.inr (.inr (e ▸ hi)))
          · rw [e] at hi; cases hi; exact .inr hg
      have hs2 := hk2.size
      refine ⟨rfl, ((KeptF.of_kept hk2).wider fun _ _ h => .inl h).trans (hk3.wider fun _ _ h => .inr h), tv', _, _, hB2.keptF hk3 h.off, hR3, I', ⟨h.ge.1, ?_⟩, ?_⟩
      · intro i hi
        rcases hfp i hi with h1 | h1
        · exact h.ge.2 i h1
        · have := h.lt; omega
      · intro i hi
        rcases hfp i hi with h1 | h1
        · exact h.off i h1
        · have := hB2.lt; omega

def TwinGive2 (B bb n p u : Nat) (tv : Value) (w : World) (x o g : Int) (w2 : World) : Prop :=
  KeptF (fun i => bb ≤ i ∧ i < bb + 13) w w2 ∧ ∀ m, Calls Try.prog 39 #[.pointer (some ⟨p, 0, none⟩), .int .i64 x, .int .i64 o] (w2.drewN m) fun e w3 => e = .returned (.int .i64 g) ∧ TwinAfter B bb n p u tv w w3

theorem twin_give {w : World} {B bb n p u : Nat} {tv F T} (h : Twin w B bb n p u tv F T) (x o : Int) (hx : (Lit.int .i64 x).wf = true) : ∃ g : Int,
    ∀ m, Calls Try.prog 33 #[.pointer (some ⟨bb + 1, 0, none⟩), .int .i64 x, .int .i64 o] (w.drewN m) fun e w2 => e = .returned (.int .i64 g) ∧ TwinGive2 B bb n p u tv w x o g w2 := by
  by_cases ho : o < 0 ∨ 10 < o
  · refine ⟨1, fun m0 => (give_no _ x o _ ho).mono ?_⟩
    rintro e w2 ⟨rfl, rfl⟩
    refine ⟨rfl, (KeptF.refl _ _).drewN m0, fun m => (rgive_no _ x o _ ho).mono ?_⟩
    rintro e w3 ⟨rfl, rfl⟩
    exact ⟨rfl, ((KeptF.refl _ _).drewN m0).drewN m, tv, F, T, (h.drewN m0).drewN m⟩
  · obtain ⟨k, rfl⟩ : ∃ k : Nat, o = (k : Int) := ⟨o.toNat, by omega⟩
    have hk : k ≤ 10 := by omega
    by_cases hm : ∃ t ∈ T, (t.1 : Int) = x ∧ t.2 = k
    · obtain ⟨⟨a, k'⟩, ht, h1, h2⟩ := hm
      simp only at h1 h2
      subst h1 h2
      refine ⟨0, fun m0 => (give_inv (h.bud.drewN m0) h.inv a k' ht).mono ?_⟩
      rintro e w2 ⟨rfl, hB2, hk2⟩
      have hR2 := (h.ref.drewN m0).kept hk2 h.off
      have hk2' : KeptF (fun i => bb ≤ i ∧ i < bb + 13) w w2 := ((KeptF.refl _ _).drewN m0).trans (KeptF.of_kept hk2)
      refine ⟨rfl, hk2', fun m => (rgive_ok (hR2.drewN m) h.inv.n_le a k' ht hk (h.inv.taken _ ht).2.2 h.inv.T_le h.inv.disj).mono ?_⟩
      rintro e w3 ⟨rfl, tv', hR3, hk3, hob⟩
      have hfp : ∀ i, RFp p u tv' i → RFp p u tv i ∨ w2.heap.size ≤ i := by
        rintro i (hi | hi | hi)
        · exact .inl (.inl hi)
        · exact .inl (.inr (.inl hi))
        · rcases hob i hi with e | e
          · exact .inl (.inr (.inr e))
          · exact .inr e
      have hs2 := hk2'.size
      refine ⟨rfl, ((hk2'.wider fun _ _ h => .inl h).drewN m).trans (hk3.wider fun _ _ h => .inr h), tv', _, _, (hB2.drewN m).keptF hk3 h.off, hR3, h.inv.give ht, ⟨h.ge.1, ?_⟩, ?_⟩
      · intro i hi
        rcases hfp i hi with h1 | h1
        · exact h.ge.2 i h1
        · have := h.lt; omega
      · intro i hi
        rcases hfp i hi with h1 | h1
        · exact h.off i h1
        · have := hB2.lt; omega
    · have hbad : ∀ t ∈ T, ¬ ((t.1 : Int) = x ∧ t.2 = k) := fun t ht hc => hm ⟨t, ht, hc⟩
      refine ⟨6, fun m0 => (give_bad (h.bud.drewN m0) x k hk hx hbad).mono ?_⟩
      rintro e w2 ⟨rfl, rfl⟩
      refine ⟨rfl, (KeptF.refl _ _).drewN m0, fun m => (rgive_bad ((h.ref.drewN m0).drewN m) x k hk h.inv.T_le hbad).mono ?_⟩
      rintro e w3 ⟨rfl, rfl⟩
      exact ⟨rfl, ((KeptF.refl _ _).drewN m0).drewN m, tv, F, T, (h.drewN m0).drewN m⟩

theorem twin_frees {w : World} {B bb n p u : Nat} {tv F T} (h : Twin w B bb n p u tv F T) : ∃ fr : Int,
    Calls Try.prog 31 #[.pointer (some ⟨bb + 1, 0, none⟩)] w (fun e w' => e = .returned (.int .i64 fr) ∧ w = w') ∧
    Calls Try.prog 40 #[.pointer (some ⟨p, 0, none⟩)] w (fun e w' => e = .returned (.int .i64 fr) ∧ w = w') := by
  refine ⟨_, free_inv h.bud h.inv, ?_⟩
  have := rFree_any h.ref h.inv.n_le
  rwa [freeTo_inv h.inv] at this

theorem Twin.free {w : World} {B bb n p u : Nat} {tv F T} (h : Twin w B bb n p u tv F T) :
    Calls Try.prog 40 #[.pointer (some ⟨p, 0, none⟩)] w fun e w' => e = .returned (.int .i64 (Bu.sumF F 11 : Int)) ∧ w = w' := by
  have := rFree_any h.ref h.inv.n_le
  rwa [freeTo_inv h.inv] at this

theorem ints_intV (l : List Nat) : (ints l).map (Value.int .i64) = intV l := by simp [ints, intV, Function.comp_def]
theorem Twin.rruns {w : World} {B bb n p u : Nat} {tv F T} (h : Twin w B bb n p u tv F T) (k : Nat) (hk : k ≤ 10) :
    Calls Try.prog 41 #[.pointer (some ⟨p, 0, none⟩), .int .i64 (k : Int)] w fun e w' => ∃ v, e = .returned v ∧ w'.ownsRow w.heap.size 3 1 v (F k).length (intV (F k)) ∧ Below w.heap.size w w' := by
  have := rruns_any h.ref k hk h.inv.n_le
  rwa [runs_ref, ← h.inv.runs_eq hk] at this
theorem Twin.bruns {w : World} {B bb n p u : Nat} {tv F T} (h : Twin w B bb n p u tv F T) (k : Nat) (hk : k ≤ 10) :
    Calls Try.prog 34 #[.pointer (some ⟨bb + 1, 0, none⟩), .int .i64 (k : Int)] w fun e w' => ∃ v, e = .returned v ∧ w'.ownsRow w.heap.size 3 1 v (F k).length (intV (F k)) ∧ Below w.heap.size w w' := by
  have := runs_any h.bud k hk (h.inv.len_le hk)
  rwa [ints_intV] at this

/-! ### same, none -/
set_option maxHeartbeats 400000 in
theorem none8_any (w : World) : Calls Try.prog 35 #[] w fun e w' => e = .returned (.pointer none) ∧ w = w' := by
  go_enter Try.func35, Try.ntmps35
  go_wp2
  go_ret
  exact ⟨rfl, rfl⟩

def SameRel (w : World) (n : Nat) (v : Value) (wr : World) : Prop := ∃ i m : Nat, v = .int .i64 (i : Int) ∧ i ≤ n ∧ wr = w.drewN m

set_option maxHeartbeats 1000000 in
theorem same8_any {oa ob : Option Addr} {n ca cb : Nat} {xs : List Nat} {w : World} (hl : xs.length = n) (hn : n ≤ 1024)
    (ha : 0 < n → ∃ g, oa = some ⟨g, 0, none⟩ ∧ ∀ i, i < n → w.cell? ⟨g, i, none⟩ = some ((intV xs).getD i undef)) (hb : 0 < n → ∃ g, ob = some ⟨g, 0, none⟩ ∧ ∀ i, i < n → w.cell? ⟨g, i, none⟩ = some ((intV xs).getD i undef)) :
    Calls Try.prog 42 #[.slice oa n ca, .slice ob n cb] w fun e w' => e = .returned (.bool true) ∧ ∃ m, w' = w.drewN m := by
  have HA := Lib.hid ha
  have HB := Lib.hid hb
  have HL := Lib.hid hl
  clear ha hb hl
  go_enter Try.func42, Try.ntmps42
  go_wp2
  go_loopw [5] (fun v wr => SameRel w n v wr) (fun v _ => n - (intOf v).toNat)
  case atStart => exact ⟨0, 0, rfl, Nat.zero_le _, rfl⟩
  case round =>
    obtain ⟨i, m, rfl, hi, rfl⟩ := hrel
    by_cases e : i < n
    · have ci : (i : Int) < (n : Int) := by omega
      have c0 : (0 : Int) ≤ (i : Int) := by omega
      obtain ⟨ga, rfl, hca⟩ := HA.out (by omega)
      obtain ⟨gb, rfl, hcb⟩ := HB.out (by omega)
      have hxi : i < xs.length := by rw [HL.out]; exact e
      have h1 : (intV xs).getD i undef = .int .i64 ((xs[i] : Nat) : Int) := by simp [intV, hxi]
      have hca' := (hca i e).trans (by rw [h1])
      have hcb' := (hcb i e).trans (by rw [h1])
      clear hca hcb h1
      generalize xs[i] = x at *
      go_wp2
      go_quiet (fail)
      go_wp2
      go_roundw
      case rel => exact ⟨i + 1, _, by go_num, by omega, rfl⟩
      case measure => simp [intOf]; omega
    · have ci : ¬ (i : Int) < (n : Int) := by omega
      go_wp2
      go_ret
      exact ⟨rfl, _, rfl⟩

end Go.Proofs.Ytikahcbkeempdaa
