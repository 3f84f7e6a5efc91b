/- A heap and its reference side by side: Take and Give, whatever the words. -/
import Derived.Test.YtikahcbkeempdaaHNil
namespace Go.Proofs.Ytikahcbkeempdaa
open Go.RowKit Go.Maps

def THK (w : World) (B C1 rp : Nat) (rv : Value) (pp uu : Nat → Nat) (tt : Nat → Value) (c : Nat) (w3 : World) : Prop :=
  Below B w w3 ∧ ∀ y, C1 ≤ y → y < w.heap.size → ¬ RHF rp rv pp uu tt c y → w3.heap[y]? = w.heap[y]?

/-- The runs that are not (x, o). -/
def gone (R : List (Nat × Nat)) (x o : Int) : List (Nat × Nat) := R.filter fun t => !(decide ((t.1 : Int) = x) && decide ((t.2 : Int) = o))
theorem gone_none {R : List (Nat × Nat)} {x o : Int} (h : ∀ t ∈ R, ¬ ((t.1 : Int) = x ∧ (t.2 : Int) = o)) : gone R x o = R := by
  unfold gone
  rw [List.filter_eq_self]
  intro t ht
  have := h t ht
  by_cases h1 : (t.1 : Int) = x
  · have h2 : ¬ (t.2 : Int) = o := fun h2 => this ⟨h1, h2⟩
    simp [h2]
  · simp [h1]
theorem gone_erase {R : List (Nat × Nat)} (hd : R.Nodup) (f k : Nat) : gone R (f : Int) (k : Int) = R.erase (f, k) := by
  unfold gone
  rw [hd.erase_eq_filter]
  apply List.filter_congr
  intro t _
  rw [Bool.eq_iff_iff]
  simp only [Bool.not_eq_true', Bool.and_eq_false_iff, decide_eq_false_iff_not, bne_iff_ne, ne_eq, Prod.ext_iff]
  omega
theorem gone_len (R : List (Nat × Nat)) (x o : Int) : (gone R x o).length ≤ R.length := List.length_filter_le _ _
theorem gone_sub {R : List (Nat × Nat)} {x o : Int} : ∀ t ∈ gone R x o, t ∈ R := fun _ h => (List.mem_filter.1 h).1
theorem gone_nodup {R : List (Nat × Nat)} {x o : Int} (h : R.Nodup) : (gone R x o).Nodup := h.filter _

section
variable {w w2 w3 : World} {hp each c rp C1 C2 B : Nat} {mn lo hi : Int} {nv rv v : Value} {bb pp uu : Nat → Nat} {tt : Nat → Value} {R : List (Nat × Nat)} {F : Nat → Nat → List Nat} {T : Nat → List (Nat × Nat)}

theorem THK.of_below (b : Below w.heap.size w w3) (hB : B ≤ w.heap.size) : THK w B C1 rp rv pp uu tt c w3 := ⟨b.mono hB, fun y _ hl _ => b.block y hl⟩
theorem THK.drewN (h : THK w B C1 rp rv pp uu tt c w2) (m : Nat) : THK w B C1 rp rv pp uu tt c (w2.drewN m) := ⟨h.1.trans (drewN_below _ _ _), h.2⟩
theorem TH.hB (h : TH w hp each mn lo hi c nv bb rp rv pp uu C1 C2 tt v R F T) (hS : HSpan B C1 hp c nv bb) : B ≤ w.heap.size := by
  have := hS.hp; have := h.ord; omega
theorem TH.thk1 (h : TH w hp each mn lo hi c nv bb rp rv pp uu C1 C2 tt v R F T) (hS : HSpan B C1 hp c nv bb) {i : Nat} (hi' : i < c) (hk : Kept (bb i) (bb i + 13) w w2) : THK w B C1 rp rv pp uu tt c w2 :=
  ⟨hk.below (hS.bb i hi').1 (h.hB hS), fun y hy hl _ => hk.block y hl (by have := (hS.bb i hi').2; omega)⟩
theorem TH.thk2 (h : TH w hp each mn lo hi c nv bb rp rv pp uu C1 C2 tt v R F T) (hS : HSpan B C1 hp c nv bb) {i m : Nat} (hi' : i < c) (hk : Kept (bb i) (bb i + 13) w w2)
    (hk3 : KeptF (RFp (pp i) (uu i) (tt i)) (w2.drewN m) w3) : THK w B C1 rp rv pp uu tt c w3 := by
  have h1 := h.thk1 hS hi' hk
  have hs := hk.size
  have hB := h.hB hS
  have hBC : B ≤ C1 := by have := hS.hp; omega
  refine ⟨h1.1.trans ((drewN_below w2 m B).trans (hk3.below (by show B ≤ w2.heap.size; omega) fun x hx => ?_)), fun y hy hl hn => ?_⟩
  · have := h.ge x (RHF.node hi' hx); omega
  · exact (hk3.block y (by show y < w2.heap.size; omega) fun hs => hn (RHF.node hi' hs)).trans (h1.2 y hy hl hn)

def TakeBad (w : World) (B hp each : Nat) (mn lo hi : Int) (c : Nat) (nv : Value) (bb : Nat → Nat) (rp : Nat) (rv : Value) (pp uu : Nat → Nat) (C1 C2 : Nat) (tt : Nat → Value) (v : Value) (R : List (Nat × Nat)) (F : Nat → Nat → List Nat) (T : Nat → List (Nat × Nat)) (z1 z2 g : Int) : Prop :=
  Calls Try.prog 54 #[.pointer (some ⟨hp, 0, none⟩), .int .i64 z1, .int .i64 z2] w fun e w2 => e = .returned (.tuple #[.int .i64 0, .int .i64 g]) ∧ THK w B C1 rp rv pp uu tt c w2 ∧
    Calls Try.prog 64 #[.pointer (some ⟨rp, 0, none⟩), .int .i64 z1, .int .i64 z2] w2 fun e w3 => e = .returned (.tuple #[.int .i64 0, .int .i64 g]) ∧ THK w B C1 rp rv pp uu tt c w3 ∧ TH w3 hp each mn lo hi c nv bb rp rv pp uu C1 C2 tt v R F T

def Took (w : World) (hp each : Nat) (mn lo hi : Int) (c : Nat) (nv : Value) (bb : Nat → Nat) (rp : Nat) (rv : Value) (pp uu : Nat → Nat) (C1 : Nat) (v : Value) (R' : List (Nat × Nat)) (w3 : World) : Prop :=
  ∃ tt' F' T', TPair w w3 hp each mn lo hi c nv bb rp rv pp uu C1 tt' v F' T' ∧ ∀ j, j < c → T' j = spl each R' j
def TakeOk (w : World) (B hp each : Nat) (mn lo hi : Int) (c : Nat) (nv : Value) (bb : Nat → Nat) (rp : Nat) (rv : Value) (pp uu : Nat → Nat) (C1 : Nat) (tt : Nat → Value) (v : Value) (R : List (Nat × Nat)) (z1 : Int) (f k : Nat) : Prop :=
  Calls Try.prog 54 #[.pointer (some ⟨hp, 0, none⟩), .int .i64 z1, .int .i64 (k : Int)] w fun e w2 => e = .returned (.tuple #[.int .i64 (f : Int), .int .i64 0]) ∧ THK w B C1 rp rv pp uu tt c w2 ∧
    Calls Try.prog 64 #[.pointer (some ⟨rp, 0, none⟩), .int .i64 z1, .int .i64 (k : Int)] w2 fun e w3 => e = .returned (.tuple #[.int .i64 (f : Int), .int .i64 0]) ∧ THK w B C1 rp rv pp uu tt c w3 ∧ Took w hp each mn lo hi c nv bb rp rv pp uu C1 v (R ++ [(f, k)]) w3

theorem th_take (h : TH w hp each mn lo hi c nv bb rp rv pp uu C1 C2 tt v R F T) (hS : HSpan B C1 hp c nv bb) (hc : c ≤ 8) (z1 z2 : Int) :
    (∃ g : Int, 0 < g ∧ TakeBad w B hp each mn lo hi c nv bb rp rv pp uu C1 C2 tt v R F T z1 z2 g) ∨
    (∃ f k : Nat, z2 = (k : Int) ∧ (f, k) ∉ R ∧ f < each * c ∧ TakeOk w B hp each mn lo hi c nv bb rp rv pp uu C1 tt v R z1 f k) := by
  have hB := h.hB hS
  have hrf : THK w B C1 rp rv pp uu tt c w := .of_below (Below.refl _ _) hB
  by_cases hn : z1 < 0 ∨ (c : Int) ≤ z1
  · refine .inl ⟨10, by decide, (htake_no h.heap z1 z2 hn).mono ?_⟩
    rintro e w2 ⟨rfl, rfl⟩
    refine ⟨rfl, hrf, (rhtake_no h.rh z1 z2 hn).mono ?_⟩
    rintro e w3 ⟨rfl, rfl⟩
    exact ⟨rfl, hrf, h⟩
  · obtain ⟨n, rfl⟩ : ∃ n : Nat, z1 = (n : Int) := ⟨z1.toNat, by omega⟩
    have hnc : n < c := by omega
    by_cases ho : z2 < 0 ∨ 10 < z2
    · refine .inl ⟨1, by decide, (htake_arg h.heap n hnc z2 ho).mono ?_⟩
      rintro e w2 ⟨rfl, rfl⟩
      refine ⟨rfl, hrf, (rhtake_arg h.rh n hnc z2 ho).mono ?_⟩
      rintro e w3 ⟨rfl, rfl⟩
      exact ⟨rfl, hrf, h⟩
    · obtain ⟨k, rfl⟩ : ∃ k : Nat, z2 = (k : Int) := ⟨z2.toNat, by omega⟩
      have hk : k ≤ 10 := by omega
      cases hm : mayF (F n) mn (k : Int) with
      | false =>
        refine .inl ⟨5, by decide, (htake_nomem h.heap n hnc k hk hm).mono ?_⟩
        rintro e w2 ⟨rfl, m, rfl⟩
        have hD := h.drewN m
        refine ⟨rfl, hrf.drewN m, (rhtake_nomem hD.rh hD.heap.inv n hnc k hk hm).mono ?_⟩
        rintro e w3 ⟨rfl, hb⟩
        exact ⟨rfl, .of_below ((drewN_below _ _ _).trans hb) hB, hD.below hb⟩
      | true =>
        have hsome : (Bu.pick (F n) k).isSome = true := by
          unfold mayF at hm
          rw [Bool.and_eq_true, Bool.and_eq_true, Int.toNat_natCast] at hm
          exact hm.1.2
        obtain ⟨⟨kk, x⟩, hpick⟩ := Option.isSome_iff_exists.1 hsome
        have I := h.heap.inv n hnc
        have I' := I.take_pick hpick
        have hin := (I'.taken (x, k) (by simp)).2.2
        simp only at hin
        have hp2 := Bu.pos2 k
        have hx : x < each := by omega
        have hlt : n * each + x < each * c := by
          have h1 : (n + 1) * each ≤ c * each := Nat.mul_le_mul_right _ (by omega)
          rw [Nat.add_mul, Nat.one_mul] at h1
          rw [Nat.mul_comm each c]
          omega
        have hfr : (n * each + x, k) ∉ R := fun hm' => by
          obtain ⟨h1, h2, ⟨l, hl⟩, _⟩ := Bu.pick_some hpick
          have := spl_mem (each := each) hm'
          simp only at this
          rw [div_at hx, mod_at hx, ← h.spl n hnc] at this
          exact I.notin h2 (by rw [hl]; simp) this
        refine .inr ⟨n * each + x, k, rfl, hfr, hlt, (htake_ok h.heap hc n hnc k hk hm hpick).mono ?_⟩
        rintro e w2 ⟨rfl, hk2, hH2⟩
        have hA := h.afterHeap hS hnc hk2
        refine ⟨rfl, h.thk1 hS hnc hk2, (rhtake_ok hA.1 h.heap.inv hc n hnc k hk hm hpick).mono ?_⟩
        rintro e w3 ⟨rfl, hG⟩
        obtain ⟨tt', hP⟩ := h.turned hS hnc hk2 hH2 (m := 0) hG (mn_take I I' hm)
        obtain ⟨tv', hR3, hk3, _⟩ := hG
        refine ⟨rfl, h.thk2 hS hnc hk2 (m := 0) hk3, tt', _, _, hP, fun j hj => ?_⟩
        rw [spl_snoc hx]
        by_cases e : j = n
        · rw [if_pos e, if_pos e, h.spl n hnc]
        · rw [if_neg e, if_neg e, h.spl j hj]

def GiveTo (w : World) (B hp each : Nat) (mn lo hi : Int) (c : Nat) (nv : Value) (bb : Nat → Nat) (rp : Nat) (rv : Value) (pp uu : Nat → Nat) (C1 : Nat) (tt : Nat → Value) (v : Value) (R : List (Nat × Nat)) (x o g : Int) (w2 : World) : Prop :=
  THK w B C1 rp rv pp uu tt c w2 ∧ ∀ m, Calls Try.prog 65 #[.pointer (some ⟨rp, 0, none⟩), .int .i64 x, .int .i64 o] (w2.drewN m) fun e w3 => e = .returned (.int .i64 g) ∧ THK w B C1 rp rv pp uu tt c w3 ∧ Took w hp each mn lo hi c nv bb rp rv pp uu C1 v (gone R x o) w3

theorem th_give (h : TH w hp each mn lo hi c nv bb rp rv pp uu C1 C2 tt v R F T) (hS : HSpan B C1 hp c nv bb) (hc : c ≤ 8) (he : each ≤ 1024) (x o : Int) : ∃ g : Int,
    ∀ m, Calls Try.prog 56 #[.pointer (some ⟨hp, 0, none⟩), .int .i64 x, .int .i64 o] (w.drewN m) fun e w2 => e = .returned (.int .i64 g) ∧ GiveTo w B hp each mn lo hi c nv bb rp rv pp uu C1 tt v R x o g w2 := by
  have hB := h.hB hS
  have hrf : THK w B C1 rp rv pp uu tt c w := .of_below (Below.refl _ _) hB
  have same : ∀ (m n k l : Nat), gone R x o = R → THK w B C1 rp rv pp uu tt c ((((w.drewN m).drewN n).drewN k).drewN l) ∧ Took w hp each mn lo hi c nv bb rp rv pp uu C1 v (gone R x o) ((((w.drewN m).drewN n).drewN k).drewN l) := fun m n k l hg =>
    ⟨((((hrf.drewN m).drewN n).drewN k).drewN l), tt, F, T, h.pair (((drewN_below _ _ _).trans (drewN_below _ _ _)).trans ((drewN_below _ _ _).trans (drewN_below _ _ _))), fun j hj => by rw [hg]; exact h.spl j hj⟩
  have hmem : ∀ t ∈ R, t.1 / each < c ∧ (t.1 % each, t.2) ∈ T (t.1 / each) := fun t ht => by
    have h1 := h.rlt t ht
    have h2 : t.1 / each < c := Nat.div_lt_of_lt_mul h1
    refine ⟨h2, ?_⟩
    rw [h.spl _ h2]
    exact spl_mem ht
  by_cases hx : x < 0 ∨ ((each * c : Nat) : Int) ≤ x
  · refine ⟨1, fun m0 => (hgive_no (h.drewN m0).heap he hc x o hx).mono ?_⟩
    rintro e w2 ⟨rfl, m1, rfl⟩
    refine ⟨rfl, (hrf.drewN m0).drewN m1, fun m2 => (rhgive_no (((h.drewN m0).drewN m1).drewN m2).rh he hc x o hx).mono ?_⟩
    rintro e w3 ⟨rfl, m3, rfl⟩
    exact ⟨rfl, same m0 m1 m2 m3 (gone_none fun t ht he => by have := h.rlt t ht; omega)⟩
  · obtain ⟨f, rfl⟩ : ∃ f : Nat, x = (f : Int) := ⟨x.toNat, by omega⟩
    have hf : f < each * c := by omega
    have hi' : f / each < c := Nat.div_lt_of_lt_mul hf
    have hep : 0 < each := by
      rcases Nat.eq_zero_or_pos each with e | e
      · rw [e, Nat.zero_mul] at hf; omega
      · exact e
    have ha : f % each < each := Nat.mod_lt _ hep
    have hfx : f / each * each + f % each = f := by rw [Nat.mul_comm]; exact Nat.div_add_mod f each
    by_cases ho : o < 0 ∨ 10 < o
    · refine ⟨1, fun m0 => ?_⟩
      have h1 := hgive_order (h.drewN m0).heap hc _ hi' _ ha o ho
      rw [hfx] at h1
      refine h1.mono ?_
      rintro e w2 ⟨rfl, m1, rfl⟩
      refine ⟨rfl, (hrf.drewN m0).drewN m1, fun m2 => ?_⟩
      have h2 := rhgive_order (((h.drewN m0).drewN m1).drewN m2).rh h.heap.inv hc _ hi' _ ha o ho
      rw [hfx] at h2
      refine h2.mono ?_
      rintro e w3 ⟨rfl, m3, rfl⟩
      exact ⟨rfl, same m0 m1 m2 m3 (gone_none fun t ht he => by
        obtain ⟨h3, h4⟩ := hmem t ht
        have := ((h.heap.inv _ h3).taken _ h4).1
        simp only at this
        omega)⟩
    · obtain ⟨k, rfl⟩ : ∃ k : Nat, o = (k : Int) := ⟨o.toNat, by omega⟩
      have hk : k ≤ 10 := by omega
      by_cases hin : (f % each, k) ∈ T (f / each)
      · refine ⟨0, fun m0 => ?_⟩
        have h1 := hgive_ok (h.drewN m0).heap hc _ hi' _ k hin
        rw [hfx] at h1
        refine h1.mono ?_
        rintro e w2 ⟨rfl, ⟨m1, hk2⟩, hH2⟩
        have hkk : Kept (bb (f / each)) (bb (f / each) + 13) w w2 := (((Kept.refl _ _ w).drewN m0).drewN m1).trans hk2
        have hA := h.afterHeap hS hi' hkk
        refine ⟨rfl, h.thk1 hS hi' hkk, fun m2 => ?_⟩
        have h2 := rhgive_ok (hA.1.drewN m2) h.heap.inv hc _ hi' _ k hin
        rw [hfx] at h2
        refine h2.mono ?_
        rintro e w3 ⟨rfl, m3, hG⟩
        rw [World.drewN_drewN] at hG
        have I := h.heap.inv _ hi'
        obtain ⟨tt', hP⟩ := h.turned hS hi' hkk hH2 hG (mn_give I (I.give hin) (h.mns _ hi'))
        obtain ⟨tv', hR3, hk3, _⟩ := hG
        refine ⟨rfl, h.thk2 hS hi' hkk hk3, tt', _, _, hP, fun j hj => ?_⟩
        have hR : (f, k) ∈ R := by
          rw [h.spl _ hi'] at hin
          have := spl_back hin
          rwa [hfx] at this
        rw [gone_erase h.rnd, spl_erase j hR]
        by_cases e : j = f / each
        · simp only [if_pos e]; rw [← h.spl j hj, e]
        · simp only [if_neg e]; rw [h.spl j hj]
      · refine ⟨6, fun m0 => ?_⟩
        have h1 := hgive_bad (h.drewN m0).heap hc _ hi' _ k ha hk hin
        rw [hfx] at h1
        refine h1.mono ?_
        rintro e w2 ⟨rfl, m1, rfl⟩
        refine ⟨rfl, (hrf.drewN m0).drewN m1, fun m2 => ?_⟩
        have h2 := rhgive_bad (((h.drewN m0).drewN m1).drewN m2).rh h.heap.inv hc _ hi' _ k ha hk hin
        rw [hfx] at h2
        refine h2.mono ?_
        rintro e w3 ⟨rfl, m3, rfl⟩
        exact ⟨rfl, same m0 m1 m2 m3 (gone_none fun t ht he => by
          obtain ⟨h3, h4⟩ := hmem t ht
          have e1 : t.1 = f := by omega
          have e2 : t.2 = k := by omega
          rw [e1, e2] at h4
          exact hin h4)⟩
end
end Go.Proofs.Ytikahcbkeempdaa
