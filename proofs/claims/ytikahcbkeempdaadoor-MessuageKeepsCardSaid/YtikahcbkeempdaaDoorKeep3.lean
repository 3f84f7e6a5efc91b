/- The law MessuageKeeps: its state, and what each step makes of it. -/
import Derived.Test.YtikahcbkeempdaaDoorKeep1
import Derived.Test.YtikahcbkeempdaaDoorKeep2
import Derived.Test.YtikahcbkeempdaaDoorRing1
namespace Go.Proofs.YtikahcbkeempdaaDoor
open Go.RowKit Go.Maps Go.Lib

/-- What the numbers say: the list L, those on their way Q, so many out. -/
structure KeepN (n m : Nat) (L Q : List Nat) (out : Nat) : Prop where
  n8 : n = 8 ∧ m < 256 ∨ n = 4 ∧ m < 16
  nodup : (L ++ Q).Nodup
  bit : ∀ x ∈ L ++ Q, x < n ∧ m.testBit x = true
  count : Lib.onesCount m = L.length + Q.length + out

theorem KeepN.m_lt {n m out : Nat} {L Q : List Nat} (h : KeepN n m L Q out) : m < 256 := by rcases h.n8 with h | h <;> omega
theorem KeepN.n_le {n m out : Nat} {L Q : List Nat} (h : KeepN n m L Q out) : n ≤ 8 := by rcases h.n8 with h | h <;> omega
theorem KeepN.ones {n m out : Nat} {L Q : List Nat} (h : KeepN n m L Q out) : Lib.onesCount m ≤ n := by
  rcases h.n8 with ⟨rfl, hm⟩ | ⟨rfl, hm⟩
  · exact mask_ones.1 ⟨m, hm⟩
  · exact mask_ones.2 ⟨m, hm⟩
theorem KeepN.full {n m out : Nat} {L Q : List Nat} (h : KeepN n m L Q out) : n ≤ lowBit m ∨ (lowBit m < n ∧ m ≠ 255 ∧ lowBit m ∉ L ++ Q ∧ KeepN n (m + 2 ^ lowBit m) (L ++ [lowBit m]) Q out) := by
  by_cases h255 : m = 255
  · left
    rcases h.n8 with ⟨rfl, hm⟩ | ⟨rfl, hm⟩
    · rw [h255, mask_full.1]
      omega
    · omega
  obtain ⟨a1, a2, a3, a4, a5, a6⟩ := mask_take8 ⟨m, h.m_lt⟩ h255
  simp only at a1 a2 a3 a4 a5 a6
  by_cases h4 : n ≤ lowBit m
  · exact .inl h4
  right
  have hnot : lowBit m ∉ L ++ Q := fun hm => by
    have := (h.bit _ hm).2
    rw [a2] at this
    cases this
  refine ⟨by omega, h255, hnot, ?_, ?_, ?_, ?_⟩
  · rcases h.n8 with ⟨rfl, hm⟩ | ⟨rfl, hm⟩
    · exact .inl ⟨rfl, a3⟩
    · refine .inr ⟨rfl, ?_⟩
      by_cases e : m = 15
      · exfalso
        rw [e, mask_full.2] at h4
        omega
      · exact (mask_take4 ⟨m, hm⟩ e).2
  · have hp : (L ++ [lowBit m] ++ Q).Perm (lowBit m :: (L ++ Q)) := by
      rw [List.append_assoc]
      exact List.perm_middle
    exact hp.nodup_iff.2 (List.nodup_cons.2 ⟨hnot, h.nodup⟩)
  · intro x hx
    have : x = lowBit m ∨ x ∈ L ++ Q := by
      simp only [List.mem_append, List.mem_singleton] at hx ⊢
      rcases hx with (hx | hx) | hx
      · exact .inr (.inl hx)
      · exact .inl hx
      · exact .inr (.inr hx)
    rcases this with rfl | hx
    · exact ⟨by omega, by rw [a6 ⟨_, a1⟩]; simp⟩
    · obtain ⟨b1, b2⟩ := h.bit x hx
      refine ⟨b1, ?_⟩
      rw [a6 ⟨x, by have := h.n_le; omega⟩, b2]
      rfl
  · rw [a4, h.count]
    simp
    omega
/-- The first of those on their way is given. -/
theorem KeepN.give {n m out x : Nat} {L Q : List Nat} (h : KeepN n m L (x :: Q) out) : x < n ∧ x < 8 ∧ m.testBit x = true ∧ (m - 2 ^ x).testBit x = false ∧ KeepN n (m - 2 ^ x) L Q out := by
  obtain ⟨b1, b2⟩ := h.bit x (by simp)
  have hx8 : x < 8 := by have := h.n_le; omega
  obtain ⟨a1, a2, a3, a4, a5⟩ := mask_give8 ⟨m, h.m_lt⟩ ⟨x, hx8⟩ b2
  simp only at a1 a2 a3 a4 a5
  have hp : (L ++ x :: Q).Perm (x :: (L ++ Q)) := List.perm_middle
  have hnd := List.nodup_cons.1 (hp.nodup_iff.1 h.nodup)
  refine ⟨b1, hx8, b2, a2, ?_, hnd.2, ?_, ?_⟩
  · rcases h.n8 with ⟨rfl, hm⟩ | ⟨rfl, hm⟩
    · exact .inl ⟨rfl, Nat.lt_of_le_of_lt (Nat.sub_le _ _) hm⟩
    · exact .inr ⟨rfl, Nat.lt_of_le_of_lt (Nat.sub_le _ _) hm⟩
  · intro y hy
    obtain ⟨c1, c2⟩ := h.bit y (hp.mem_iff.2 (List.mem_cons_of_mem _ hy))
    refine ⟨c1, ?_⟩
    rw [a5 ⟨y, by have := h.n_le; omega⟩, c2]
    have : y ≠ x := fun e => hnd.1 (e ▸ hy)
    simp [this]
  · have := h.count
    simp only [List.length_cons] at this
    omega
theorem KeepN.flush {n m out x : Nat} {L Q : List Nat} (h : KeepN n m (x :: L) Q out) : KeepN n m L (x :: Q) out := by
  have hp : (x :: L ++ Q).Perm (L ++ x :: Q) := (List.perm_middle (l₁ := L) (l₂ := Q) (a := x)).symm
  refine ⟨h.n8, hp.nodup_iff.1 h.nodup, fun y hy => h.bit y (hp.mem_iff.2 hy), ?_⟩
  have := h.count
  simp only [List.length_cons] at this ⊢
  omega
theorem KeepN.back {n m out x : Nat} {L Q : List Nat} (h : KeepN n m L (x :: Q) out) : KeepN n m L (Q ++ [x]) out := by
  have hp : (L ++ x :: Q).Perm (L ++ (Q ++ [x])) := List.Perm.append_left L (List.perm_append_singleton x Q).symm
  refine ⟨h.n8, hp.nodup_iff.1 h.nodup, fun y hy => h.bit y (hp.mem_iff.2 hy), ?_⟩
  have := h.count
  simp only [List.length_cons, List.length_append, List.length_nil] at this ⊢
  omega
theorem KeepN.pop {n m out x : Nat} {L Q : List Nat} (h : KeepN n m (L ++ [x]) Q out) : KeepN n m L Q (out + 1) := by
  have hs : (L ++ Q).Sublist (L ++ [x] ++ Q) := by
    rw [List.append_assoc]
    exact List.Sublist.append_left (List.sublist_append_right [x] Q) L
  refine ⟨h.n8, h.nodup.sublist hs, fun y hy => h.bit y (hs.subset hy), ?_⟩
  have := h.count
  simp only [List.length_append, List.length_cons, List.length_nil] at this
  omega

/-- The span, the cache and the ring. -/
structure KeepS (w : World) (sp cp c q C k n m : Nat) (v : Value) (L R Q : List Nat) (out : Nat) : Prop where
  span : SpanAt w sp k n m
  cache : CacheAt w cp k C v L
  ring : RingAt 84 w q c 4 (intV R)
  num : KeepN n m L Q out
  r4 : R.length ≤ 4
  ord : sp < cp ∧ cp < c ∧ q = c + 1 ∧ q < C

section
variable {w w' : World} {sp cp c q C k n m m' out out' : Nat} {v v' : Value} {L L' R R' Q Q' : List Nat}
theorem KeepS.below (h : KeepS w sp cp c q C k n m v L R Q out) (b : Below w.heap.size w w') : KeepS w' sp cp c q C k n m v L R Q out :=
  ⟨h.span.same (b.block _ h.span.lt), h.cache.below b, h.ring.same (b.block _ h.ring.lt.1) (b.block _ h.ring.lt.2), h.num, h.r4, h.ord⟩
theorem KeepS.onSpan (h : KeepS w sp cp c q C k n m v L R Q out) (hk : Kept sp (sp + 1) w w') (hs : SpanAt w' sp k n m') (hn : KeepN n m' L Q' out') : KeepS w' sp cp c q C k n m' v L R Q' out' := by
  have ho := h.ord
  refine ⟨hs, h.cache.keptF (KeptF.of_kept hk) (by omega) (fun g hg => by have := (h.cache.row.lt g hg).1; omega), h.ring.kept hk (by omega) (by omega), hn, h.r4, ho⟩
theorem KeepS.onCache (h : KeepS w sp cp c q C k n m v L R Q out) (hk : KeptF (cacheS cp C) w w') (hc : CacheAt w' cp k C v' L') (hn : KeepN n m L' Q' out') : KeepS w' sp cp c q C k n m v' L' R Q' out' := by
  have ho := h.ord
  refine ⟨h.span.same (hk.block _ h.span.lt ?_), hc, h.ring.same (hk.block _ h.ring.lt.1 ?_) (hk.block _ h.ring.lt.2 ?_), hn, h.r4, ho⟩ <;> (unfold cacheS; omega)
theorem KeepS.onRing (h : KeepS w sp cp c q C k n m v L R Q out) (hk : Kept c (c + 1) w w') (hr : RingAt 84 w' q c 4 (intV R')) (hr4 : R'.length ≤ 4) (hn : KeepN n m L Q' out') : KeepS w' sp cp c q C k n m v L R' Q' out' := by
  have ho := h.ord
  refine ⟨h.span.same (hk.block _ h.span.lt (by omega)), h.cache.keptF (KeptF.of_kept hk) (by omega) (fun g hg => by have := (h.cache.row.lt g hg).1; omega), hr, hn, hr4, ho⟩
theorem KeepS.cacheBelow (h : KeepS w sp cp c q C k n m v L R Q out) {B : Nat} (hB : B ≤ sp) (hk : KeptF (cacheS cp C) w w') : Below B w w' := by
  have := h.span.lt
  have ho := h.ord
  exact hk.below (by omega) (fun i hi => by unfold cacheS at hi; omega)
end
end Go.Proofs.YtikahcbkeempdaaDoor
