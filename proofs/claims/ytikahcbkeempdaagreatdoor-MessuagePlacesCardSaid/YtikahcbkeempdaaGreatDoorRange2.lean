/- A range over a function that calls yield just twice, and a body that always goes on: one law of the walk. -/
import Derived.Test.YtikahcbkeempdaaGreatDoorProg
import Derived.RangeFuncNested
import Derived.RangeFuncBound
import Derived.RangeFuncCalls
import Derived.RangeFuncLeaves
namespace Go.Proofs.YtikahcbkeempdaaGreatDoor
open Go.RowKit

def goesOn (B : Nat) (I : World → Prop) (W : World) : Exit → Act → World → Prop
  | .normal, _, W' => KeepsFrom B W W' ∧ I W'
  | _, _, _ => False

theorem wpIn_range_two {P : Program} {g : Operand} {ps : Array Tmp} {assign body : Code} {Q : Exit → Act → World → Prop} {a : Act} {w : World} {gf : Nat} {lb : Array Value}
    (hg : a.eval g = .func (.func gf) #[] lb) (eg : ∀ args w, (callFunc gf args).run P w = .ok (.enter gf args) w) (hps : ps.size = 1) (x1 x2 : Value) (step : World → World) (a1 a2 : Act) (I0 I1 J1 I2 : World → Prop)
    (h0 : ∀ o : Obj, I0 ((w.alloc (.deferred (some []))).alloc o))
    (s0 : ∀ W o, I0 W → I0 (W.putObj (w.heap.size + 1) o)) (s1 : ∀ W o, I1 W → I1 (W.putObj (w.heap.size + 1) o)) (t1 : ∀ W o, J1 W → J1 (W.putObj (w.heap.size + 1) o)) (s2 : ∀ W o, I2 W → I2 (W.putObj (w.heap.size + 1) o))
    (hstep : ∀ W, I1 W → J1 (step W) ∧ KeepsFrom w.heap.size W (step W))
    (hassign1 : ∀ (l : Nat) (W : World) (K : Act → World → Prop), K a1 W → assign.wpIn (Fence.wide.inRound l) 3 P (Exit.then K (fun _ _ _ => False)) { tmps := (ps.zip #[x1]).foldl (fun t (p, v) => t.setIfInBounds p v) a.tmps, defers := [] } W)
    (hassign2 : ∀ (l : Nat) (W : World) (K : Act → World → Prop), K a2 W → assign.wpIn (Fence.wide.inRound l) 3 P (Exit.then K (fun _ _ _ => False)) { tmps := (ps.zip #[x2]).foldl (fun t (p, v) => t.setIfInBounds p v) a.tmps, defers := [] } W)
    (hbody1 : ∀ (l : Nat) (W : World), I0 W → body.wpIn (Fence.wide.inRound l) 3 P (goesOn w.heap.size I1 W) a1 W)
    (hbody2 : ∀ (l : Nat) (W : World), J1 W → body.wpIn (Fence.wide.inRound l) 3 P (goesOn w.heap.size I2 W) a2 W)
    (hiter : ∀ (l : Nat) (W : World) (R1 R : World → Prop), I0 W → (∀ W', R1 W' → I1 W') →
      YieldAt Fence.wide 3 P l #[x1] W (fun e W' => e = .returned (.bool true) ∧ R1 W') →
      (∀ W', R1 W' → YieldAt Fence.wide 3 P l #[x2] (step W') fun e W'' => (∃ v, e = .returned v) ∧ R W'') →
      CallsIn Fence.wide 4 P gf (#[.func (.yield l) #[] #[]] ++ lb) W fun e W' => (∃ v, e = .returned v) ∧ R W')
    (hdone : ∀ (W : World), I2 W → W.heap[w.heap.size]? = some (.deferred (some [])) → Q .normal { a with defers := { target := .collected w.heap.size, args := #[] } :: a.defers } W) :
    (Code.rangeFunc g ps assign body).wpIn Fence.wide 5 P Q a w := by
  refine wpIn_rangeFunc ?_
  intro fn hfn
  obtain ⟨rec, hrec⟩ : ∃ rec : LoopState → Loop, rec = fun st => { state := st, pending := none, fn, tmps := a.tmps, params := ps, assign, body, defers := w.heap.size } := ⟨_, rfl⟩
  obtain ⟨W1, hW1⟩ : ∃ W1, (w.alloc (.deferred (some []))).alloc (.loop (rec .ready)) = W1 := ⟨_, rfl⟩
  have hL1 : W1.heap[w.heap.size + 1]? = some (.loop (rec .ready)) := by
    rw [← hW1]; have := World.alloc_heap_new (w.alloc (.deferred (some []))) (.loop (rec .ready)); rwa [World.size_alloc] at this
  have hK1 : W1.heap[w.heap.size]? = some (.deferred (some [])) := by
    rw [← hW1]; exact (Below.heap_alloc _ _ _ (by simp)).trans (World.alloc_heap_new w _)
  have hI1 : I0 W1 := by rw [← hW1]; exact h0 _
  have round : ∀ (x : Value) (ax : Act) (J K : World → Prop) (W : World), (∀ W o, J W → J (W.putObj (w.heap.size + 1) o)) → (∀ W o, K W → K (W.putObj (w.heap.size + 1) o)) →
      (∀ (l : Nat) (W : World) (K : Act → World → Prop), K ax W → assign.wpIn (Fence.wide.inRound l) 3 P (Exit.then K (fun _ _ _ => False)) { tmps := (ps.zip #[x]).foldl (fun t (p, v) => t.setIfInBounds p v) a.tmps, defers := [] } W) →
      (∀ (l : Nat) (W : World), J W → body.wpIn (Fence.wide.inRound l) 3 P (goesOn w.heap.size K W) ax W) →
      J W → W.heap[w.heap.size + 1]? = some (.loop (rec .ready)) → W.heap[w.heap.size]? = some (.deferred (some [])) →
      YieldAt Fence.wide 3 P (w.heap.size + 1) #[x] W fun e W' => e = .returned (.bool true) ∧ K W' ∧ W'.heap[w.heap.size + 1]? = some (.loop (rec .ready)) ∧ W'.heap[w.heap.size]? = some (.deferred (some [])) := by
    intro x ax J K W sJ sK hass hbod hj hl hk
    have hlt : w.heap.size + 1 < W.heap.size := (Array.getElem?_eq_some_iff.1 hl).1
    have hy := run_yield (P := P) (args := #[x]) hl (by rw [hrec]; simp [hps])
    rw [hrec] at hy
    refine ⟨fn, _, assign, body, hy, roundIn_of_wpIn hfn (hass _ W _ ⟨_, run_beginRound hl (by rw [hrec]), ?_⟩)⟩
    have hl2 : (W.putObj (w.heap.size + 1) (.loop { rec .ready with state := .busy })).heap[w.heap.size + 1]? = some (.loop { rec .ready with state := .busy }) := World.putObj_heap_same hlt
    have hk2 : (W.putObj (w.heap.size + 1) (.loop { rec .ready with state := .busy })).heap[w.heap.size]? = some (.deferred (some [])) := (World.putObj_heap_other (by omega)).trans hk
    refine wpIn_mono (hbod _ _ (sJ _ _ hj)) ?_
    rintro e a3 W3 hp
    cases e with
    | normal =>
      obtain ⟨hk3, hi3⟩ := hp
      have hl3 := hk3.same _ _ (by omega) hl2 rfl
      have hr := run_endRound (P := P) none hl3
      refine ⟨_, _, hr, rfl, sK _ _ hi3, ?_, (World.putObj_heap_other (by omega)).trans (hk3.same _ _ (Nat.le_refl _) hk2 rfl)⟩
      rw [World.putObj_heap_same (Array.getElem?_eq_some_iff.1 hl3).1, hrec]
      rfl
    | ret => exact hp.elim
    | exit id => exact hp.elim
    | goto t => exact hp.elim
    | panic ch => exact hp.elim
    | outgrown => exact hp.elim
  refine ⟨w.heap.size + 1, [{ target := .collected w.heap.size, args := #[] }], W1, { target := .fn (.func gf) lb, args := #[.func (.yield (w.heap.size + 1)) #[] #[]] }, W1, gf,
    #[.func (.yield (w.heap.size + 1)) #[] #[]] ++ lb, W1, ?_, ?_, fun _ _ => trivial, ?_, fun _ => by decide, ?_⟩
  · rw [← hW1, hrec]; exact run_enterLoop_outer _ _ _ _ _
  · simp only [resolve, hg]
    simp [go_sem]
  · simp [invoke, go_sem, eg]
  · refine (hiter (w.heap.size + 1) W1 (fun W => I1 W ∧ W.heap[w.heap.size + 1]? = some (.loop (rec .ready)) ∧ W.heap[w.heap.size]? = some (.deferred (some [])))
      (fun W => I2 W ∧ W.heap[w.heap.size + 1]? = some (.loop (rec .ready)) ∧ W.heap[w.heap.size]? = some (.deferred (some []))) hI1 (fun _ h => h.1)
      (round x1 a1 I0 I1 W1 s0 s1 hassign1 hbody1 hI1 hL1 hK1) ?_).mono ?_
    · rintro W' ⟨hi, hl, hk⟩
      obtain ⟨hj, hkp⟩ := hstep W' hi
      obtain ⟨fn', t', as', bo', hy, hR⟩ := round x2 a2 J1 I2 (step W') t1 s2 hassign2 hbody2 hj (hkp.same _ _ (by omega) hl rfl) (hkp.same _ _ (Nat.le_refl _) hk rfl)
      exact ⟨fn', t', as', bo', hy, hR.mono fun e w' h => ⟨⟨_, h.1⟩, h.2⟩⟩
    · rintro e W2 ⟨⟨v, rfl⟩, hi, hl, hk⟩
      refine ⟨none, _, by have := run_endLoop (P := P) hl (by rw [hrec]; simp); rw [hrec] at this; exact this, hdone _ (s2 _ _ hi) ((World.putObj_heap_other (by omega)).trans hk)⟩

end Go.Proofs.YtikahcbkeempdaaGreatDoor
