/- General lemmas on rows, kept blocks, and runs told as pairs (printed by genx.py out of the texts on the reference). -/
import Derived.Test.YtikahcbkeempdaaGreatDoorBuddy
import Derived.Test.YtikahcbkeempdaaGreatDoorBits
import Derived.Deep.QuietTactic
import Derived.BigQuiet
import Derived.Lib.Hide
import Derived.Deep.MidRow
import Derived.Deep.AppendLies
import Derived.Deep.Onto
namespace Go.Proofs.YtikahcbkeempdaaGreatDoor
open Go.RowKit Go.Maps

def usedCells (n : Nat) (U : Nat → Bool) : List Value := (List.range n).map fun x => .bool (U x)
def takCells (T : List (Nat × Nat)) : List Value := T.flatMap fun t => [.int .i64 (t.1 : Int), .int .i64 (t.2 : Int)]
theorem ownsRow_same {w w' : World} {base e sz n : Nat} {v : Value} {xs : List Value} (h : w.ownsRow base e sz v n xs) (k : ∀ g, v.ownBlock = some g → w'.heap[g]? = w.heap[g]?) : w'.ownsRow base e sz v n xs := by
  refine ⟨h.1, ?_⟩
  rcases h.2 with h2 | ⟨g, cap, cur, rfl, hg, hb, r⟩
  · exact .inl h2
  · exact .inr ⟨g, cap, cur, rfl, hg, (k g rfl).trans hb, r⟩
def intV (l : List Nat) : List Value := l.map fun a : Nat => .int .i64 (a : Int)
/-- Nothing but the blocks that S names and new ones has turned. -/
structure KeptF (S : Nat → Prop) (w w' : World) : Prop where
  os : w'.os = w.os
  tape : w'.tape = w.tape
  output : w'.output = w.output
  size : w.heap.size ≤ w'.heap.size
  block : ∀ i, i < w.heap.size → ¬ S i → w'.heap[i]? = w.heap[i]?
theorem KeptF.refl (S : Nat → Prop) (w : World) : KeptF S w w := ⟨rfl, rfl, rfl, Nat.le_refl _, fun _ _ _ => rfl⟩
theorem KeptF.trans {S : Nat → Prop} {a b c : World} (h : KeptF S a b) (k : KeptF S b c) : KeptF S a c :=
  ⟨k.os.trans h.os, k.tape.trans h.tape, k.output.trans h.output, Nat.le_trans h.size k.size, fun i hi hn => (k.block i (Nat.lt_of_lt_of_le hi h.size) hn).trans (h.block i hi hn)⟩
theorem KeptF.wider {S S' : Nat → Prop} {a b : World} (h : KeptF S a b) (hs : ∀ i, i < a.heap.size → S i → S' i) : KeptF S' a b :=
  ⟨h.os, h.tape, h.output, h.size, fun i hi hn => h.block i hi fun hs' => hn (hs i hi hs')⟩
theorem KeptF.of_below {a w : World} (h : Below a.heap.size a w) (S : Nat → Prop) : KeptF S a w := ⟨h.os, h.tape, h.output, h.size, fun k hk _ => h.block k hk⟩
theorem KeptF.below {S : Nat → Prop} {a w : World} (h : KeptF S a w) {B : Nat} (hB : B ≤ a.heap.size) (hS : ∀ i, S i → B ≤ i) : Below B a w :=
  ⟨h.os, h.tape, h.output, h.size, fun k hk => h.block k (by omega) fun hs => by have := hS k hs; omega⟩
theorem KeptF.drewN {S : Nat → Prop} {a w : World} (h : KeptF S a w) (n : Nat) : KeptF S a (w.drewN n) := h.trans ⟨rfl, rfl, rfl, Nat.le_refl _, fun _ _ _ => rfl⟩
theorem KeptF.setCell {S : Nat → Prop} {a w : World} (h : KeptF S a w) {p : Addr} (u : Value) (hp : S p.block ∨ a.heap.size ≤ p.block) : KeptF S a (w.setCell p u) :=
  ⟨h.os, h.tape, h.output, by simpa [World.setCell] using h.size, fun i hi hn => (Below.heap_setCell w p u i (by
    rcases hp with hp | hp
    · exact fun e => hn (e ▸ hp)
    · exact fun e => by omega)).trans (h.block i hi hn)⟩
theorem KeptF.alloc {S : Nat → Prop} {a w : World} (h : KeptF S a w) (o : Obj) : KeptF S a (w.alloc o) :=
  h.trans ⟨rfl, rfl, rfl, by simp, fun i hi _ => Below.heap_alloc w o i hi⟩
theorem KeptF.grown {S : Nat → Prop} {a w w' : World} {row : Option Nat} (h : KeptF S a w) (hg : w.grownBy w' row) (hr : ∀ k, row = some k → S k ∨ a.heap.size ≤ k) : KeptF S a w' :=
  ⟨hg.os.trans h.os, hg.tape.trans h.tape, hg.output.trans h.output, Nat.le_trans h.size hg.size, fun i hi hn => (hg.block i (Nat.lt_of_lt_of_le hi h.size) (fun e => by
    rcases hr i e.symm with h' | h'
    · exact hn h'
    · omega)).trans (h.block i hi hn)⟩
theorem KeptF.of_kept {lo hi : Nat} {a b : World} (h : Kept lo hi a b) : KeptF (fun i => lo ≤ i ∧ i < hi) a b := ⟨h.os, h.tape, h.output, h.size, h.block⟩
def freeTo (U : Nat → Bool) (i : Nat) : Nat := ((List.range i).filter fun x => !U x).length
theorem freeTo_yes {U : Nat → Bool} {i : Nat} (h : U i = false) : freeTo U (i + 1) = freeTo U i + 1 := by simp [freeTo, List.range_succ, h]
theorem freeTo_no {U : Nat → Bool} {i : Nat} (h : U i = true) : freeTo U (i + 1) = freeTo U i := by simp [freeTo, List.range_succ, h]
theorem freeTo_le (U : Nat → Bool) (i : Nat) : freeTo U i ≤ i := Nat.le_trans (List.length_filter_le _ _) (by simp)
def setU (U : Nat → Bool) (a i : Nat) (b : Bool) (x : Nat) : Bool := if a ≤ x ∧ x < a + i then b else U x
theorem usedCells_set (n : Nat) (U : Nat → Bool) (x : Nat) (b : Bool) : (usedCells n U).toArray.setIfInBounds x (.bool b) = (usedCells n (fun y => if y = x then b else U y)).toArray := by
  apply Array.ext
  · simp [usedCells]
  · intro i h1 h2
    simp only [usedCells, Array.size_setIfInBounds, List.size_toArray, List.length_map, List.length_range] at h1
    rw [Array.getElem_setIfInBounds (by simpa [usedCells] using h1)]
    by_cases e : x = i
    · subst e; simp [usedCells]
    · simp [usedCells, e, Ne.symm e]
theorem infoB : (Tryz.prog.info? 4).map (fun i => (i.zero, i.size, i.bytes)) = some (some (.bool false), 1, 1) := by kernel_rfl
theorem takCells_snoc (T : List (Nat × Nat)) (a o : Nat) : takCells (T ++ [(a, o)]) = takCells T ++ [.int .i64 (a : Int), .int .i64 (o : Int)] := by simp [takCells]
theorem own_shape2 {w : World} {base e n : Nat} {v : Value} {xs : List Value} (h : w.ownsRow base e 2 v n xs) :
    ∃ oa cap, v = .slice oa n cap ∧ n ≤ cap ∧ (0 < n → ∃ g, oa = some ⟨g, 0, none⟩ ∧ g < w.heap.size ∧ v.ownBlock = some g ∧ ∀ i, i < n * 2 → w.cell? ⟨g, i, none⟩ = some (xs.getD i undef)) := by
  rcases h.2 with ⟨rfl, rfl⟩ | ⟨g, cap, cur, rfl, hbase, hb, h1, h2, h3, h4⟩
  · exact ⟨none, 0, rfl, Nat.le_refl _, fun h => absurd h (by omega)⟩
  · refine ⟨_, cap, rfl, h1, fun _ => ⟨g, rfl, (Array.getElem?_eq_some_iff.1 hb).1, rfl, fun i hi => ?_⟩⟩
    have hx : i < xs.length := by rw [h.1]; exact hi
    rw [h.cellAt i hi]
    simp [hx]
theorem takCells_len (T : List (Nat × Nat)) : (takCells T).length = T.length * 2 := by
  induction T with
  | nil => rfl
  | cons t T ih => simp only [takCells, List.flatMap_cons, List.length_append] at *; rw [ih]; simp; omega
theorem takCells_at (T : List (Nat × Nat)) {i : Nat} (hi : i < T.length) : (takCells T).getD (i * 2) undef = .int .i64 ((T[i]).1 : Int) ∧ (takCells T).getD (i * 2 + 1) undef = .int .i64 ((T[i]).2 : Int) := by
  induction T generalizing i with
  | nil => simp at hi
  | cons t T ih =>
    cases i with
    | zero => simp [takCells]
    | succ i =>
      have := ih (i := i) (by simpa using hi)
      simp only [takCells, List.flatMap_cons] at this ⊢
      rw [show (i + 1) * 2 = i * 2 + 1 + 1 by omega, show i * 2 + 1 + 1 + 1 = (i * 2 + 1) + 1 + 1 by omega]
      simpa using this
theorem takCells_take (T : List (Nat × Nat)) (i : Nat) : (takCells T).take (i * 2) = takCells (T.take i) := by
  induction T generalizing i with
  | nil => simp [takCells]
  | cons t T ih =>
    cases i with
    | zero => simp [takCells]
    | succ i =>
      have := ih i
      simp only [takCells, List.flatMap_cons, List.take_succ_cons] at this ⊢
      rw [show (i + 1) * 2 = i * 2 + 1 + 1 by omega]
      simpa using this
theorem takCells_drop (T : List (Nat × Nat)) (i : Nat) : (takCells T).drop (i * 2) = takCells (T.drop i) := by
  induction T generalizing i with
  | nil => simp [takCells]
  | cons t T ih =>
    cases i with
    | zero => simp [takCells]
    | succ i =>
      have := ih i
      simp only [takCells, List.flatMap_cons, List.drop_succ_cons] at this ⊢
      rw [show (i + 1) * 2 = i * 2 + 1 + 1 by omega]
      simpa using this
theorem takCells_app (S T : List (Nat × Nat)) : takCells (S ++ T) = takCells S ++ takCells T := by simp [takCells]
theorem step_append_own {P : Program} (w : World) {ops : Array Oper} {o : Oper} {a : Act} {K : Act → World → Prop} {Q : Exit → Act → World → Prop} {E : Prop} (hgd : o.guard = none) (s x : Operand) (t : TypeId)
    (ho : o.op = .call { callee := .builtin .append, args := #[s, x], argTypes := #[t, t] })
    (base : Nat) (e : TypeId) (i : TypeInfo) (z : Value) (size bytes : Nat) (ht : P.underlying t = some (.slice e)) (hi : P.info? e = some i) (hz : i.zero = some z)
    (hsize : i.size = size) (hby : i.bytes = bytes) (hzs : z.cells.size = size) (hsz : 0 < size)
    (v : Value) (n : Nat) (xs : List Value) (hs : a.eval s = v) (hown : w.ownsRow base e size v n xs)
    (ad : Addr) (m c : Nat) (news : List Value) (hx : a.eval x = .slice (some ad) m c) (hl : news.length = m * size) (hnews : ∀ j u, news[j]? = some u → w.cell? (ad.add j) = some u) (h1 : ∀ u ∈ news, u.oneCell' = true)
    (h63 : n + m ≤ maxLen) (hbytes : (n + m) * bytes ≤ 140737488355328) (hbase : base ≤ w.heap.size)
    (h : ∀ v' w', w'.ownsRow base e size v' (n + m) (xs ++ news) → w.grownBy w' v.ownBlock → (v' = .slice none 0 0 ↔ v = .slice none 0 0 ∧ m = 0) → K (a.put o.dst v') w') :
    if Region.wanted o (yielded ops a.tmps) = true then Oper.wp P o a w K Q else E := by
  have hw : Region.wanted o (yielded ops a.tmps) = true := by simp [Region.wanted, hgd]
  rw [if_pos hw]
  exact wp_append_own w s x t ho base e i z size bytes ht hi hz hsize hby hzs hsz v n xs hs hown ad m c news hx hl hnews h1 h63 hbytes hbase h
theorem takCells_one (T : List (Nat × Nat)) : ∀ u ∈ takCells T, u.oneCell' = true := by
  intro u hu
  simp only [takCells, List.mem_flatMap] at hu
  obtain ⟨t, _, h⟩ := hu
  simp only [List.mem_cons, List.not_mem_nil, or_false] at h
  rcases h with rfl | rfl <;> rfl
theorem erase_idx (T : List (Nat × Nat)) (t : Nat × Nat) : T.erase t = T.take (T.idxOf t) ++ T.drop (T.idxOf t + 1) := by
  rw [List.erase_eq_eraseIdx_of_idxOf rfl, List.eraseIdx_eq_take_drop_succ]
theorem used_unset {T : List (Nat × Nat)} {a o : Nat} (hm : (a, o) ∈ T) (hd : T.Pairwise fun s t => ∀ x, Bu.cov x s = true → Bu.cov x t = true → False) (x : Nat) : setU (Bu.used T) a (2 ^ o) false x = Bu.used (T.erase (a, o)) x := by
  unfold setU
  by_cases hc : a ≤ x ∧ x < a + 2 ^ o
  · rw [if_pos hc]
    symm
    cases hu : Bu.used (T.erase (a, o)) x with
    | false => rfl
    | true =>
      obtain ⟨t, ht, hct⟩ := Bu.used_true hu
      exact (Bu.disj_sym hd hm ht x ((Bu.cov_iff x (a, o)).2 hc) hct).elim
  · rw [if_neg hc]
    cases hu : Bu.used T x with
    | false => exact (Bu.used_mono (fun _ h => List.mem_of_mem_erase h) hu).symm
    | true =>
      obtain ⟨t, ht, hct⟩ := Bu.used_true hu
      have : t ≠ (a, o) := fun e => by subst e; exact hc ((Bu.cov_iff x (a, o)).1 hct)
      exact (Bu.used_of_cov ((List.mem_erase_of_ne this).2 ht) hct).symm
theorem List.getElem?_eq_some_of_take {α : Type} {l : List α} {n j : Nat} {x : α} (h : (l.take n)[j]? = some x) : l[j]? = some x := by
  rw [List.getElem?_take] at h
  split at h
  · exact h
  · cases h
theorem own_block2 {w : World} {base e n : Nat} {v : Value} {xs : List Value} (h : w.ownsRow base e 2 v n xs) (hn : 0 < n) :
    ∃ g cap cur, v = .slice (some ⟨g, 0, none⟩) n cap ∧ w.heap[g]? = some (.cells cur e (0, 0)) ∧ n ≤ cap ∧ cur.toList.take (n * 2) = xs := by
  rcases h.2 with ⟨_, h0⟩ | ⟨g, cap, cur, rfl, _, hb, h1, _, _, h4⟩
  · omega
  · exact ⟨g, cap, cur, rfl, hb, h1, h4⟩
theorem news_take {W : World} {g e i : Nat} {cur : Array Value} {fr : Nat × Nat} {T : List (Nat × Nat)} (hb : W.heap[g]? = some (.cells cur e fr)) (hc : cur.toList.take (T.length * 2) = takCells T) :
    ∀ j u, (takCells (T.take i))[j]? = some u → W.cell? ((⟨g, 0, none⟩ : Addr).add j) = some u := by
  intro j u hj
  rw [← takCells_take, ← hc] at hj
  rw [Addr.add_mid, Nat.zero_add]
  simp only [World.cell?, hb, Option.isSome_none, Bool.false_eq_true, if_false]
  rw [← Array.getElem?_toList]
  exact List.getElem?_eq_some_of_take (List.getElem?_eq_some_of_take hj)
theorem news_drop {W : World} {g e i : Nat} {cur : Array Value} {fr : Nat × Nat} {T : List (Nat × Nat)} (hb : W.heap[g]? = some (.cells cur e fr)) (hc : cur.toList.take (T.length * 2) = takCells T) :
    ∀ j u, (takCells (T.drop i))[j]? = some u → W.cell? ((⟨g, i * 2, none⟩ : Addr).add j) = some u := by
  intro j u hj
  rw [← takCells_drop, ← hc, List.getElem?_drop] at hj
  rw [Addr.add_mid]
  simp only [World.cell?, hb, Option.isSome_none, Bool.false_eq_true, if_false]
  rw [← Array.getElem?_toList]
  exact List.getElem?_eq_some_of_take hj
theorem own_app {w : World} {base e N : Nat} {v : Value} {A B : List (Nat × Nat)} (h : w.ownsRow base e 2 v N ([] ++ takCells A ++ takCells B)) : w.ownsRow base e 2 v (A ++ B).length (takCells (A ++ B)) := by
  rw [List.nil_append, ← takCells_app] at h
  have hl := h.1
  rw [takCells_len] at hl
  have : N = (A ++ B).length := by omega
  subst this
  exact h
theorem ints_intV (l : List Nat) : (ints l).map (Value.int .i64) = intV l := by simp [ints, intV, Function.comp_def]
theorem u64mod' (a m : Int) (hm : 0 < m) : ∃ q : Nat, (IntKind.u64.wrap a).tmod m = (q : Int) ∧ (q : Int) < m := by
  have h : 0 ≤ IntKind.u64.wrap a := by
    have : IntKind.u64.wrap a = a % 18446744073709551616 := by simp [IntKind.wrap, IntKind.bits, IntKind.signed]
    rw [this]; omega
  have h1 := Int.emod_lt_of_pos (IntKind.u64.wrap a) hm
  have h2 := Int.emod_nonneg (IntKind.u64.wrap a) (show m ≠ 0 by omega)
  refine ⟨((IntKind.u64.wrap a).tmod m).toNat, ?_, ?_⟩ <;> rw [Int.tmod_eq_emod_of_nonneg h] <;> omega
theorem shl1 {k : Nat} (hk : k ≤ 10) : IntKind.i64.wrap ((2 : Int) ^ k) = ((2 ^ k : Nat) : Int) := by
  have := powI hk
  rw [castPow] at this ⊢
  exact IntWalk.i64_in _ (by omega)

end Go.Proofs.YtikahcbkeempdaaGreatDoor
