/- Sets of whole numbers kept in a map[int]bool, and a map[int]int: what the operations do, for the walks. -/
import Derived.Test.YtikahcbkeempdaaProg
import Derived.Test.YtikahcbkeempdaaBuStep
import Derived.Maps.OwnSet
import Derived.Maps.OwnOps
import Derived.Maps.RangeWalk
import Derived.WalkKit
import Derived.WalkSpells
import Derived.WalkLawsBesides
namespace Go.Proofs.Ytikahcbkeempdaa
open Go.RowKit Go.Maps

theorem lawI : Keyed Try.prog 3 := int_keyed Try.underlying3
theorem zeroB (w : World) : (zeroValue 4).run Try.prog w = .ok (.bool false) w := by kernel_rfl
theorem zeroI (w : World) : (zeroValue 3).run Try.prog w = .ok (.int .i64 0) w := by kernel_rfl

theorem infoI : (Try.prog.info? 3).map (fun i => (i.zero, i.size, i.bytes)) = some (some (.int .i64 0), 1, 8) := by kernel_rfl

/-- A slice of one element or more that owns its row: its address, and its cells. -/
theorem own_head {w : World} {base e n : Nat} {v : Value} {xs : List Value} (h : w.ownsRow base e 1 v n xs) (hn : 0 < n) :
    ∃ g cap, v = .slice (some ⟨g, 0, none⟩) n cap ∧ base ≤ g ∧ g < w.heap.size ∧ ∀ i, i < n → w.cell? ⟨g, i, none⟩ = some (xs.getD i undef) := by
  rcases h.2 with ⟨_, h0⟩ | ⟨g, cap, cur, rfl, hbase, hb, h1, h2, h3, h4⟩
  · omega
  · refine ⟨g, cap, rfl, hbase, (Array.getElem?_eq_some_iff.1 hb).1, fun i hi => ?_⟩
    have hx : i < xs.length := by rw [h.1]; omega
    rw [h.cellAt i (by omega)]
    simp [hx]

/-- A slice that owns its row: its length; and where its cells lie, if it has any. -/
theorem own_shape {w : World} {base e n : Nat} {v : Value} {xs : List Value} (h : w.ownsRow base e 1 v n xs) :
    ∃ oa cap, v = .slice oa n cap ∧ (0 < n → ∃ g, oa = some ⟨g, 0, none⟩ ∧ base ≤ g ∧ g < w.heap.size ∧ ∀ i, i < n → w.cell? ⟨g, i, none⟩ = some (xs.getD i undef)) := by
  by_cases hn : 0 < n
  · obtain ⟨g, cap, rfl, h1, h2, h3⟩ := own_head h hn
    exact ⟨_, cap, rfl, fun _ => ⟨g, rfl, h1, h2, h3⟩⟩
  · rcases h.2 with ⟨rfl, rfl⟩ | ⟨g, cap, cur, rfl, _⟩
    · exact ⟨none, 0, rfl, fun h => absurd h hn⟩
    · exact ⟨_, cap, rfl, fun h => absurd h hn⟩

/-- Nothing but the blocks lo .. hi - 1 and new ones has turned. -/
structure Kept (lo hi : Nat) (w w' : World) : Prop where
  os : w'.os = w.os
  tape : w'.tape = w.tape
  output : w'.output = w.output
  size : w.heap.size ≤ w'.heap.size
  block : ∀ i, i < w.heap.size → ¬ (lo ≤ i ∧ i < hi) → w'.heap[i]? = w.heap[i]?

theorem Kept.refl (lo hi : Nat) (w : World) : Kept lo hi w w := ⟨rfl, rfl, rfl, Nat.le_refl _, fun _ _ _ => rfl⟩
theorem Kept.trans {lo hi : Nat} {a b c : World} (h : Kept lo hi a b) (k : Kept lo hi b c) : Kept lo hi a c :=
  ⟨k.os.trans h.os, k.tape.trans h.tape, k.output.trans h.output, Nat.le_trans h.size k.size, fun i hi hn => (k.block i (Nat.lt_of_lt_of_le hi h.size) hn).trans (h.block i hi hn)⟩
theorem Kept.wider {lo hi lo' hi' : Nat} {a b : World} (h : Kept lo hi a b) (h1 : lo' ≤ lo) (h2 : hi ≤ hi') : Kept lo' hi' a b :=
  ⟨h.os, h.tape, h.output, h.size, fun i hi hn => h.block i hi (fun ⟨a, b⟩ => hn ⟨by omega, by omega⟩)⟩
theorem Kept.none {lo hi : Nat} {a b : World} (h : Kept lo hi a b) (hh : a.heap.size ≤ lo ∨ hi ≤ lo) (lo' hi' : Nat) : Kept lo' hi' a b :=
  ⟨h.os, h.tape, h.output, h.size, fun i hi _ => h.block i hi (by omega)⟩
theorem Kept.drew {lo hi : Nat} {a w : World} (h : Kept lo hi a w) : Kept lo hi a w.drew := ⟨h.os, h.tape, h.output, h.size, h.block⟩
theorem Kept.drewN {lo hi : Nat} {a w : World} (h : Kept lo hi a w) (n : Nat) : Kept lo hi a (w.drewN n) := by
  refine h.trans ?_
  have : ∀ n, Kept lo hi w (w.drewN n) := fun n => by
    cases n <;> exact ⟨rfl, rfl, rfl, Nat.le_refl _, fun _ _ _ => rfl⟩
  exact this n
theorem Kept.alloc {lo hi : Nat} {a w : World} (h : Kept lo hi a w) (o : Obj) : Kept lo hi a (w.alloc o) :=
  h.trans ⟨rfl, rfl, rfl, by simp, fun i hi _ => Below.heap_alloc w o i hi⟩
theorem Kept.grown {lo hi : Nat} {a w w' : World} {row : Option Nat} (h : Kept lo hi a w) (hg : w.grownBy w' row) (hr : ∀ k, row = some k → (lo ≤ k ∧ k < hi) ∨ a.heap.size ≤ k) : Kept lo hi a w' :=
  ⟨hg.os.trans h.os, hg.tape.trans h.tape, hg.output.trans h.output, Nat.le_trans h.size hg.size, fun i hi hn => (hg.block i (Nat.lt_of_lt_of_le hi h.size) (fun e => by
    rcases hr i e.symm with h' | h'
    · exact hn h'
    · omega)).trans (h.block i hi hn)⟩
theorem Kept.turned {lo hi b : Nat} {a w w' : World} (h : Kept lo hi a w) (hg : w.mapTurned w' b) (hr : (lo ≤ b ∧ b < hi) ∨ a.heap.size ≤ b) : Kept lo hi a w' :=
  h.grown hg.grown (fun k e => by cases e; exact hr)
theorem Kept.setCell {lo hi : Nat} {a w : World} (h : Kept lo hi a w) {p : Addr} (u : Value) (hr : (lo ≤ p.block ∧ p.block < hi) ∨ a.heap.size ≤ p.block) : Kept lo hi a (w.setCell p u) :=
  ⟨h.os, h.tape, h.output, by simpa [World.setCell] using h.size, fun i hi hn => (Below.heap_setCell w p u i (by
    rcases hr with hr | hr
    · exact fun e => hn (e ▸ hr)
    · exact fun e => by omega)).trans (h.block i hi hn)⟩
theorem Kept.below {lo hi : Nat} {a w : World} (h : Kept lo hi a w) {B : Nat} (hB : B ≤ lo) (hs : B ≤ a.heap.size) : Below B a w :=
  ⟨h.os, h.tape, h.output, h.size, fun k hk => h.block k (by omega) (by omega)⟩
theorem Kept.of_below {a w : World} (h : Below a.heap.size a w) (lo hi : Nat) : Kept lo hi a w :=
  ⟨h.os, h.tape, h.output, h.size, fun k hk _ => h.block k hk⟩

theorem plainElem_bool_inv {P : Program} {e : TypeId} (he : P.underlying e = some .bool) {v : Value} {x : Bool} {ps} (h : plainElem (H := Unit) P e v = some (.lit (.bool x), ps)) : v = .bool x := by
  unfold plainElem at h
  rw [he] at h
  cases v <;> simp at h
  rw [h.1]
theorem plainElem_int_val {P : Program} {e : TypeId} (he : P.underlying e = some (.int .i64)) {v : Value} {x : Int} {ps} (h : plainElem (H := Unit) P e v = some (.lit (.int .i64 x), ps)) : v = .int .i64 x := by
  obtain ⟨a, rfl, h', _⟩ := plainElem_int_inv he h
  simp only [Prod.mk.injEq, DataW.lit.injEq, Lit.int.injEq, true_and] at h'
  rw [h'.1]

/-- a Bool behind a name, told by a number: the walk does not part on it -/
def bOf (c : Int) : Bool := decide (c = 1)
theorem plainElem_bool_shape {P : Program} {e : TypeId} (he : P.underlying e = some .bool) {v : Value} {y} (h : plainElem (H := Unit) P e v = some y) : ∃ c, v = .bool (bOf c) := by
  unfold plainElem at h
  rw [he] at h
  cases v <;> simp at h
  rename_i c
  cases c
  · exact ⟨0, rfl⟩
  · exact ⟨1, rfl⟩

/-! ### quiet calls at a draw -/
theorem quiet_add_left {P : Program} {f : FuncId} {args : Array Value} {w : World} {a n : Nat} {v : Value}
    (h : Calls P f args (w.drewN (a + n)) fun e w' => e = .returned v ∧ w.drewN (a + n) = w') :
    Calls P f args (w.drewN (a + n)) fun e w'' => e = .returned v ∧ ∃ m, w'' = w.drewN (a + m) :=
  h.mono fun _ _ ⟨he, hm⟩ => ⟨he, n, hm.symm⟩
theorem quiet_left {P : Program} {f : FuncId} {args : Array Value} {w : World} {n : Nat} {v : Value}
    (h : Calls P f args (w.drewN n) fun e w' => e = .returned v ∧ w.drewN n = w') : Calls P f args (w.drewN n) fun e w'' => e = .returned v ∧ ∃ m, w'' = w.drewN m :=
  h.mono fun _ _ ⟨he, hm⟩ => ⟨he, n, hm.symm⟩
theorem drewN_below (w : World) (n B : Nat) : Below B w (w.drewN n) := ⟨rfl, rfl, rfl, Nat.le_refl _, fun _ _ => rfl⟩

/-! ### the map as a set -/
def memZ (l : List Nat) (x : Int) : Bool := l.any fun a => decide ((a : Int) = x)

theorem memZ_nat (l : List Nat) (x : Nat) : memZ l (x : Int) = decide (x ∈ l) := by
  unfold memZ
  rw [Bool.eq_iff_iff]
  simp only [List.any_eq_true, decide_eq_true_eq]
  constructor
  · rintro ⟨y, h, e⟩
    have : y = x := by omega
    rwa [this] at h
  · exact fun h => ⟨x, h, rfl⟩

def SetMap (w : World) (b : Nat) (l : List Nat) : Prop :=
  Bu.Rising l ∧ ∃ D : DataW Unit, w.ownsMap Try.prog 3 (plainElem Try.prog 4) b l.length D ∧ (∀ x : Int, Maps.has D (.int .i64 x) = memZ l x) ∧
    (∀ x : Int, memZ l x = true → ∀ z, D.atKey (.int .i64 x) z = .lit (.bool true)) ∧ Maps.size D = l.length

theorem isKeyI (x : Int) : WideAt.IsKeyLit (.int .i64 x) := trivial
theorem wfI {x : Int} (h1 : -9223372036854775808 ≤ x) (h2 : x ≤ 9223372036854775807) : (Lit.int .i64 x).wf = true := WalkArith.wf_i64 (by omega)
theorem keyI {x : Int} (hw : (Lit.int .i64 x).wf = true) : keyOf Try.prog 3 (.int .i64 x) = some (.int .i64 x) := keyOf_int_mk Try.underlying3 hw

theorem memZ_ins (l : List Nat) (a : Nat) (x : Int) : memZ (Bu.ins a l) x = (decide ((a : Int) = x) || memZ l x) := by
  unfold memZ
  rw [Bool.eq_iff_iff]
  simp only [List.any_eq_true, Bool.or_eq_true, Bu.mem_ins, decide_eq_true_eq]
  constructor
  · rintro ⟨y, rfl | h, e⟩
    · exact .inl e
    · exact .inr ⟨y, h, e⟩
  · rintro (h | ⟨y, h, e⟩)
    · exact ⟨a, .inl rfl, h⟩
    · exact ⟨y, .inr h, e⟩

theorem memZ_erase {l : List Nat} (hl : Bu.Rising l) (a : Nat) (x : Int) : memZ (l.erase a) x = (!decide ((a : Int) = x) && memZ l x) := by
  unfold memZ
  rw [Bool.eq_iff_iff]
  simp only [List.any_eq_true, Bool.and_eq_true, Bu.mem_erase_rising hl, decide_eq_true_eq, Bool.not_eq_true', decide_eq_false_iff_not]
  constructor
  · rintro ⟨y, ⟨h1, h2⟩, e⟩
    exact ⟨fun e' => h1 (by omega), y, h2, e⟩
  · rintro ⟨h1, y, h2, e⟩
    exact ⟨y, ⟨fun e' => h1 (by omega), h2⟩, e⟩

theorem SetMap.rising {w : World} {b : Nat} {l : List Nat} (h : SetMap w b l) : Bu.Rising l := h.1

theorem SetMap.lt {w : World} {b : Nat} {l : List Nat} (h : SetMap w b l) : b < w.heap.size := by
  obtain ⟨_, D, hown, _⟩ := h
  exact hown.lt

theorem SetMap.same {w w' : World} {b : Nat} {l : List Nat} (h : SetMap w b l) (e : w'.heap[b]? = w.heap[b]?) : SetMap w' b l := by
  obtain ⟨hl, D, ⟨es, clock, hb, hr⟩, h1, h2, h3⟩ := h
  exact ⟨hl, D, ⟨es, clock, e.trans hb, hr⟩, h1, h2, h3⟩

theorem SetMap.kept {w w' : World} {b lo hi : Nat} {l : List Nat} (h : SetMap w b l) (k : Kept lo hi w w') (hb : ¬ (lo ≤ b ∧ b < hi)) : SetMap w' b l :=
  h.same (k.block b h.lt hb)

theorem SetMap.turned {w w' : World} {b c : Nat} {l : List Nat} (h : SetMap w b l) (k : w.mapTurned w' c) (hb : b ≠ c) : SetMap w' b l :=
  h.same (k.grown.block b h.lt (fun e => hb (by cases e; rfl)))

theorem SetMap.made (w : World) : SetMap (w.alloc (.map #[] 0)) w.heap.size [] := by
  refine ⟨List.Pairwise.nil, .map [], World.ownsMap_made w _ _ _, fun x => rfl, (fun x h => by cases h), rfl⟩

theorem SetMap.lookup {w : World} {b : Nat} {l : List Nat} (h : SetMap w b l) {x : Int} (hx : (Lit.int .i64 x).wf = true) :
    (Instr.lookup 105 (.map (some b)) (.int .i64 x) false).run Try.prog w = .ok (.bool (memZ l x)) w := by
  obtain ⟨_, D, hown, hhas, hat, _⟩ := h
  obtain ⟨v, ps, hrun, hv⟩ := hown.lookup lawI Try.underlying105 (zeroB w) (zd := .lit (.bool false)) (zp := []) (plainElem_bool Try.underlying4 false) (keyI hx)
  have : v = .bool (memZ l x) := by
    cases hm : memZ l x with
    | true =>
      rw [hat x hm] at hv
      exact plainElem_bool_inv Try.underlying4 hv
    | false =>
      have : Maps.has D (.int .i64 x) = false := by rw [hhas, hm]
      rw [atKey_of_not_has this] at hv
      exact plainElem_bool_inv Try.underlying4 hv
  rw [← this]; exact hrun

theorem SetMap.len {w : World} {b : Nat} {l : List Nat} (h : SetMap w b l) (ty : TypeId) : (Builtin.len_ #[105] ty #[.map (some b)]).run Try.prog w = .ok (.int .i64 l.length) w := by
  obtain ⟨_, D, hown, _, _, hs⟩ := h
  rw [hown.len Try.underlying105 ty, hs]

theorem nat_ne_lit {x : Int} {a : Nat} (h : ¬ (a : Int) = x) : (Lit.int .i64 x) ≠ Lit.int .i64 (a : Int) := fun e => by cases e; exact h rfl

theorem SetMap.put {w : World} {b : Nat} {l : List Nat} (h : SetMap w b l) {a : Nat} (ha : (a : Int) ≤ 9223372036854775807) (hn : l.length < maxLen) :
    ∃ w', (Instr.mapUpdate 105 (.map (some b)) (.int .i64 (a : Int)) (.bool true)).run Try.prog w = .ok () w' ∧ SetMap w' b (Bu.ins a l) ∧ w.mapTurned w' b := by
  obtain ⟨hl, D, hown, hhas, hat, hs⟩ := h
  obtain ⟨w', hrun, hown', ht⟩ := hown.store lawI Try.underlying105 hn (keyI (wfI (by omega) ha)) (plainElem_bool Try.underlying4 true)
  refine ⟨w', hrun, ⟨Bu.ins_rising a l hl, D.put (.int .i64 (a : Int)) (.lit (.bool true)), ?_, ?_, ?_, ?_⟩, ht⟩
  · have hsz : Maps.size (D.put (.int .i64 (a : Int)) (.lit (.bool true))) = (Bu.ins a l).length := by
      rw [size_put (hown.tidy lawI), hhas, memZ_nat, hs]
      by_cases hm : a ∈ l
      · have : Bu.ins a l = l := Bu.rising_ext _ _ (Bu.ins_rising a l hl) hl (fun x => by rw [Bu.mem_ins]; exact ⟨fun h => h.elim (fun e => e ▸ hm) id, .inr⟩)
        simp [hm, this]
      · simp [hm, Bu.length_ins a l hm]
    obtain ⟨es, clock, hb, F, _, e⟩ := hown'
    refine ⟨es, clock, hb, F, ?_, e⟩
    rw [← hsz, e]
    simp [Maps.size, length_sorted]
  · intro x
    rw [memZ_ins]
    by_cases e : (a : Int) = x
    · subst e
      rw [has_put_same (hown.isMap) (isKeyI _)]
      simp
    · rw [has_put_other (nat_ne_lit e), hhas]
      simp [e]
  · intro x hx z
    by_cases e : (a : Int) = x
    · subst e
      rw [atKey_put_same (hown.isMap) (isKeyI _)]
    · rw [atKey_put_other (nat_ne_lit e)]
      rw [memZ_ins] at hx
      exact hat x (by simpa [e] using hx) z
  · rw [size_put (hown.tidy lawI), hhas, memZ_nat, hs]
    by_cases hm : a ∈ l
    · have : Bu.ins a l = l := Bu.rising_ext _ _ (Bu.ins_rising a l hl) hl (fun x => by rw [Bu.mem_ins]; exact ⟨fun h => h.elim (fun e => e ▸ hm) id, .inr⟩)
      simp [hm, this]
    · simp [hm, Bu.length_ins a l hm]

theorem SetMap.del {w : World} {b : Nat} {l : List Nat} (h : SetMap w b l) {a : Nat} (ha : (a : Int) ≤ 9223372036854775807) (hm : a ∈ l) (ty : TypeId) :
    ∃ w', (Builtin.delete_ #[105, 3] ty #[.map (some b), .int .i64 (a : Int)]).run Try.prog w = .ok (.tuple #[]) w' ∧ SetMap w' b (l.erase a) ∧ w.mapTurned w' b := by
  obtain ⟨hl, D, hown, hhas, hat, hs⟩ := h
  obtain ⟨w', hrun, hown', ht⟩ := hown.drop lawI Try.underlying105 (keyI (wfI (by omega) ha)) ty
  have hlen : (l.erase a).length + 1 = l.length := by
    rw [List.length_erase_of_mem hm]
    have := List.length_pos_of_mem hm
    omega
  have hsz : Maps.size (D.del (.int .i64 (a : Int))) = (l.erase a).length := by
    have := size_del (k := .int .i64 (a : Int)) (hown.tidy lawI)
    rw [hhas, memZ_nat, hs] at this
    simp [hm] at this
    omega
  refine ⟨w', hrun, ⟨Bu.rising_erase hl a, D.del (.int .i64 (a : Int)), ?_, ?_, ?_, hsz⟩, ht⟩
  · obtain ⟨es, clock, hb, F, _, e⟩ := hown'
    refine ⟨es, clock, hb, F, ?_, e⟩
    rw [← hsz, e]
    simp [Maps.size, length_sorted]
  · intro x
    rw [memZ_erase hl]
    by_cases e : (a : Int) = x
    · subst e
      rw [has_del_same]
      simp
    · rw [has_del_other (nat_ne_lit e), hhas]
      simp [e]
  · intro x hx z
    rw [memZ_erase hl] at hx
    by_cases e : (a : Int) = x
    · simp [e] at hx
    · rw [atKey_del_other (nat_ne_lit e)]
      exact hat x (by simpa [e] using hx) z

/-! ### the map of the taken runs -/
def TakMap (w : World) (b : Nat) (T : List (Nat × Nat)) : Prop :=
  (T.map (·.1)).Nodup ∧ ∃ D : DataW Unit, w.ownsMap Try.prog 3 (plainElem Try.prog 3) b T.length D ∧ (∀ x : Int, Maps.has D (.int .i64 x) = memZ (T.map (·.1)) x) ∧
    (∀ t ∈ T, ∀ z, D.atKey (.int .i64 (t.1 : Int)) z = .lit (.int .i64 (t.2 : Int))) ∧ Maps.size D = T.length

/-- What the map says at a place: the order of the run that begins there, 0 if there is none. -/
def takAt (T : List (Nat × Nat)) (x : Int) : Int := match T.find? (fun t => decide ((t.1 : Int) = x)) with | some t => t.2 | none => 0

theorem TakMap.lt {w : World} {b : Nat} {T} (h : TakMap w b T) : b < w.heap.size := by
  obtain ⟨_, D, hown, _⟩ := h
  exact hown.lt
theorem TakMap.same {w w' : World} {b : Nat} {T} (h : TakMap w b T) (e : w'.heap[b]? = w.heap[b]?) : TakMap w' b T := by
  obtain ⟨hl, D, ⟨es, clock, hb, hr⟩, h1, h2, h3⟩ := h
  exact ⟨hl, D, ⟨es, clock, e.trans hb, hr⟩, h1, h2, h3⟩
theorem TakMap.kept {w w' : World} {b lo hi : Nat} {T} (h : TakMap w b T) (k : Kept lo hi w w') (hb : ¬ (lo ≤ b ∧ b < hi)) : TakMap w' b T :=
  h.same (k.block b h.lt hb)
theorem TakMap.turned {w w' : World} {b c : Nat} {T} (h : TakMap w b T) (k : w.mapTurned w' c) (hb : b ≠ c) : TakMap w' b T :=
  h.same (k.grown.block b h.lt (fun e => hb (by cases e; rfl)))
theorem TakMap.made (w : World) : TakMap (w.alloc (.map #[] 0)) w.heap.size [] :=
  ⟨List.nodup_nil, .map [], World.ownsMap_made w _ _ _, fun x => rfl, (fun t h => by cases h), rfl⟩

theorem TakMap.lookup {w : World} {b : Nat} {T} (h : TakMap w b T) {x : Int} (hx : (Lit.int .i64 x).wf = true) :
    (Instr.lookup 104 (.map (some b)) (.int .i64 x) true).run Try.prog w = .ok (.tuple #[.int .i64 (takAt T x), .bool (memZ (T.map (·.1)) x)]) w := by
  obtain ⟨_, D, hown, hhas, hat, _⟩ := h
  obtain ⟨v, ps, hrun, hv⟩ := hown.look_ok lawI Try.underlying104 (zeroI w) (zd := .lit (.int .i64 0)) (zp := []) (plainElem_int Try.underlying3 (by decide)) (keyI hx)
  rw [hhas] at hrun
  have : v = .int .i64 (takAt T x) := by
    unfold takAt
    cases hf : T.find? (fun t => decide ((t.1 : Int) = x)) with
    | some t =>
      have h1 := List.find?_some hf
      have h2 := List.mem_of_find?_eq_some hf
      simp only [decide_eq_true_eq] at h1
      subst h1
      rw [hat t h2] at hv
      exact plainElem_int_val Try.underlying3 hv
    | none =>
      have : Maps.has D (.int .i64 x) = false := by
        rw [hhas]
        unfold memZ
        rw [List.any_map, List.any_eq_false]
        intro t ht
        have := List.find?_eq_none.1 hf t ht
        simpa using this
      rw [atKey_of_not_has this] at hv
      exact plainElem_int_val Try.underlying3 hv
  rw [← this]; exact hrun

theorem nodup_fst_append {T : List (Nat × Nat)} {a o : Nat} (h : (T.map (·.1)).Nodup) (ha : a ∉ T.map (·.1)) : ((T ++ [(a, o)]).map (·.1)).Nodup := by
  rw [List.map_append, List.nodup_append]
  refine ⟨h, by simp, fun x hx y hy => ?_⟩
  simp only [List.map_cons, List.map_nil, List.mem_singleton] at hy
  subst hy
  exact fun e => ha (e ▸ hx)

theorem TakMap.put {w : World} {b : Nat} {T} (h : TakMap w b T) {a o : Nat} (ha : (a : Int) ≤ 9223372036854775807) (ho : (o : Int) ≤ 9223372036854775807) (hna : a ∉ T.map (·.1)) (hn : T.length < maxLen) :
    ∃ w', (Instr.mapUpdate 104 (.map (some b)) (.int .i64 (a : Int)) (.int .i64 (o : Int))).run Try.prog w = .ok () w' ∧ TakMap w' b (T ++ [(a, o)]) ∧ w.mapTurned w' b := by
  obtain ⟨hl, D, hown, hhas, hat, hs⟩ := h
  obtain ⟨w', hrun, hown', ht⟩ := hown.store lawI Try.underlying104 hn (keyI (wfI (by omega) ha)) (plainElem_int Try.underlying3 (wfI (by omega) ho))
  refine ⟨w', hrun, ⟨nodup_fst_append hl hna, D.put (.int .i64 (a : Int)) (.lit (.int .i64 (o : Int))), by simpa using hown', ?_, ?_, ?_⟩, ht⟩
  · intro x
    rw [List.map_append]
    by_cases e : (a : Int) = x
    · subst e
      rw [has_put_same (hown.isMap) (isKeyI _)]
      simp [memZ]
    · rw [has_put_other (nat_ne_lit e), hhas]
      simp [memZ, e]
  · intro t htm z
    rcases List.mem_append.1 htm with h1 | h1
    · have : ¬ (a : Int) = t.1 := fun e => hna (by
        have : a = t.1 := by omega
        rw [this]; exact List.mem_map_of_mem h1)
      rw [atKey_put_other (nat_ne_lit this)]
      exact hat t h1 z
    · rw [List.mem_singleton] at h1
      subst h1
      rw [atKey_put_same (hown.isMap) (isKeyI _)]
  · rw [size_put (hown.tidy lawI), hhas, memZ_nat, hs]
    simp [hna]

theorem erase_fst {T : List (Nat × Nat)} {t : Nat × Nat} (h : (T.map (·.1)).Nodup) (ht : t ∈ T) (x : Nat) : x ∈ (T.erase t).map (·.1) ↔ x ≠ t.1 ∧ x ∈ T.map (·.1) := by
  induction T with
  | nil => cases ht
  | cons u T ih =>
    rw [List.map_cons, List.nodup_cons] at h
    rw [List.erase_cons]
    split
    · rename_i e
      have e : u = t := by simpa using e
      subst e
      rw [List.map_cons, List.mem_cons]
      constructor
      · exact fun hx => ⟨fun e => h.1 (e ▸ hx), .inr hx⟩
      · rintro ⟨h1, h2⟩
        exact h2.resolve_left h1
    · rename_i e
      have ht' : t ∈ T := by
        rcases List.mem_cons.1 ht with e' | h'
        · exact absurd e' (fun e' => e (by simp [e']))
        · exact h'
      rw [List.map_cons, List.map_cons, List.mem_cons, List.mem_cons, ih h.2 ht']
      constructor
      · rintro (h1 | ⟨h1, h2⟩)
        · refine ⟨fun e' => ?_, .inl h1⟩
          exact h.1 (by rw [← h1, e']; exact List.mem_map_of_mem ht')
        · exact ⟨h1, .inr h2⟩
      · rintro ⟨h1, h2 | h2⟩
        · exact .inl h2
        · exact .inr ⟨h1, h2⟩

theorem TakMap.del {w : World} {b : Nat} {T} (h : TakMap w b T) {t : Nat × Nat} (ha : (t.1 : Int) ≤ 9223372036854775807) (hm : t ∈ T) (ty : TypeId) :
    ∃ w', (Builtin.delete_ #[104, 3] ty #[.map (some b), .int .i64 (t.1 : Int)]).run Try.prog w = .ok (.tuple #[]) w' ∧ TakMap w' b (T.erase t) ∧ w.mapTurned w' b := by
  obtain ⟨hl, D, hown, hhas, hat, hs⟩ := h
  obtain ⟨w', hrun, hown', hturn⟩ := hown.drop lawI Try.underlying104 (keyI (wfI (by omega) ha)) ty
  have hmem : t.1 ∈ T.map (·.1) := List.mem_map_of_mem hm
  have hlen : (T.erase t).length + 1 = T.length := by
    rw [List.length_erase_of_mem hm]
    have := List.length_pos_of_mem hm
    omega
  have hsz : Maps.size (D.del (.int .i64 (t.1 : Int))) = (T.erase t).length := by
    have := size_del (k := .int .i64 (t.1 : Int)) (hown.tidy lawI)
    rw [hhas, memZ_nat, hs] at this
    rw [decide_eq_true hmem, if_pos rfl] at this
    omega
  refine ⟨w', hrun, ⟨List.Nodup.sublist (List.Sublist.map _ List.erase_sublist) hl, D.del (.int .i64 (t.1 : Int)), ?_, ?_, ?_, hsz⟩, hturn⟩
  · obtain ⟨es, clock, hb, F, _, e⟩ := hown'
    refine ⟨es, clock, hb, F, ?_, e⟩
    rw [← hsz, e]
    simp [Maps.size, length_sorted]
  · intro x
    rw [Bool.eq_iff_iff]
    have key : memZ ((T.erase t).map (·.1)) x = true ↔ ¬ (t.1 : Int) = x ∧ memZ (T.map (·.1)) x = true := by
      unfold memZ
      simp only [List.any_eq_true, decide_eq_true_eq]
      constructor
      · rintro ⟨y, h1, rfl⟩
        obtain ⟨h2, h3⟩ := (erase_fst hl hm y).1 h1
        exact ⟨fun e => h2 (by omega), y, h3, rfl⟩
      · rintro ⟨h1, y, h2, rfl⟩
        exact ⟨y, (erase_fst hl hm y).2 ⟨fun e => h1 (by omega), h2⟩, rfl⟩
    rw [key]
    by_cases e : (t.1 : Int) = x
    · subst e
      rw [has_del_same]
      simp
    · rw [has_del_other (nat_ne_lit e), hhas]
      simp [e]
  · intro u hu z
    have hu' := List.mem_of_mem_erase hu
    have h1 : u.1 ≠ t.1 := ((erase_fst hl hm u.1).1 (List.mem_map_of_mem hu)).1
    rw [atKey_del_other (nat_ne_lit (by omega))]
    exact hat u hu' z

end Go.Proofs.Ytikahcbkeempdaa
