/- table: walked. -/
import Derived.Test.YtikahcbkeempdaaDoorGen0
import Derived.Deep.QuietTactic
import Derived.BigQuiet
import Derived.StillTailTactics
import Derived.WideKeyEntry
namespace Go.Proofs.YtikahcbkeempdaaDoor
open Go.RowKit Go.Maps
open Go.ChangeMaps (setBlock)

theorem heap_setB_same {w : World} {b : Nat} {o0 : Obj} (h : w.heap[b]? = some o0) (o : Obj) : (setBlock w b o).heap[b]? = some o := by
  have := (Array.getElem?_eq_some_iff.1 h).1
  simp [setBlock, this]
theorem heap_setB_other (w : World) {b c : Nat} (o : Obj) (h : b ≠ c) : (setBlock w c o).heap[b]? = w.heap[b]? := by
  simp only [setBlock]
  rw [Array.getElem?_setIfInBounds_ne (Ne.symm h)]

/-- An entry for a key that the map has not: in whatever world that holds this map. -/
theorem entry_new {b : Nat} {es : Array MapEntry} {clock : Nat} {a : Int} (F : WideElems.Fit (H := Unit) Tryd.prog 3 (plainElem Tryd.prog 3) es clock) (hkey : keyOf Tryd.prog 3 (.int .i64 a) = some (.int .i64 a)) (hno : ∀ x ∈ es.toList, x.key ≠ .int .i64 a) :
    (∀ u : World, u.heap[b]? = some (.map es clock) → (Instr.mapEntry 95 (.map (some b)) (.int .i64 a)).run Tryd.prog u = .ok (.tuple #[.int .i64 0, goInt clock]) (setBlock u b (.map (es.push ⟨.int .i64 a, .int .i64 0, clock⟩) (clock + 1)))) ∧
    (∀ (u : World) (val : Value), u.heap[b]? = some (.map (es.push ⟨.int .i64 a, .int .i64 0, clock⟩) (clock + 1)) → (Instr.entryStore 95 (.map (some b)) (goInt clock) val).run Tryd.prog u = .ok () (setBlock u b (.map (es.push ⟨.int .i64 a, val, clock⟩) (clock + 1)))) ∧
    (∀ (u : World) (val : Value), u.heap[b]? = some (.map es clock) → (Instr.mapUpdate 95 (.map (some b)) (.int .i64 a) val).run Tryd.prog u = .ok () (setBlock u b (.map (es.push ⟨.int .i64 a, val, clock⟩) (clock + 1)))) := by
  obtain ⟨s1, s2, _⟩ := F.stamped
  have hfind : ∀ u : World, (Instr.findKey 3 (.int .i64 a) es.toList).run Tryd.prog u = .ok none u := fun u => by
    rcases lawI.find u hkey es.toList F.keys with ⟨h1, _⟩ | ⟨j, e0, _, h2, h3⟩
    · exact h1
    · exact absurd h3 (hno e0 (List.mem_of_getElem? h2))
  refine ⟨fun u hb => ?_, fun u val hb => ?_, fun u val hb => ?_⟩
  · simp [Instr.mapEntry, run_underlying Tryd.underlying95, MapKept.run_getObj_map hb, lawI.check u false hkey, hfind, MapKept.run_setObj_map _ hb, Result.andThen, setBlock]
  · have hidx : (es.push ⟨.int .i64 a, .int .i64 0, clock⟩).findIdx? (fun e => ((e.born : Nat) : Int) == ((clock : Nat) : Int)) = some es.size := by
      rw [WideElems.findIdx_arr]
      exact WideElems.findIdx_born (l := (es.push ⟨.int .i64 a, .int .i64 0, clock⟩).toList) (j := es.size) (e0 := ⟨.int .i64 a, .int .i64 0, clock⟩) (by
        simp only [Array.toList_push, List.map_append, List.map_cons, List.map_nil]
        refine List.nodup_append.2 ⟨s2, by simp, fun a ha c hc e1 => ?_⟩
        simp only [List.mem_singleton] at hc
        obtain ⟨x, hx, rfl⟩ := List.mem_map.1 ha
        have := s1 x hx
        omega) (by simp)
    have hmod : (es.push ⟨.int .i64 a, .int .i64 0, clock⟩).modify es.size (fun e => { e with val := val }) = es.push ⟨.int .i64 a, val, clock⟩ := by
      apply Array.ext'
      rw [Array.toList_modify, Array.toList_push, Array.toList_push, ← Array.length_toList, WideElems.modify_last]
    simp [Instr.entryStore, MapKept.run_getObj_map hb, asInt, asIntOf, goInt, hidx, hmod, MapKept.run_setObj_map _ hb, Result.andThen, setBlock]
  · simp [Instr.mapUpdate, run_underlying Tryd.underlying95, MapKept.run_getObj_map hb, lawI.check u false hkey, hfind, MapKept.run_setObj_map _ hb, Result.andThen, setBlock]

/-- The two steps by which an exchange writes a new pair: in whatever world holds the map as it is. -/
theorem TakMap.entry {w : World} {b : Nat} {T} (h : TakMap w b T) {a o : Nat} (ha : (a : Int) ≤ 9223372036854775807) (ho : (o : Int) ≤ 9223372036854775807) (hna : a ∉ T.map (·.1)) (hn : T.length < maxLen) :
    ∃ (X Y Z : Obj) (st : Value), w.heap[b]? = some X ∧
      (∀ u : World, u.heap[b]? = some X → (Instr.mapEntry 95 (.map (some b)) (.int .i64 (a : Int))).run Tryd.prog u = .ok (.tuple #[.int .i64 0, st]) (setBlock u b Y)) ∧
      (∀ u : World, u.heap[b]? = some Y → (Instr.entryStore 95 (.map (some b)) st (.int .i64 (o : Int))).run Tryd.prog u = .ok () (setBlock u b Z)) ∧
      ∀ u : World, u.heap[b]? = some Z → TakMap u b (T ++ [(a, o)]) := by
  have hput := h.put ha ho hna hn
  obtain ⟨hl, D, ⟨es, clock, hb, F, hs, hD⟩, hhas, _⟩ := h
  have hkey := keyI (x := (a : Int)) (wfI (by omega) ha)
  have hno : ∀ x ∈ es.toList, x.key ≠ .int .i64 (a : Int) := by
    rcases Maps.fit_look true lawI Tryd.underlying95 (zeroI w) hb F hkey with ⟨_, h2, _⟩ | ⟨e0, y, _, _, _, _, hat, _⟩
    · exact h2
    · exfalso
      have h1 := Maps.has_true_of_atKey hat
      rw [← hD, hhas, memZ_nat] at h1
      exact hna (by simpa using h1)
  obtain ⟨e1, e2, e3⟩ := entry_new (b := b) F hkey hno
  refine ⟨_, _, _, _, hb, e1, fun u hu => e2 u _ hu, fun u hu => ?_⟩
  obtain ⟨w', hrun, ht, _⟩ := hput
  rw [e3 w _ hb] at hrun
  cases hrun
  exact ht.same (hu.trans (heap_setB_same hb _).symm)

theorem TakMap.len {w : World} {b : Nat} {T} (h : TakMap w b T) (ty : TypeId) : (Builtin.len_ #[95] ty #[.map (some b)]).run Tryd.prog w = .ok (.int .i64 T.length) w := by
  obtain ⟨_, D, hown, _, _, hs⟩ := h
  rw [hown.len Tryd.underlying95 ty, hs]

/-- Block tb is a table of the pairs A: its two maps are the blocks mt and mf. -/
structure TabAt (w : World) (tb mt mf : Nat) (A : List (Nat × Nat)) : Prop where
  blk : w.heap[tb]? = some (.cells #[.map (some mt), .map (some mf)] 131 (0, 0))
  to : TakMap w mt A
  fro : TakMap w mf (A.map Prod.swap)
  ne : mt ≠ mf

section
variable {w w' : World} {tb mt mf : Nat} {A : List (Nat × Nat)}
theorem TabAt.c0 (h : TabAt w tb mt mf A) : w.cell? ⟨tb, 0, none⟩ = some (.map (some mt)) := by simp [World.cell?, h.blk]
theorem TabAt.c1 (h : TabAt w tb mt mf A) : w.cell? ⟨tb, 1, none⟩ = some (.map (some mf)) := by simp [World.cell?, h.blk]
theorem TabAt.lt (h : TabAt w tb mt mf A) : tb < w.heap.size ∧ mt < w.heap.size ∧ mf < w.heap.size := ⟨(Array.getElem?_eq_some_iff.1 h.blk).1, h.to.lt, h.fro.lt⟩
theorem TabAt.same (h : TabAt w tb mt mf A) (e1 : w'.heap[tb]? = w.heap[tb]?) (e2 : w'.heap[mt]? = w.heap[mt]?) (e3 : w'.heap[mf]? = w.heap[mf]?) : TabAt w' tb mt mf A :=
  ⟨e1.trans h.blk, h.to.same e2, h.fro.same e3, h.ne⟩

set_option maxHeartbeats 1000000 in
theorem tabNew_ok (w : World) : Calls Tryd.prog 55 #[] w fun e w' => e = .returned (.pointer (some ⟨w.heap.size + 2, 0, none⟩)) ∧ TabAt w' (w.heap.size + 2) w.heap.size (w.heap.size + 1) [] ∧ Below w.heap.size w w' ∧ w'.heap.size = w.heap.size + 3 := by
  have hmm := @run_makeMap Tryd.prog
  go_enter Tryd.func55, Tryd.ntmps55
  go_wp2_with fail
  go_ret
  refine ⟨rfl, ⟨?_, ?_, ?_, by omega⟩, (((Below.refl _ _).alloc (Nat.le_refl _) _).alloc (by simp) _).alloc (by simp; omega) _, by simp⟩
  · have := heap_alloc_new ((w.alloc (.map #[] 0)).alloc (.map #[] 0)) (.cells #[.map (some w.heap.size), .map (some (w.heap.size + 1))] 131)
    simp only [World.size_alloc] at this
    exact this
  · exact ((TakMap.made w).same (Below.heap_alloc _ _ _ (by simp))).same (Below.heap_alloc _ _ _ (by simp; omega))
  · have := (TakMap.made (w.alloc (.map #[] 0))).same (Below.heap_alloc _ (.cells #[.map (some w.heap.size), .map (some (w.heap.size + 1))] 131) _ (by simp))
    simp only [World.size_alloc] at this
    exact this

set_option maxHeartbeats 1000000 in
theorem tabLen_any (h : TabAt w tb mt mf A) : Calls Tryd.prog 64 #[.pointer (some ⟨tb, 0, none⟩)] w fun e w' => e = .returned (.int .i64 (A.length : Int)) ∧ w = w' := by
  have h0 := h.c0
  have hl := fun ty => TakMap.len h.to ty
  clear h
  go_enter Tryd.func64, Tryd.ntmps64
  go_wp2_with fail
  go_ret
  exact ⟨rfl, rfl⟩

set_option maxHeartbeats 1000000 in
theorem tabTo_yes (h : TabAt w tb mt mf A) (t : Nat × Nat) (ht : t ∈ A) (hb : (t.1 : Int) ≤ 9223372036854775807) :
    Calls Tryd.prog 71 #[.pointer (some ⟨tb, 0, none⟩), .int .i64 (t.1 : Int)] w fun e w' => e = .returned (.tuple #[.int .i64 (t.2 : Int), .bool true]) ∧ w = w' := by
  have h0 := h.c0
  have hl := h.to.lookup (x := (t.1 : Int)) (wfI (by omega) hb)
  rw [takAt_mem h.to.1 ht, memZ_nat, decide_eq_true (List.mem_map.2 ⟨t, ht, rfl⟩)] at hl
  clear h
  go_enter Tryd.func71, Tryd.ntmps71
  go_wp2_with fail
  go_ret2
  exact ⟨rfl, rfl⟩

set_option maxRecDepth 100000 in
set_option maxHeartbeats 1000000 in
theorem tabMap_new (h : TabAt w tb mt mf A) (a b : Nat) (ha : (a : Int) ≤ 9223372036854775807) (hb : (b : Int) ≤ 9223372036854775807) (hna : a ∉ A.map (·.1)) (hnb : b ∉ A.map (·.2)) (hn : A.length < maxLen) :
    Calls Tryd.prog 60 #[.pointer (some ⟨tb, 0, none⟩), .int .i64 (a : Int), .int .i64 (b : Int)] w fun e w' => e = .returned (.int .i64 0) ∧ TabAt w' tb mt mf (A ++ [(a, b)]) ∧ KeptF (fun i => i = mt ∨ i = mf) w w' := by
  have h0 := h.c0
  have h1 := h.c1
  have l1 := h.to.lookup (x := (a : Int)) (wfI (by omega) ha)
  have l2 := h.fro.lookup (x := (b : Int)) (wfI (by omega) hb)
  have hnb' : b ∉ (A.map Prod.swap).map (·.1) := by
    rw [List.map_map]
    exact hnb
  rw [memZ_nat, decide_eq_false hna] at l1
  rw [memZ_nat, decide_eq_false hnb'] at l2
  go_enter Tryd.func60, Tryd.ntmps60
  go_upto_region 7 with (fail)
  obtain ⟨X1, Y1, Z1, st1, hX1, e1, s1, t1⟩ := h.to.entry ha hb hna hn
  obtain ⟨X2, Y2, Z2, st2, hX2, e2, s2, t2⟩ := h.fro.entry (a := b) (o := a) hb ha hnb' (by simpa using hn)
  have hne := h.ne
  obtain ⟨u1, hu1⟩ : ∃ u, u = setBlock w.drew mt Y1 := ⟨_, rfl⟩
  obtain ⟨u2, hu2⟩ : ∃ u, u = setBlock u1 mt Z1 := ⟨_, rfl⟩
  obtain ⟨u3, hu3⟩ : ∃ u, u = setBlock u2 mf Y2 := ⟨_, rfl⟩
  obtain ⟨u4, hu4⟩ : ∃ u, u = setBlock u3 mf Z2 := ⟨_, rfl⟩
  have k1 : u1.heap[mt]? = some Y1 := by rw [hu1]; exact heap_setB_same (w := w.drew) hX1 _
  have k2 : u2.heap[mt]? = some Z1 := by rw [hu2]; exact heap_setB_same k1 _
  have m2 : u2.heap[mf]? = some X2 := by rw [hu2, heap_setB_other _ _ (Ne.symm hne), hu1, heap_setB_other _ _ (Ne.symm hne)]; exact hX2
  have k3 : u3.heap[mf]? = some Y2 := by rw [hu3]; exact heap_setB_same m2 _
  have k4 : u4.heap[mf]? = some Z2 := by rw [hu4]; exact heap_setB_same k3 _
  have k4' : u4.heap[mt]? = some Z1 := by rw [hu4, heap_setB_other _ _ hne, hu3, heap_setB_other _ _ hne]; exact k2
  have r1 := e1 w.drew hX1
  rw [← hu1] at r1
  have r2 := s1 u1 k1
  rw [← hu2] at r2
  have r3 := e2 u2 m2
  rw [← hu3] at r3
  have r4 := s2 u3 k3
  rw [← hu4] at r4
  have hkf : KeptF (fun i => i = mt ∨ i = mf) w u4 := by
    have hs : ∀ (v : World) (c : Nat) (o : Obj), KeptF (fun i => i = mt ∨ i = mf) w v → (c = mt ∨ c = mf) → KeptF (fun i => i = mt ∨ i = mf) w (setBlock v c o) := fun v c o hv hc =>
      hv.trans ⟨rfl, rfl, rfl, by simp [setBlock], fun i _ hi => heap_setB_other _ _ (fun e => hi (by rw [e]; exact hc))⟩
    rw [hu4, hu3, hu2, hu1]
    exact hs _ _ _ (hs _ _ _ (hs _ _ _ (hs _ _ _ ((KeptF.refl _ w).drewN 1) (.inl rfl)) (.inl rfl)) (.inr rfl)) (.inr rfl)
  have F := Lib.hid (show TabAt u4 tb mt mf (A ++ [(a, b)]) from ⟨(hkf.block tb h.lt.1 (by
      intro e
      have hb0 := h.blk
      rcases e with e | e
      · rw [e, hX1] at hb0
        obtain ⟨_, D, ⟨es, clock, hmb, _⟩, _⟩ := h.to
        rw [hX1] at hmb
        rw [hmb] at hb0
        cases hb0
      · rw [e, hX2] at hb0
        obtain ⟨_, D, ⟨es, clock, hmb, _⟩, _⟩ := h.fro
        rw [hX2] at hmb
        rw [hmb] at hb0
        cases hb0)).trans h.blk, t1 u4 k4', by rw [List.map_append]; exact t2 u4 k4, hne⟩)
  have K := Lib.hid hkf
  clear hu1 hu2 hu3 hu4 k1 k2 k3 k4 k4' m2 e1 s1 t1 e2 s2 t2 hkf hX1 hX2 hne l1 l2 h
  go_region
  all_goals go_wp2_with fail
  all_goals go_ret
  all_goals exact ⟨rfl, F.out, K.out⟩
end

end Go.Proofs.YtikahcbkeempdaaDoor
