/- heap: Give by what is taken; the runs taken, split among the nodes. -/
import Derived.Test.YtikahcbkeempdaaHeap7
namespace Go.Proofs.Ytikahcbkeempdaa
open Go.RowKit Go.Maps

/-- Of runs told by their frames of all nodes: those of one node, told by its own frames. -/
def spl (each : Nat) (S : List (Nat × Nat)) (j : Nat) : List (Nat × Nat) := (S.filter fun t => t.1 / each == j).map fun t => (t.1 % each, t.2)
theorem spl_nil (each j : Nat) : spl each [] j = [] := rfl
theorem spl_app (each : Nat) (S R : List (Nat × Nat)) (j : Nat) : spl each (S ++ R) j = spl each S j ++ spl each R j := by simp [spl]
theorem div_at {each i x : Nat} (h : x < each) : (i * each + x) / each = i := by rw [Nat.mul_comm, Nat.mul_add_div (by omega), Nat.div_eq_of_lt h]; omega
theorem mod_at {each i x : Nat} (h : x < each) : (i * each + x) % each = x := by rw [Nat.mul_comm, Nat.mul_add_mod, Nat.mod_eq_of_lt h]
theorem spl_snoc {each i x o : Nat} (h : x < each) (S : List (Nat × Nat)) (j : Nat) : spl each (S ++ [(i * each + x, o)]) j = if j = i then spl each S i ++ [(x, o)] else spl each S j := by
  rw [spl_app]
  by_cases e : j = i
  · subst e
    rw [if_pos rfl]
    simp [spl, div_at h, mod_at h]
  · rw [if_neg e]
    have : ¬ i = j := fun e2 => e e2.symm
    simp [spl, div_at h, this]
theorem spl_mem {each : Nat} {S : List (Nat × Nat)} {t : Nat × Nat} (h : t ∈ S) : (t.1 % each, t.2) ∈ spl each S (t.1 / each) :=
  List.mem_map.2 ⟨t, List.mem_filter.2 ⟨h, by simp⟩, rfl⟩
theorem spl_back {each : Nat} {S : List (Nat × Nat)} {j a o : Nat} (h : (a, o) ∈ spl each S j) : (j * each + a, o) ∈ S := by
  obtain ⟨t, ht, e⟩ := List.mem_map.1 h
  obtain ⟨hm, hd⟩ := List.mem_filter.1 ht
  have e1 : t.1 % each = a := congrArg Prod.fst e
  have e2 : t.2 = o := congrArg Prod.snd e
  have hd : t.1 / each = j := by simpa using hd
  have := Nat.div_add_mod t.1 each
  rw [hd, e1, Nat.mul_comm] at this
  rw [this, ← e2]
  exact hm
theorem spl_erase {each : Nat} {t : Nat × Nat} (j : Nat) : ∀ {S : List (Nat × Nat)}, t ∈ S → spl each (S.erase t) j = if j = t.1 / each then (spl each S j).erase (t.1 % each, t.2) else spl each S j
  | [], h => by cases h
  | a :: S, h => by
    by_cases e : a = t
    · subst e
      rw [List.erase_cons_head]
      by_cases ej : j = a.1 / each
      · rw [if_pos ej]
        have : spl each (a :: S) j = (a.1 % each, a.2) :: spl each S j := by simp [spl, ej]
        rw [this, List.erase_cons_head]
      · rw [if_neg ej]
        have : ¬ a.1 / each = j := fun e => ej e.symm
        simp [spl, this]
    · have hm : t ∈ S := (List.mem_cons.1 h).resolve_left fun h => e h.symm
      have ih := spl_erase (each := each) (t := t) j hm
      have he : (a :: S).erase t = a :: S.erase t := by rw [List.erase_cons]; simp [e]
      rw [he]
      by_cases pa : a.1 / each = j
      · have c1 : ∀ R, spl each (a :: R) j = (a.1 % each, a.2) :: spl each R j := fun R => by simp [spl, pa]
        rw [c1, c1, ih]
        by_cases ej : j = t.1 / each
        · rw [if_pos ej, if_pos ej]
          have hne : (a.1 % each, a.2) ≠ (t.1 % each, t.2) := fun h => by
            have h1 : a.1 % each = t.1 % each := (Prod.mk.inj h).1
            have h2 : a.2 = t.2 := (Prod.mk.inj h).2
            refine e (Prod.ext ?_ h2)
            have := Nat.div_add_mod a.1 each
            have := Nat.div_add_mod t.1 each
            rw [pa, ej, h1] at *
            omega
          rw [List.erase_cons]
          simp [hne]
        · rw [if_neg ej, if_neg ej]
      · have c1 : ∀ R, spl each (a :: R) j = spl each R j := fun R => by simp [spl, pa]
        rw [c1, c1, ih]
theorem erase_at {α : Type} [BEq α] [LawfulBEq α] {S : List α} (h : S.Nodup) {k : Nat} (hk : k < S.length) : S.erase S[k] = S.take k ++ S.drop (k + 1) := by
  rw [List.erase_eq_eraseIdx_of_idxOf (h.idxOf_getElem k hk), List.eraseIdx_eq_take_drop_succ]

theorem Bu.Inv.gone {n : Nat} {T F} (I : Bu.Inv n T F) (t : Nat × Nat) (ht : t ∈ T) : t ∉ T.erase t := fun h =>
  Bu.disj_sym I.disj ht h t.1 ((Bu.cov_iff _ _).2 ⟨Nat.le_refl _, by have := Bu.pos2 t.2; omega⟩) ((Bu.cov_iff _ _).2 ⟨Nat.le_refl _, by have := Bu.pos2 t.2; omega⟩)

section
variable {w : World} {hp each c : Nat} {mn lo hi : Int} {nv : Value} {bb : Nat → Nat} {F : Nat → Nat → List Nat} {T : Nat → List (Nat × Nat)}

def HGiveR (w : World) (hp each : Nat) (mn lo hi : Int) (c : Nat) (nv : Value) (bb : Nat → Nat) (F : Nat → Nat → List Nat) (T : Nat → List (Nat × Nat)) (i a o : Nat) (w' : World) : Prop :=
  (∃ m, Kept (bb i) (bb i + 13) (w.drewN m) w') ∧ HeapAt w' hp each mn lo hi c nv bb (fun j => if j = i then Bu.giveF (10 - o) (F i) a o else F j) (fun j => if j = i then (T i).erase (a, o) else T j)

theorem hgive_ok (h : HeapAt w hp each mn lo hi c nv bb F T) (hc : c ≤ 8) (i : Nat) (hi' : i < c) (a o : Nat) (ht : (a, o) ∈ T i) :
    Calls Try.prog 56 #[.pointer (some ⟨hp, 0, none⟩), .int .i64 ((i * each + a : Nat) : Int), .int .i64 (o : Int)] w fun e w' => e = .returned (.int .i64 0) ∧ HGiveR w hp each mn lo hi c nv bb F T i a o w' := by
  have I := h.inv i hi'
  have htn := I.taken _ ht
  have hp2 := Bu.pos2 o
  refine hgive_at h I.n_le hc i a hi' (by have := htn.2.2; simp only at this; omega) (o : Int) 0 _ fun m => ?_
  refine (give_inv ((h.bud i hi').drewN m) I a o ht).mono ?_
  rintro e w' ⟨rfl, hB, hk⟩
  exact ⟨rfl, ⟨m, hk⟩, (h.drewN m).turn hi' hB (I.give ht) hk⟩

theorem HGiveR.below {w w' : World} {i a o B C : Nat} (h : HGiveR w hp each mn lo hi c nv bb F T i a o w') (hS : HSpan B C hp c nv bb) (hi' : i < c) (hB : B ≤ w.heap.size) : Below B w w' := by
  obtain ⟨m, hk⟩ := h.1
  exact (drewN_below w m B).trans (hk.below (hS.bb i hi').1 (by simpa using hB))
theorem HGiveR.keeps {w w' : World} {i a o B C : Nat} (h : HGiveR w hp each mn lo hi c nv bb F T i a o w') (hS : HSpan B C hp c nv bb) (hi' : i < c) {g : Nat} (hg : C ≤ g) (hl : g < w.heap.size) : w'.heap[g]? = w.heap[g]? := by
  obtain ⟨m, hk⟩ := h.1
  exact hk.block g hl (by have := (hS.bb i hi').2; omega)

theorem hgive_bad (h : HeapAt w hp each mn lo hi c nv bb F T) (hc : c ≤ 8) (i : Nat) (hi' : i < c) (a o : Nat) (ha : a < each) (ho : o ≤ 10) (hn : (a, o) ∉ T i) :
    Calls Try.prog 56 #[.pointer (some ⟨hp, 0, none⟩), .int .i64 ((i * each + a : Nat) : Int), .int .i64 (o : Int)] w fun e w' => e = .returned (.int .i64 6) ∧ ∃ m, w' = w.drewN m := by
  have I := h.inv i hi'
  have hnl := I.n_le
  refine hgive_at h I.n_le hc i a hi' ha (o : Int) 6 _ fun m => ?_
  refine (give_bad ((h.bud i hi').drewN m) (a : Int) o ho (wfI (by omega) (by omega)) fun t ht hc => hn ?_).mono ?_
  · have : t = (a, o) := Prod.ext (by have := hc.1; simp only; omega) hc.2
    rwa [this] at ht
  · rintro e w' ⟨rfl, rfl⟩
    exact ⟨rfl, m, rfl⟩

theorem hgive_order (h : HeapAt w hp each mn lo hi c nv bb F T) (hc : c ≤ 8) (i : Nat) (hi' : i < c) (a : Nat) (ha : a < each) (o : Int) (ho : o < 0 ∨ 10 < o) :
    Calls Try.prog 56 #[.pointer (some ⟨hp, 0, none⟩), .int .i64 ((i * each + a : Nat) : Int), .int .i64 o] w fun e w' => e = .returned (.int .i64 1) ∧ ∃ m, w' = w.drewN m := by
  refine hgive_at h (h.inv i hi').n_le hc i a hi' ha o 1 _ fun m => (give_no _ (a : Int) o _ ho).mono ?_
  rintro e w' ⟨rfl, rfl⟩
  exact ⟨rfl, m, rfl⟩
end

/-! ### a row of whole numbers of the call's own -/
theorem own_block1 {w : World} {base e n : Nat} {v : Value} {xs : List Value} (h : w.ownsRow base e 1 v n xs) (hn : 0 < n) :
    ∃ g cap cur, v = .slice (some ⟨g, 0, none⟩) n cap ∧ base ≤ g ∧ w.heap[g]? = some (.cells cur e (0, 0)) ∧ n ≤ cap ∧ cur.toList.take n = xs := by
  rcases h.2 with ⟨_, h0⟩ | ⟨g, cap, cur, rfl, hbase, hb, h1, _, _, h4⟩
  · omega
  · exact ⟨g, cap, cur, rfl, hbase, hb, h1, by simpa using h4⟩
theorem intV_take (l : List Nat) (i : Nat) : (intV l).take i = intV (l.take i) := by simp [intV, List.map_take]
theorem intV_drop (l : List Nat) (i : Nat) : (intV l).drop i = intV (l.drop i) := by simp [intV, List.map_drop]
theorem intV_app (l m : List Nat) : intV (l ++ m) = intV l ++ intV m := by simp [intV]
theorem intV_len (l : List Nat) : (intV l).length = l.length := by simp [intV]
theorem intV_one (l : List Nat) : ∀ u ∈ intV l, u.oneCell' = true := by
  intro u hu
  obtain ⟨x, _, rfl⟩ := List.mem_map.1 hu
  rfl
theorem news_take1 {W : World} {g e i : Nat} {cur : Array Value} {fr : Nat × Nat} {L : List Nat} (hb : W.heap[g]? = some (.cells cur e fr)) (hc : cur.toList.take L.length = intV L) :
    ∀ j u, (intV (L.take i))[j]? = some u → W.cell? ((⟨g, 0, none⟩ : Addr).add j) = some u := by
  intro j u hj
  rw [← intV_take, ← hc] at hj
  rw [Addr.add_mid, Nat.zero_add]
  simp only [World.cell?, hb, Option.isSome_none, Bool.false_eq_true, if_false]
  rw [← Array.getElem?_toList]
  exact List.getElem?_eq_some_of_take (List.getElem?_eq_some_of_take hj)
theorem news_drop1 {W : World} {g e i : Nat} {cur : Array Value} {fr : Nat × Nat} {L : List Nat} (hb : W.heap[g]? = some (.cells cur e fr)) (hc : cur.toList.take L.length = intV L) :
    ∀ j u, (intV (L.drop i))[j]? = some u → W.cell? ((⟨g, i, none⟩ : Addr).add j) = some u := by
  intro j u hj
  rw [← intV_drop, ← hc, List.getElem?_drop] at hj
  rw [Addr.add_mid]
  simp only [World.cell?, hb, Option.isSome_none, Bool.false_eq_true, if_false]
  rw [← Array.getElem?_toList]
  exact List.getElem?_eq_some_of_take hj
theorem own_app1 {w : World} {base e N : Nat} {v : Value} {A B : List Nat} (h : w.ownsRow base e 1 v N ([] ++ intV A ++ intV B)) : w.ownsRow base e 1 v (A ++ B).length (intV (A ++ B)) := by
  rw [List.nil_append, ← intV_app] at h
  have hl := h.1
  rw [intV_len] at hl
  have : N = (A ++ B).length := by omega
  subst this
  exact h

end Go.Proofs.Ytikahcbkeempdaa
