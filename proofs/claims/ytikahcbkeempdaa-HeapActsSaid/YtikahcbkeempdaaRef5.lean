/- The reference's buddy: DocGive of a run that is taken. -/
import Derived.Test.YtikahcbkeempdaaRef4
import Derived.Deep.MidRow
import Derived.Deep.Onto
namespace Go.Proofs.Ytikahcbkeempdaa
open Go.RowKit

theorem step_append_own {P : Program} (w : World) {ops : Array Oper} {o : Oper} {a : Act} {K : Act → World → Prop} {Q : Exit → Act → World → Prop} {E : Prop} (hgd : o.guard = none) (s x : Operand) (t : TypeId)
    (ho : o.op = .call { callee := .builtin .append, args := #[s, x], argTypes := #[t, t] })
    (base : Nat) (e : TypeId) (i : TypeInfo) (z : Value) (size bytes : Nat) (ht : P.underlying t = some (.slice e)) (hi : P.info? e = some i) (hz : i.zero = some z)
    (hsize : i.size = size) (hby : i.bytes = bytes) (hzs : z.cells.size = size) (hsz : 0 < size)
    (v : Value) (n : Nat) (xs : List Value) (hs : a.eval s = v) (hown : w.ownsRow base e size v n xs)
    (ad : Addr) (m c : Nat) (news : List Value) (hx : a.eval x = .slice (some ad) m c) (hl : news.length = m * size) (hnews : ∀ j u, news[j]? = some u → w.cell? (ad.add j) = some u) (h1 : ∀ u ∈ news, u.oneCell' = true)
    (h63 : n + m ≤ maxLen) (hbytes : (n + m) * bytes ≤ 140737488355328) (hbase : base ≤ w.heap.size)
    (h : ∀ v' w', w'.ownsRow base e size v' (n + m) (xs ++ news) → w.grownBy w' v.ownBlock → (v' = .slice none 0 0 ↔ v = .slice none 0 0 ∧ m = 0) → K (a.put o.dst v') w') :
    if Region.wanted o (yielded ops a.tmps) = true then Oper.wp P o a w K Q else E := by
  have hw : Region.wanted o (yielded ops a.tmps) = true := by simp [Region.wanted, hgd]
  rw [if_pos hw]
  exact wp_append_own w s x t ho base e i z size bytes ht hi hz hsize hby hzs hsz v n xs hs hown ad m c news hx hl hnews h1 h63 hbytes hbase h

theorem takCells_one (T : List (Nat × Nat)) : ∀ u ∈ takCells T, u.oneCell' = true := by
  intro u hu
  simp only [takCells, List.mem_flatMap] at hu
  obtain ⟨t, _, h⟩ := hu
  simp only [List.mem_cons, List.not_mem_nil, or_false] at h
  rcases h with rfl | rfl <;> rfl

theorem erase_idx (T : List (Nat × Nat)) (t : Nat × Nat) : T.erase t = T.take (T.idxOf t) ++ T.drop (T.idxOf t + 1) := by
  rw [List.erase_eq_eraseIdx_of_idxOf rfl, List.eraseIdx_eq_take_drop_succ]

theorem used_unset {T : List (Nat × Nat)} {a o : Nat} (hm : (a, o) ∈ T) (hd : T.Pairwise fun s t => ∀ x, Bu.cov x s = true → Bu.cov x t = true → False) (x : Nat) : setU (Bu.used T) a (2 ^ o) false x = Bu.used (T.erase (a, o)) x := by
  unfold setU
  by_cases hc : a ≤ x ∧ x < a + 2 ^ o
  · rw [if_pos hc]
    symm
    cases hu : Bu.used (T.erase (a, o)) x with
    | false => rfl
    | true =>
      obtain ⟨t, ht, hct⟩ := Bu.used_true hu
      exact (Bu.disj_sym hd hm ht x ((Bu.cov_iff x (a, o)).2 hc) hct).elim
  · rw [if_neg hc]
    cases hu : Bu.used T x with
    | false => exact (Bu.used_mono (fun _ h => List.mem_of_mem_erase h) hu).symm
    | true =>
      obtain ⟨t, ht, hct⟩ := Bu.used_true hu
      have : t ≠ (a, o) := fun e => by subst e; exact hc ((Bu.cov_iff x (a, o)).1 hct)
      exact (Bu.used_of_cov ((List.mem_erase_of_ne this).2 ht) hct).symm

theorem List.getElem?_eq_some_of_take {α : Type} {l : List α} {n j : Nat} {x : α} (h : (l.take n)[j]? = some x) : l[j]? = some x := by
  rw [List.getElem?_take] at h
  split at h
  · exact h
  · cases h

theorem own_block2 {w : World} {base e n : Nat} {v : Value} {xs : List Value} (h : w.ownsRow base e 2 v n xs) (hn : 0 < n) :
    ∃ g cap cur, v = .slice (some ⟨g, 0, none⟩) n cap ∧ w.heap[g]? = some (.cells cur e (0, 0)) ∧ n ≤ cap ∧ cur.toList.take (n * 2) = xs := by
  rcases h.2 with ⟨_, h0⟩ | ⟨g, cap, cur, rfl, _, hb, h1, _, _, h4⟩
  · omega
  · exact ⟨g, cap, cur, rfl, hb, h1, h4⟩

theorem news_take {W : World} {g e i : Nat} {cur : Array Value} {fr : Nat × Nat} {T : List (Nat × Nat)} (hb : W.heap[g]? = some (.cells cur e fr)) (hc : cur.toList.take (T.length * 2) = takCells T) :
    ∀ j u, (takCells (T.take i))[j]? = some u → W.cell? ((⟨g, 0, none⟩ : Addr).add j) = some u := by
  intro j u hj
  rw [← takCells_take, ← hc] at hj
  rw [Addr.add_mid, Nat.zero_add]
  simp only [World.cell?, hb, Option.isSome_none, Bool.false_eq_true, if_false]
  rw [← Array.getElem?_toList]
  exact List.getElem?_eq_some_of_take (List.getElem?_eq_some_of_take hj)

theorem news_drop {W : World} {g e i : Nat} {cur : Array Value} {fr : Nat × Nat} {T : List (Nat × Nat)} (hb : W.heap[g]? = some (.cells cur e fr)) (hc : cur.toList.take (T.length * 2) = takCells T) :
    ∀ j u, (takCells (T.drop i))[j]? = some u → W.cell? ((⟨g, i * 2, none⟩ : Addr).add j) = some u := by
  intro j u hj
  rw [← takCells_drop, ← hc, List.getElem?_drop] at hj
  rw [Addr.add_mid]
  simp only [World.cell?, hb, Option.isSome_none, Bool.false_eq_true, if_false]
  rw [← Array.getElem?_toList]
  exact List.getElem?_eq_some_of_take hj

def RGivePost (w : World) (n p u : Nat) (tv : Value) (T' : List (Nat × Nat)) (e : Ending) (w' : World) : Prop :=
  e = .returned (.int .i64 0) ∧ ∃ tv', RefAt w' n p u tv' (Bu.used T') T' ∧ KeptF (RFp p u tv) w w' ∧ ∀ g, tv'.ownBlock = some g → tv.ownBlock = some g ∨ w.heap.size ≤ g

theorem rgive_fin {w w2 w4 : World} {n p u : Nat} {tv v4 T T' U} (h2 : RefAt w2 n p u tv U T) (k2 : KeptF (fun x => x = u) w w2) (hB : Below w2.heap.size w2 w4)
    (hown : w4.ownsRow w2.heap.size 51 2 v4 T'.length (takCells T')) (hU : ∀ x, U x = Bu.used T' x) : RGivePost w n p u tv T' (.returned (.int .i64 0)) (w4.setCell ⟨p, 1, none⟩ v4) := by
  have hs := k2.size
  have hob : ∀ g, v4.ownBlock = some g → w2.heap.size ≤ g := fun g hg => (hown.lt g hg).1
  refine ⟨rfl, v4, RefAt.setTaken ((hB.block p h2.lt.1).trans h2.blk) ((hB.block u h2.lt.2.1).trans (h2.congr (fun x _ => hU x)).usd) (hown.mono (Nat.zero_le _)) (fun e => by have := hob p e; have := h2.lt.1; omega) (fun e => by have := hob u e; have := h2.lt.2.1; omega) h2.apart.2.2, ?_, ?_⟩
  · exact ((k2.wider fun i _ hi => .inr (.inl hi)).trans (KeptF.of_below hB _)).setCell _ (.inl (.inl rfl))
  · exact fun g hg => .inr (by have := hob g hg; omega)

theorem own_app {w : World} {base e N : Nat} {v : Value} {A B : List (Nat × Nat)} (h : w.ownsRow base e 2 v N ([] ++ takCells A ++ takCells B)) : w.ownsRow base e 2 v (A ++ B).length (takCells (A ++ B)) := by
  rw [List.nil_append, ← takCells_app] at h
  have hl := h.1
  rw [takCells_len] at hl
  have : N = (A ++ B).length := by omega
  subst this
  exact h

set_option maxRecDepth 100000 in
set_option maxHeartbeats 2000000 in
theorem rgive_ok {w : World} {n p u : Nat} {tv T} (h : RefAt w n p u tv (Bu.used T) T) (hn : n ≤ 1024) (a o : Nat) (hm : (a, o) ∈ T) (ho : o ≤ 10) (hin : a + 2 ^ o ≤ n) (hT : T.length ≤ 1024)
    (hd : T.Pairwise fun s t => ∀ x, Bu.cov x s = true → Bu.cov x t = true → False) :
    Calls Try.prog 39 #[.pointer (some ⟨p, 0, none⟩), .int .i64 (a : Int), .int .i64 (o : Int)] w (RGivePost w n p u tv (T.erase (a, o))) := by
  obtain ⟨i0, hi, hz0, hz1, hz2⟩ := info_parts infoP
  have hjl : T.idxOf (a, o) < T.length := List.idxOf_lt_length_of_mem hm
  have hjt : T[T.idxOf (a, o)] = (a, o) := by simp
  have hjn : ∀ i (hi : i < T.length), i < T.idxOf (a, o) → T[i] ≠ (a, o) := fun i _ hlt e => by
    have := List.not_of_lt_findIdx (p := (· == (a, o))) (xs := T) hlt
    simp [e] at this
  have her := erase_idx T (a, o)
  generalize hj : T.idxOf (a, o) = j at *
  obtain ⟨g, cap, cur, htv, hgb, hcap, htk⟩ := own_block2 h.tak (by omega)
  have hgl : g < w.heap.size := (Array.getElem?_eq_some_iff.1 hgb).1
  subst htv
  have hcells : ∀ k, k < T.length * 2 → w.cell? ⟨g, k, none⟩ = some ((takCells T).getD k undef) := fun k hk => by
    rw [h.tak.cellAt k hk]
    have : k < (takCells T).length := by rw [takCells_len]; exact hk
    simp [this]
  have hc1 := h.c1
  have H := Lib.hid h
  have HM := Lib.hid hm
  have HD := Lib.hid hd
  have HJT := Lib.hid hjt
  have HJN := Lib.hid hjn
  have HER := Lib.hid her
  have HC := Lib.hid hcells
  have HGB := Lib.hid hgb
  have HTK := Lib.hid htk
  have gu : g ≠ u := fun e => h.apart.2.1 (by rw [← e]; rfl)
  have gp : g ≠ p := fun e => h.apart.1 (by rw [← e]; rfl)
  clear h hm hd hjt hjn her hj hcells hgb htk
  go_enter Try.func39, Try.ntmps39
  go_wp2_with fail
  go_loop [7] (fun v => ∃ i : Nat, v = .int .i64 (i : Int) ∧ i ≤ j) (fun v => T.length - (intOf v).toNat)
  case atStart => exact ⟨0, rfl, Nat.zero_le _⟩
  case round =>
    obtain ⟨i, rfl, hi'⟩ := hrel
    have e : i < T.length := by omega
    have ci : (i : Int) < (T.length : Int) := by omega
    have g0 := HC.out (i * 2) (by omega)
    have g1 := HC.out (i * 2 + 1) (by omega)
    rw [(takCells_at T e).1] at g0
    rw [(takCells_at T e).2] at g1
    by_cases eij : i < j
    · have hne := HJN.out i e eij
      generalize ht1 : (T[i]).1 = t1 at *
      generalize ht2 : (T[i]).2 = t2 at *
      have hcase : ((t1 : Int) == (a : Int)) = false ∨ (((t1 : Int) == (a : Int)) = true ∧ ((t2 : Int) == (o : Int)) = false) := by
        by_cases ex : t1 = a
        · refine .inr ⟨by simp [ex], ?_⟩
          rw [beq_eq_false_iff_ne]
          exact fun h => hne (Prod.ext (ht1.trans ex) (ht2.trans (by omega)))
        · exact .inl (by rw [beq_eq_false_iff_ne]; omega)
      clear hne ht1 ht2
      rcases hcase with hb | ⟨hb1, hb2⟩
      all_goals
        have hpe := fun w' => pair_eq' (t1 : Int) (t2 : Int) (a : Int) (o : Int) w'
        go_wp2_with fail
        go_round
        case rel => exact ⟨i + 1, by go_num, by omega⟩
        case measure => simp [intOf]; omega
    · obtain rfl : i = j := by omega
      rw [HJT.out] at g0 g1
      have hpe := fun w' => pair_eq' (a : Int) (o : Int) (a : Int) (o : Int) w'
      have hb1 : ((a : Int) == (a : Int)) = true := by simp
      have hb2 : ((o : Int) == (o : Int)) = true := by simp
      go_wp2_with fail
      refine (rset_any H.out a o false ho hn hin).mono ?_
      rintro e w2 ⟨rfl, hR2, hk2, hs2⟩
      have HK2 := Lib.hid hk2
      clear hs2 hpe hb1 hb2 g0 g1 hc1
      have hcp := hR2.c1
      have hfp := hR2.f1 1
      have lp := hR2.lt.1
      have lg : g < w2.heap.size := by have := hk2.size; omega
      have np : p ≠ w2.heap.size := by omega
      have f1 : IntKind.i64.wrap ((i : Int) + 1) = (i : Int) + 1 := IntWalk.i64_in _ (by omega)
      have f2 : (0 : Int) ≤ (i : Int) + 1 := by omega
      have f3 : ((i : Int) + 1).toNat = i + 1 := by omega
      have f4 : (i : Int) + 1 ≤ (T.length : Int) := by omega
      have f5 : (i : Int) ≤ (T.length : Int) := by omega
      have f6 : i ≤ cap := by omega
      have f7 : i + 1 ≤ T.length := by omega
      have f9 : i + 1 ≤ cap := by omega
      have f10 : (i : Int) ≤ (i : Int) + 1 := by omega
      have HR2 := Lib.hid hR2
      have hgb2 := Lib.hid ((hk2.block g hgl gu).trans HGB.out)
      clear hR2
      go_wp2_with fail
      have hec : (cap = i + 1 ∧ T.length = i + 1) ∨ (¬ cap = i + 1 ∧ 0 ≤ i) := by omega
      rcases hec with ⟨ecap, etl⟩ | ⟨ecap, etl⟩
      all_goals
        go_region_law (first
          | (refine step_append_own _ (by rfl) _ _ _ (by rfl) w2.heap.size 51 i0 _ 2 16 Try.underlying50 hi hz0 hz1 hz2 rfl (by omega) (.slice (some ⟨w2.heap.size, 0, none⟩) 0 0) 0 [] (by rfl) ((World.ownsRow_made w2 #[] 0 (Nat.le_refl _) (by decide) rfl).drew) ⟨g, 0, none⟩ i _ (takCells (T.take i)) (by rfl) (by rw [takCells_len]; simp; omega) (news_take ((Below.heap_alloc w2 _ _ lg).trans hgb2.out) HTK.out) (takCells_one _) (by unfold maxLen; omega) (by omega) (by simp) ?_; intro v3 w3 hown3 hgrow3 hnil3; have hB3 : Below w2.heap.size w2 w3 := ⟨hgrow3.os, hgrow3.tape, hgrow3.output, Nat.le_trans (by simp) hgrow3.size, (fun i hi => (hgrow3.block i (by simp; omega) (by simp [Value.ownBlock]; omega)).trans (Below.heap_alloc _ _ _ hi))⟩; have hcp3 := (World.cell?_of_block (a := ⟨p, 1, none⟩) (hB3.block p lp)).trans hcp; have hfp3 := (World.frozen?_of_block (a := ⟨p, 1, none⟩) (hB3.block p lp)).trans hfp; have HB3 := Lib.hid hB3; have hs3 := hgrow3.size; clear hB3)
          | (refine step_append_own _ (by rfl) _ _ _ (by rfl) w2.heap.size 51 i0 _ 2 16 Try.underlying50 hi hz0 hz1 hz2 rfl (by omega) v3 (0 + i) ([] ++ takCells (T.take i)) (by rfl) hown3 _ _ _ (takCells (T.drop (i + 1))) (by rfl) (by rw [takCells_len]; simp; try omega) (by first | exact news_drop ((HB3.out.block g lg).trans hgb2.out) HTK.out | (intro j u hj; rw [List.drop_of_length_le (by omega)] at hj; simp [takCells] at hj)) (takCells_one _) (by unfold maxLen; omega) (by omega) (by simp at hs3; omega) ?_; intro v4 w4 hown4 hgrow4 hnil4; have hB4 : Below w2.heap.size w2 w4 := ⟨hgrow4.os.trans HB3.out.os, hgrow4.tape.trans HB3.out.tape, hgrow4.output.trans HB3.out.output, Nat.le_trans HB3.out.size hgrow4.size, (fun i hi => (hgrow4.block i (by simp at hs3; omega) (fun e => by have := (hown3.lt i e.symm).1; omega)).trans (HB3.out.block i hi))⟩; have hcp4 := (World.cell?_of_block (a := ⟨p, 1, none⟩) (hB4.block p lp)).trans hcp; have hfp4 := (World.frozen?_of_block (a := ⟨p, 1, none⟩) (hB4.block p lp)).trans hfp; have HB4 := Lib.hid hB4; have HO4 := Lib.hid (own_app hown4); clear hB4; obtain ⟨oa4, cap4, rfl, -⟩ := own_shape2 hown4; clear hown4))
        all_goals go_wp2_with fail
        all_goals go_ret
        all_goals (have r := HR2.out; (try rw [etl, ecap] at r); (try rw [etl]); (try rw [ecap]); exact rgive_fin r HK2.out HB4.out (by rw [HER.out]; simpa using HO4.out) (fun x => used_unset HM.out HD.out x))

end Go.Proofs.Ytikahcbkeempdaa
