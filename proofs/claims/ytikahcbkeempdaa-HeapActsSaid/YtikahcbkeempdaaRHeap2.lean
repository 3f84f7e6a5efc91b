/- The reference's heap: DocTake, DocGive. -/
import Derived.Test.YtikahcbkeempdaaRHeap1
import Derived.StillTailTactics
namespace Go.Proofs.Ytikahcbkeempdaa
open Go.RowKit Go.Maps

section
variable {w w' : World} {rp each c : Nat} {mn : Int} {rv : Value} {pp uu : Nat → Nat} {tt : Nat → Value} {T : Nat → List (Nat × Nat)} {F : Nat → Nat → List Nat}

set_option maxHeartbeats 1000000 in
theorem rhgive_no (h : RHeap w rp each mn c rv pp uu tt T) (he : each ≤ 1024) (hc : c ≤ 8) (f o : Int) (hf : f < 0 ∨ ((each * c : Nat) : Int) ≤ f) :
    Calls Try.prog 65 #[.pointer (some ⟨rp, 0, none⟩), .int .i64 f, .int .i64 o] w fun e w' => e = .returned (.int .i64 1) ∧ ∃ m, w' = w.drewN m := by
  have h0 := h.c0
  have h4 := h.c2
  obtain ⟨oa, cap, rfl, _⟩ := own_shape h.own
  have hmul : each * c ≤ 1024 * 8 := Nat.mul_le_mul he hc
  have w1' : IntKind.i64.wrap ((each : Int) * (c : Int)) = ((each * c : Nat) : Int) := by rw [← Int.natCast_mul]; exact IntWalk.i64_in _ (by omega)
  generalize each * c = M at *
  clear h
  by_cases hn : f < 0
  · have hd : decide (f < 0) = true := by simpa using hn
    go_enter Try.func65, Try.ntmps65
    go_wp2_with fail
    go_quiet (fail)
    go_wp2_with fail
    go_ret
    exact ⟨rfl, _, rfl⟩
  · have hd : decide (f < 0) = false := by simpa using hn
    have hd2 : decide ((M : Int) ≤ f) = true := by
      rw [decide_eq_true_eq]; omega
    go_enter Try.func65, Try.ntmps65
    go_wp2_with fail
    go_quiet (fail)
    go_wp2_with fail
    go_ret
    exact ⟨rfl, _, rfl⟩

set_option maxRecDepth 100000 in
set_option maxHeartbeats 1000000 in
theorem rhgive_at (h : RHeap w rp each mn c rv pp uu tt T) (he : each ≤ 1024) (hc : c ≤ 8) (i a : Nat) (hi' : i < c) (ha : a < each) (o g : Int) (R : World → Prop)
    (K : ∀ m, Calls Try.prog 39 #[.pointer (some ⟨pp i, 0, none⟩), .int .i64 (a : Int), .int .i64 o] (w.drewN m) fun e w' => e = .returned (.int .i64 g) ∧ R w') :
    Calls Try.prog 65 #[.pointer (some ⟨rp, 0, none⟩), .int .i64 ((i * each + a : Nat) : Int), .int .i64 o] w fun e w' => e = .returned (.int .i64 g) ∧ R w' := by
  have h0 := h.c0
  have h4 := h.c2
  obtain ⟨gb, cap, rfl, hci⟩ := h.ptr hi'
  have hmul : each * c ≤ 1024 * 8 := Nat.mul_le_mul he hc
  have hlt : i * each + a < each * c := by
    have h1 : (i + 1) * each ≤ c * each := Nat.mul_le_mul_right _ (by omega)
    rw [Nat.add_mul, Nat.one_mul] at h1
    rw [Nat.mul_comm each c]
    omega
  have w1' : IntKind.i64.wrap ((each : Int) * (c : Int)) = ((each * c : Nat) : Int) := by rw [← Int.natCast_mul]; exact IntWalk.i64_in _ (by omega)
  have hq : (i * each + a) / each = i := by
    rw [Nat.mul_comm, Nat.mul_add_div (by omega), Nat.div_eq_of_lt ha]; omega
  have hr : (i * each + a) % each = a := by
    rw [Nat.mul_comm, Nat.mul_add_mod, Nat.mod_eq_of_lt ha]
  obtain ⟨f, hf⟩ : ∃ f, i * each + a = f := ⟨_, rfl⟩
  rw [hf] at hq hr hlt ⊢
  have hqi : (f : Int).tdiv (each : Int) = (i : Int) := by
    rw [Int.tdiv_eq_ediv_of_nonneg (by omega), ← Int.natCast_ediv, hq]
  have hri : (f : Int).tmod (each : Int) = (a : Int) := by
    rw [Int.tmod_eq_emod_of_nonneg (by omega), ← Int.natCast_emod, hr]
  have e0 : ((each : Int) == 0) = false := by rw [beq_eq_false_iff_ne]; omega
  have e1 : ¬ (each : Int) = 0 := by omega
  have e2 : ¬ each = 0 := by omega
  have wi : IntKind.i64.wrap (i : Int) = (i : Int) := IntWalk.i64_in _ (by omega)
  have wa : IntKind.i64.wrap (a : Int) = (a : Int) := IntWalk.i64_in _ (by omega)
  have c2 : (i : Int) < (c : Int) := by omega
  have c3 : (0 : Int) ≤ (i : Int) := by omega
  generalize each * c = M at *
  have hd : decide ((f : Int) < 0) = false := by simp
  have hd2 : decide (M ≤ f) = false := by simp; omega
  have hd3 : decide ((M : Int) ≤ (f : Int)) = false := by simp; omega
  have HK := Lib.hid K
  clear h K hq hr hf hlt hmul
  go_enter Try.func65, Try.ntmps65
  go_wp2_with fail
  go_quiet (fail)
  go_wp2_with fail
  have K2 : Calls Try.prog 39 #[.pointer (some ⟨pp i, 0, none⟩), .int .i64 (a : Int), .int .i64 o] (w.drewN nq).drew fun e w' => e = .returned (.int .i64 g) ∧ R w' := HK.out (nq + 1)
  have HK2 := Lib.hid K2
  have h0' : (w.drewN nq).cell? ⟨rp, 0, none⟩ = some (.int .i64 (each : Int)) := h0
  have h4' : (w.drewN nq).cell? ⟨rp, 2, none⟩ = some (.slice (some ⟨gb, 0, none⟩) c cap) := h4
  have hci' : (w.drewN nq).cell? ⟨gb, i, none⟩ = some (.pointer (some ⟨pp i, 0, none⟩)) := hci
  clear K2 h0 h4 hci
  generalize w.drewN nq = wq at *
  go_still_tail 19, (by kernel_rfl)
  change wpList _ _ _ _ _ wq.drew
  go_wp2_with fail
  refine HK2.out.mono ?_
  rintro e w2 ⟨rfl, hR⟩
  go_wp2_with fail
  go_ret
  exact ⟨rfl, hR⟩


set_option maxHeartbeats 1000000 in
theorem rhtake_no (h : RHeap w rp each mn c rv pp uu tt T) (n o : Int) (hn : n < 0 ∨ (c : Int) ≤ n) :
    Calls Try.prog 64 #[.pointer (some ⟨rp, 0, none⟩), .int .i64 n, .int .i64 o] w fun e w' => e = .returned (.tuple #[.int .i64 0, .int .i64 10]) ∧ w = w' := by
  have HN := Lib.hid (rnode_no h n hn)
  clear h hn
  go_enter Try.func64, Try.ntmps64
  go_wp2_with fail
  refine HN.out.mono ?_
  rintro e w1 ⟨rfl, rfl⟩
  go_wp2_with fail
  go_ret2
  exact ⟨rfl, rfl⟩

set_option maxHeartbeats 1000000 in
theorem rhtake_arg (h : RHeap w rp each mn c rv pp uu tt T) (i : Nat) (hi : i < c) (o : Int) (ho : o < 0 ∨ 10 < o) :
    Calls Try.prog 64 #[.pointer (some ⟨rp, 0, none⟩), .int .i64 (i : Int), .int .i64 o] w fun e w' => e = .returned (.tuple #[.int .i64 0, .int .i64 1]) ∧ w = w' := by
  have HN := Lib.hid (rnode_yes h i hi)
  clear h
  rcases ho with ho | ho
  · go_enter Try.func64, Try.ntmps64
    go_wp2_with fail
    refine HN.out.mono ?_
    rintro e w1 ⟨rfl, rfl⟩
    go_wp2_with fail
    go_ret2
    exact ⟨rfl, rfl⟩
  · have h0 : ¬ o < 0 := by omega
    go_enter Try.func64, Try.ntmps64
    go_wp2_with fail
    refine HN.out.mono ?_
    rintro e w1 ⟨rfl, rfl⟩
    go_wp2_with fail
    go_ret2
    exact ⟨rfl, rfl⟩

set_option maxHeartbeats 1000000 in
theorem rhtake_nomem (h : RHeap w rp each mn c rv pp uu tt T) (hI : ∀ j, j < c → Bu.Inv each (T j) (F j)) (i : Nat) (hi : i < c) (o : Nat) (ho : o ≤ 10) (hm : mayF (F i) mn o = false) :
    Calls Try.prog 64 #[.pointer (some ⟨rp, 0, none⟩), .int .i64 (i : Int), .int .i64 (o : Int)] w fun e w' => e = .returned (.tuple #[.int .i64 0, .int .i64 5]) ∧ Below w.heap.size w w' := by
  have HN := Lib.hid (rnode_yes h i hi)
  have hy := rmay_yes h hI i hi o ho
  rw [hm] at hy
  have HM := Lib.hid hy
  have c1 : ¬ (o : Int) < 0 := by omega
  have c2 : ¬ (10 : Int) < (o : Int) := by omega
  clear h hI hm hy
  go_enter Try.func64, Try.ntmps64
  go_wp2_with fail
  refine HN.out.mono ?_
  rintro e w1 ⟨rfl, rfl⟩
  go_wp2_with fail
  refine HM.out.mono ?_
  rintro e w2 ⟨rfl, hb⟩
  go_wp2_with fail
  go_ret2
  exact ⟨rfl, hb⟩

/-- What a turn of node i leaves: the heap with another row of runs taken. -/
def RHTurn (w : World) (rp each : Nat) (mn : Int) (c : Nat) (rv : Value) (pp uu : Nat → Nat) (tt : Nat → Value) (T : Nat → List (Nat × Nat)) (i : Nat) (T' : List (Nat × Nat)) (w' : World) : Prop :=
  ∃ tv', RHeap w' rp each mn c rv pp uu (fun j => if j = i then tv' else tt j) (fun j => if j = i then T' else T j) ∧ KeptF (RFp (pp i) (uu i) (tt i)) w w' ∧ ∀ g, tv'.ownBlock = some g → (tt i).ownBlock = some g ∨ w.heap.size ≤ g

def RHTakePost (w : World) (rp each : Nat) (mn : Int) (c : Nat) (rv : Value) (pp uu : Nat → Nat) (tt : Nat → Value) (T : Nat → List (Nat × Nat)) (i x o : Nat) (e : Ending) (w' : World) : Prop :=
  e = .returned (.tuple #[.int .i64 ((i * each + x : Nat) : Int), .int .i64 0]) ∧ RHTurn w rp each mn c rv pp uu tt T i (T i ++ [(x, o)]) w'

set_option maxHeartbeats 1000000 in
theorem rhtake_ok (h : RHeap w rp each mn c rv pp uu tt T) (hI : ∀ j, j < c → Bu.Inv each (T j) (F j)) (hc : c ≤ 8) (i : Nat) (hi : i < c) (o : Nat) (ho : o ≤ 10) (hm : mayF (F i) mn o = true) {kk x : Nat} (hp : Bu.pick (F i) o = some (kk, x)) :
    Calls Try.prog 64 #[.pointer (some ⟨rp, 0, none⟩), .int .i64 (i : Int), .int .i64 (o : Int)] w (RHTakePost w rp each mn c rv pp uu tt T i x o) := by
  have HN := Lib.hid (rnode_yes h i hi)
  have hy := rmay_yes h hI i hi o ho
  rw [hm] at hy
  have HM := Lib.hid hy
  have c1 : ¬ (o : Int) < 0 := by omega
  have c2 : ¬ (10 : Int) < (o : Int) := by omega
  have I' := (hI i hi).take_pick hp
  have hin := (I'.taken (x, o) (by simp)).2.2
  simp only at hin
  have hnl := (hI i hi).n_le
  have hxl : x ≤ 1024 := Nat.le_trans (Nat.le_add_right x (2 ^ o)) (Nat.le_trans hin hnl)
  have hpr : Bu.pick (Bu.runs each (T i)) o = some (kk, x) := (Bu.pick_congr (fun _ hj => ((hI i hi).runs_eq hj).symm) o).trans hp
  have HT := Lib.hid (fun (w' : World) (hb : Below w.heap.size w w') => rtake_some ((h.below hb).ref i hi) hnl o hpr (hI i hi).T_le hin)
  have H := Lib.hid h
  have hmul : i * each ≤ 8 * 1024 := Nat.mul_le_mul (by omega) hnl
  have w1' : IntKind.i64.wrap ((i : Int) * (each : Int)) = ((i * each : Nat) : Int) := by rw [← Int.natCast_mul]; exact IntWalk.i64_in _ (by omega)
  have w2' : IntKind.i64.wrap (((i * each : Nat) : Int) + (x : Int)) = ((i * each + x : Nat) : Int) := by rw [IntWalk.i64_in _ (by omega)]; omega
  have ci0 : (0 : Int) ≤ (i : Int) := by omega
  have ci1 : (i : Int) < (c : Int) := by omega
  clear h hI hm hy hp hpr I' hin
  go_enter Try.func64, Try.ntmps64
  go_wp2_with fail
  refine HN.out.mono ?_
  rintro e w1 ⟨rfl, rfl⟩
  go_wp2_with fail
  refine HM.out.mono ?_
  rintro e w2 ⟨rfl, hb2⟩
  have h2 := H.out.below hb2
  have hc2 := h2.c2
  obtain ⟨g, cap, rfl, hpt⟩ := h2.ptr hi
  have H2 := Lib.hid h2
  clear h2
  go_wp2_with fail
  refine (HT.out _ hb2).mono ?_
  rintro e w3 ⟨rfl, tv', hR3, hk3, hob⟩
  have hn : ∀ g, tv'.ownBlock = some g → (tt i).ownBlock = some g ∨ w2.heap.size ≤ g := fun g hg => by
    rcases hob with e | ⟨g', hg', e⟩
    · exact .inl (e ▸ hg)
    · rw [e] at hg; cases hg; exact .inr hg'
  have h3 := H2.out.turn hi hR3 hk3 hn
  have hc0 := h3.c0
  have H3 := Lib.hid h3
  have HNN := Lib.hid hn
  clear h3 hR3 hob hn
  go_wp2_with fail
  go_ret2
  exact ⟨rfl, tv', H3.out, (KeptF.of_below hb2 _).trans hk3, fun g hg => (HNN.out g hg).imp_right fun h => Nat.le_trans hb2.size h⟩
end
end Go.Proofs.Ytikahcbkeempdaa
