/- messuagetop: stands: a range over strings.SplitSeq of a text of two parts. -/
import Derived.Test.YtikahcbkeempdaaGreatDoorShelf2
import Derived.Test.YtikahcbkeempdaaGreatDoorGen0
import Derived.Test.YtikahcbkeempdaaGreatDoorRange2
import Derived.RangeFuncNested
import Derived.RangeFuncBound
import Derived.RangeFuncCalls
import Derived.RangeFuncLeaves
import Derived.Shelf.Abstract
import Derived.Shelf.RegionOpen
import Derived.WalkKit
import Derived.OwnWalkIn
import Derived.TacticsInMore
import Derived.LoopNIn
import Derived.LoopIn
namespace Go.Proofs.YtikahcbkeempdaaGreatDoor
open Go.RowKit Go.Shelf

set_option maxHeartbeats 400000 in
theorem nsright_yes (n : Int) (h0 : 0 ≤ n) (h1 : n < 8) (w : World) : Calls Tryz.prog 25 #[.int .i64 n] w fun e w' => e = .returned (.bool true) ∧ w = w' := by
  go_enter Tryz.func25, Tryz.ntmps25
  go_wp2
  go_ret
  exact ⟨rfl, rfl⟩
set_option maxHeartbeats 400000 in
theorem nsnode_any (b n : Int) (hb : b = n + 48) (h0 : 0 ≤ n) (h1 : n < 8) (w : World) : Calls Tryz.prog 41 #[.int .u8 b] w fun e w' => e = .returned (.tuple #[.int .i64 n, .bool true]) ∧ w = w' := by
  subst hb
  have e1 : n + 48 - 48 = n := by omega
  go_enter Tryz.func41, Tryz.ntmps41
  go_wp2_with fail
  refine (nsright_yes n h0 h1 _).mono ?_
  rintro e w' ⟨rfl, rfl⟩
  go_wp2_with fail
  go_ret2
  exact ⟨rfl, rfl⟩

def sZero : ByteArray := ⟨#[48]⟩
def sTwo : ByteArray := ⟨#[50, 45, 52]⟩
def sAll : ByteArray := ⟨#[48, 44, 50, 45, 52]⟩
def sComma : ByteArray := ⟨#[44]⟩

set_option maxHeartbeats 400000 in
theorem part_zero (w : World) : Calls Tryz.prog 28 #[.string ⟨#[48]⟩] w fun e w' => e = .returned (.tuple #[.int .i64 0, .int .i64 0, .bool true]) ∧ w = w' := by
  go_enter Tryz.func28, Tryz.ntmps28
  go_wp2_with fail
  refine (nsnode_any 48 0 (by decide) (by decide) (by decide) _).mono ?_
  rintro e w' ⟨rfl, rfl⟩
  go_wp2_with fail
  go_ret3
  exact ⟨rfl, rfl⟩
set_option maxHeartbeats 400000 in
theorem part_two (w : World) : Calls Tryz.prog 28 #[.string ⟨#[50, 45, 52]⟩] w fun e w' => e = .returned (.tuple #[.int .i64 2, .int .i64 4, .bool true]) ∧ w = w' := by
  go_enter Tryz.func28, Tryz.ntmps28
  go_wp2_with fail
  refine (nsnode_any 50 2 (by decide) (by decide) (by decide) _).mono ?_
  rintro e w' ⟨rfl, rfl⟩
  go_wp2_with fail
  refine (nsnode_any 52 4 (by decide) (by decide) (by decide) _).mono ?_
  rintro e w' ⟨rfl, rfl⟩
  go_wp2_with fail
  go_ret3
  exact ⟨rfl, rfl⟩

set_option maxHeartbeats 400000 in
theorem splitSeq_any (s sep : ByteArray) (w : World) : Calls Tryz.prog 27 #[.string s, .string sep] w fun e w' =>
    e = .returned (.func (.func 52) #[] #[.pointer (some ⟨w.heap.size + 1, 0, none⟩), .pointer (some ⟨w.heap.size, 0, none⟩), .pointer (some ⟨w.heap.size + 2, 0, none⟩)]) ∧
      w' = (((w.alloc (.cells #[.string s] 9)).alloc (.cells #[.string sep] 9)).alloc (.cells #[.int .i64 0] 3)) := by
  go_enter Tryz.func27, Tryz.ntmps27
  go_wp2
  go_ret
  exact ⟨rfl, rfl⟩

theorem index_one (w : World) : Calls Tryz.prog 54 #[.string ⟨#[48, 44, 50, 45, 52]⟩, .string ⟨#[44]⟩] w fun e w' => e = .returned (.int .i64 1) ∧ w = w' := by
  have h := Tryz.strings_Index_one ⟨#[48, 44, 50, 45, 52]⟩ 44 w
  rw [show Lib.indexByte (⟨#[48, 44, 50, 45, 52]⟩ : ByteArray).data.toList 44 = 1 by decide +kernel] at h
  exact h.mono fun _ _ ⟨h1, h2⟩ => ⟨h1, h2.symm⟩
theorem index_none (w : World) : Calls Tryz.prog 54 #[.string ⟨#[50, 45, 52]⟩, .string ⟨#[44]⟩] w fun e w' => e = .returned (.int .i64 (-1)) ∧ w = w' := by
  have h := Tryz.strings_Index_one ⟨#[50, 45, 52]⟩ 44 w
  rw [show Lib.indexByte (⟨#[50, 45, 52]⟩ : ByteArray).data.toList 44 = -1 by decide +kernel] at h
  exact h.mono fun _ _ ⟨h1, h2⟩ => ⟨h1, h2.symm⟩

def strBlk (s : ByteArray) : Obj := .cells #[.string s] 9 (0, 0)

set_option maxRecDepth 100000 in
set_option maxHeartbeats 1000000 in
theorem split_two (l S0 P0 Z0 : Nat) (W : World) (R1 R : World → Prop)
    (hs : W.heap[S0]? = some (strBlk sAll)) (hp : W.heap[P0]? = some (strBlk sComma)) (hz : W.heap[Z0]? = some (.cells #[.int .i64 0] 3 (0, 0)))
    (h1 : YieldAt Fence.wide 3 Tryz.prog l #[.string ⟨#[48]⟩] W fun e W' => e = .returned (.bool true) ∧ R1 W')
    (k1 : ∀ W', R1 W' → W'.heap[S0]? = some (strBlk sAll) ∧ W'.heap[P0]? = some (strBlk sComma) ∧ W'.heap[Z0]? = some (.cells #[.int .i64 0] 3 (0, 0)))
    (hne : S0 ≠ P0)
    (h2 : ∀ W', R1 W' → YieldAt Fence.wide 3 Tryz.prog l #[.string ⟨#[50, 45, 52]⟩] (W'.setCell ⟨S0, 0, none⟩ (.string ⟨#[50, 45, 52]⟩)) fun e W'' => (∃ v, e = .returned v) ∧ R W'') :
    CallsIn Fence.wide 4 Tryz.prog 52 (#[.func (.yield l) #[] #[]] ++ #[.pointer (some ⟨P0, 0, none⟩), .pointer (some ⟨S0, 0, none⟩), .pointer (some ⟨Z0, 0, none⟩)]) W fun e W' => (∃ v, e = .returned v) ∧ R W' := by
  have cs : W.cell? ⟨S0, 0, none⟩ = some (.string ⟨#[48, 44, 50, 45, 52]⟩) := by simp [World.cell?, hs, strBlk, sAll]
  have cp : W.cell? ⟨P0, 0, none⟩ = some (.string ⟨#[44]⟩) := by simp [World.cell?, hp, strBlk, sComma]
  have cz : W.cell? ⟨Z0, 0, none⟩ = some (.int .i64 0) := by simp [World.cell?, hz]
  have H2 := Lib.hid h2
  have K1 := Lib.hid k1
  obtain ⟨fn, tmps, assign, body, hy, hR⟩ := h1
  refine callsIn_of_wp Tryz.func52 rfl trivial ?_ rfl
  simp only [Tryz.ntmps52, List.size_toArray, List.length_cons, List.length_nil, Nat.reduceAdd, Nat.reduceSub, Array.replicate_succ, Array.replicate_zero, List.push_toArray, List.append_toArray, List.nil_append, List.cons_append]
  clear hs hp hz h2 k1
  gi_wp2
  refine wpIn_loop_rounds 2 ?_
  rw [roundsIn_succ]
  gi_wp2
  refine ⟨trivial, ?_⟩
  refine (callsIn_wide.2 (index_one _)).mono ?_
  rintro e w' ⟨rfl, rfl⟩
  have hx1 : (⟨#[48, 44, 50, 45, 52]⟩ : ByteArray).extract 0 1 = ⟨#[48]⟩ := by decide +kernel
  gi_wp2
  refine hR.mono ?_
  rintro e W1 ⟨rfl, hR1⟩
  obtain ⟨b1, b2, b3⟩ := K1.out W1 hR1
  obtain ⟨fn2, tmps2, assign2, body2, hy2, hR2⟩ := H2.out W1 hR1
  have ds : W1.cell? ⟨S0, 0, none⟩ = some (.string ⟨#[48, 44, 50, 45, 52]⟩) := by simp [World.cell?, b1, strBlk, sAll]
  have dp : W1.cell? ⟨P0, 0, none⟩ = some (.string ⟨#[44]⟩) := by simp [World.cell?, b2, strBlk, sComma]
  have df : W1.frozen? ⟨S0, 0, none⟩ = false := by simp [World.frozen?, b1, strBlk]
  have es : (W1.setCell ⟨S0, 0, none⟩ (.string ⟨#[50, 45, 52]⟩)).cell? ⟨S0, 0, none⟩ = some (.string ⟨#[50, 45, 52]⟩) := World.cell?_setCell_same' _ _ _ (by rw [ds]; rfl)
  have ep : (W1.setCell ⟨S0, 0, none⟩ (.string ⟨#[50, 45, 52]⟩)).cell? ⟨P0, 0, none⟩ = some (.string ⟨#[44]⟩) := (World.cell?_of_block (a := ⟨P0, 0, none⟩) (Below.heap_setCell _ _ _ _ (by show P0 ≠ S0; exact fun e => hne e.symm))).trans dp
  have hx2 : (⟨#[48, 44, 50, 45, 52]⟩ : ByteArray).extract 2 5 = ⟨#[50, 45, 52]⟩ := by decide +kernel
  clear hy cs cp cz hx1 b1 b2 b3
  gi_wp2
  rw [roundsIn_succ]
  gi_wp2
  refine ⟨trivial, ?_⟩
  refine (callsIn_wide.2 (index_none _)).mono ?_
  rintro e w' ⟨rfl, rfl⟩
  gi_wp2
  refine hR2.mono ?_
  rintro e W2 ⟨⟨v, rfl⟩, hRW⟩
  gi_wp2
  go_end0
  exact ⟨⟨_, rfl⟩, hRW⟩

/-- The six blocks that Parse and SplitSeq have laid from b on: the two results, s, the text that is left, the comma, nought. -/
structure PSt (W : World) (b : Nat) (acc : Int) (s : ByteArray) : Prop where
  r0 : W.heap[b]? = some (.cells #[.int .u8 0] 28 (0, 0))
  r1 : W.heap[b + 1]? = some (.cells #[.int .i64 0] 29 (0, 0))
  sv : W.heap[b + 2]? = some (.cells #[.int .u8 acc] 28 (0, 0))
  s0 : W.heap[b + 3]? = some (strBlk s)
  sp : W.heap[b + 4]? = some (strBlk sComma)
  sz : W.heap[b + 5]? = some (.cells #[.int .i64 0] 3 (0, 0))
theorem PSt.same {W W' : World} {b : Nat} {acc : Int} {s : ByteArray} (h : PSt W b acc s) (e : ∀ i, b ≤ i → i < b + 6 → W'.heap[i]? = W.heap[i]?) : PSt W' b acc s :=
  ⟨(e _ (by omega) (by omega)).trans h.r0, (e _ (by omega) (by omega)).trans h.r1, (e _ (by omega) (by omega)).trans h.sv, (e _ (by omega) (by omega)).trans h.s0, (e _ (by omega) (by omega)).trans h.sp, (e _ (by omega) (by omega)).trans h.sz⟩
theorem PSt.put {W : World} {b l : Nat} {acc : Int} {s : ByteArray} (h : PSt W b acc s) (hl : b + 6 ≤ l) (o : Obj) : PSt (W.putObj l o) b acc s := h.same fun i _ hi => World.putObj_heap_other (by omega)
theorem PSt.setS {W : World} {b : Nat} {acc : Int} {s s' : ByteArray} (h : PSt W b acc s) : PSt (W.setCell ⟨b + 3, 0, none⟩ (.string s')) b acc s' := by
  have e : ∀ i, i ≠ b + 3 → (W.setCell ⟨b + 3, 0, none⟩ (.string s')).heap[i]? = W.heap[i]? := fun i hi => Below.heap_setCell _ _ _ _ hi
  refine ⟨(e _ (by omega)).trans h.r0, (e _ (by omega)).trans h.r1, (e _ (by omega)).trans h.sv, ?_, (e _ (by omega)).trans h.sp, (e _ (by omega)).trans h.sz⟩
  simp [World.setCell, Array.getElem?_modify, h.s0, strBlk]
theorem PSt.setA {W : World} {b : Nat} {acc acc' : Int} {s : ByteArray} (h : PSt W b acc s) : PSt (W.setCell ⟨b + 2, 0, none⟩ (.int .u8 acc')) b acc' s := by
  have e : ∀ i, i ≠ b + 2 → (W.setCell ⟨b + 2, 0, none⟩ (.int .u8 acc')).heap[i]? = W.heap[i]? := fun i hi => Below.heap_setCell _ _ _ _ hi
  refine ⟨(e _ (by omega)).trans h.r0, (e _ (by omega)).trans h.r1, ?_, (e _ (by omega)).trans h.s0, (e _ (by omega)).trans h.sp, (e _ (by omega)).trans h.sz⟩
  simp [World.setCell, Array.getElem?_modify, h.sv]
theorem PSt.cell {W : World} {b : Nat} {acc : Int} {s : ByteArray} (h : PSt W b acc s) : W.cell? ⟨b + 2, 0, none⟩ = some (.int .u8 acc) := by simp [World.cell?, h.sv]
theorem PSt.free {W : World} {b : Nat} {acc : Int} {s : ByteArray} (h : PSt W b acc s) : W.frozen? ⟨b + 2, 0, none⟩ = false := by simp [World.frozen?, h.sv]

theorem six_new (w : World) (o0 o1 o2 o3 o4 o5 : Obj) :
    ((((((w.alloc o0).alloc o1).alloc o2).alloc o3).alloc o4).alloc o5).heap[w.heap.size]? = some o0 ∧ ((((((w.alloc o0).alloc o1).alloc o2).alloc o3).alloc o4).alloc o5).heap[w.heap.size + 1]? = some o1 ∧
    ((((((w.alloc o0).alloc o1).alloc o2).alloc o3).alloc o4).alloc o5).heap[w.heap.size + 2]? = some o2 ∧ ((((((w.alloc o0).alloc o1).alloc o2).alloc o3).alloc o4).alloc o5).heap[w.heap.size + 3]? = some o3 ∧
    ((((((w.alloc o0).alloc o1).alloc o2).alloc o3).alloc o4).alloc o5).heap[w.heap.size + 4]? = some o4 ∧ ((((((w.alloc o0).alloc o1).alloc o2).alloc o3).alloc o4).alloc o5).heap[w.heap.size + 5]? = some o5 := by
  have nw : ∀ (X : World) (o : Obj) (k : Nat), X.heap.size = k → (X.alloc o).heap[k]? = some o := fun X o k e => by rw [← e]; exact World.alloc_heap_new X o
  refine ⟨?_, ?_, ?_, ?_, ?_, ?_⟩
  · rw [Below.heap_alloc _ _ _ (by simp <;> omega), Below.heap_alloc _ _ _ (by simp <;> omega), Below.heap_alloc _ _ _ (by simp <;> omega), Below.heap_alloc _ _ _ (by simp <;> omega), Below.heap_alloc _ _ _ (by simp)]; exact nw _ _ _ rfl
  · rw [Below.heap_alloc _ _ _ (by simp <;> omega), Below.heap_alloc _ _ _ (by simp <;> omega), Below.heap_alloc _ _ _ (by simp <;> omega), Below.heap_alloc _ _ _ (by simp)]; exact nw _ _ _ (by simp)
  · rw [Below.heap_alloc _ _ _ (by simp <;> omega), Below.heap_alloc _ _ _ (by simp <;> omega), Below.heap_alloc _ _ _ (by simp)]; exact nw _ _ _ (by simp)
  · rw [Below.heap_alloc _ _ _ (by simp <;> omega), Below.heap_alloc _ _ _ (by simp)]; exact nw _ _ _ (by simp)
  · rw [Below.heap_alloc _ _ _ (by simp)]; exact nw _ _ _ (by simp)
  · exact nw _ _ _ (by simp)

def InR (w X : World) (b B : Nat) (s : ByteArray) (L : List (Int × Int)) (v : Value) (wr : World) : Prop :=
  ∃ n a : Int, (n, a) ∈ L ∧ v = .int .i64 n ∧ PSt wr b a s ∧ Below b w wr ∧ KeepsFrom B X wr
theorem InR.next {w X wr : World} {b B : Nat} {s : ByteArray} {L : List (Int × Int)} {n a a' : Int} (hm : (n, a') ∈ L) (h : PSt wr b a s) (hb : Below b w wr) (hk : KeepsFrom B X wr) : InR w X b B s L (.int .i64 n) (wr.setCell ⟨b + 2, 0, none⟩ (.int .u8 a')).drew :=
  ⟨n, a', hm, rfl, h.setA.same fun _ _ _ => rfl, (hb.setCell (p := ⟨b + 2, 0, none⟩) (by show b ≤ b + 2; omega) _).drew, hk.trans (((KeepsOthers.setCell _ _ _).trans (KeepsOthers.drew _)).from _)⟩

theorem below_put {w X : World} {b l : Nat} (h : Below b w X) (hb : w.heap.size = b) (hl : b ≤ l) (o : Obj) : Below b w (X.putObj l o) :=
  h.grown (grownBy_putObj' X l o) (by have := h.size; omega) (fun k e => by cases e; exact hl)

def psAct (b : Nat) (x : Value) : Act := { tmps := #[.string ⟨#[48, 44, 50, 45, 52]⟩, undef, .pointer (some ⟨b, 0, none⟩), .pointer (some ⟨b + 1, 0, none⟩), .pointer (some ⟨b + 2, 0, none⟩), x, undef, undef, undef, undef,
  .string ⟨#[48, 44, 50, 45, 52]⟩, .bool false, .string ⟨#[48, 44, 50, 45, 52]⟩, .func (.func 52) #[] #[.pointer (some ⟨b + 4, 0, none⟩), .pointer (some ⟨b + 3, 0, none⟩), .pointer (some ⟨b + 5, 0, none⟩)], x,
  undef, undef, undef, undef, undef, undef, undef, undef, undef, undef, undef, undef, undef, undef, undef, undef, undef, undef, undef], defers := [] }

section
attribute [local go_sem] Oper.semAt_some
set_option maxRecDepth 100000 in
set_option maxHeartbeats 2000000 in
theorem parse_any (w : World) : Calls Tryz.prog 16 #[.string ⟨#[48, 44, 50, 45, 52]⟩] w fun e w' => e = .returned (.tuple #[.int .u8 29, .int .i64 0]) ∧ Below w.heap.size w w' := by
  refine (callsIn_wide (n := 5)).1 ?_
  refine callsIn_of_wp_marks Tryz.func16 rfl trivial ?_ rfl
  simp only [Tryz.ntmps16, List.size_toArray, List.length_cons, List.length_nil, Nat.reduceAdd, Nat.reduceSub, Array.replicate_succ, Array.replicate_zero, List.push_toArray, List.append_toArray, List.nil_append, List.cons_append]
  gi_wp2
  refine ⟨trivial, ?_⟩
  refine (callsIn_wide.2 (splitSeq_any _ _ _)).mono ?_
  rintro e w1 ⟨rfl, rfl⟩
  gi_wp2
  generalize hb : w.heap.size = b at *
  generalize hW : World.alloc (World.alloc (World.alloc (World.alloc (World.alloc (World.alloc w _) _) _) _) _) _ = W
  have hsz : W.heap.size = b + 6 := by rw [← hW]; simp [hb]
  have hP : PSt W b 0 sAll := by
    rw [← hW]
    subst hb
    obtain ⟨e0, e1, e2, e3, e4, e5⟩ := six_new w _ _ _ _ _ _
    exact ⟨e0, e1, e2, e3, e4, e5⟩
  have hBl : Below b w W := by
    rw [← hW]
    subst hb
    exact (((((((Below.refl _ w).alloc (Nat.le_refl _) _).alloc (by simp) _).alloc (by simp; omega) _).alloc (by simp; omega) _).alloc (by simp; omega) _).alloc (by simp; omega) _)
  have HB := Lib.hid hb
  clear hW hb
  refine wpIn_range_two (gf := 52) rfl (enters_of Tryz.func52 (by kernel_rfl) rfl) rfl (.string ⟨#[48]⟩) (.string ⟨#[50, 45, 52]⟩) (fun X => X.setCell ⟨b + 3, 0, none⟩ (.string ⟨#[50, 45, 52]⟩)) (psAct b (.string ⟨#[48]⟩)) (psAct b (.string ⟨#[50, 45, 52]⟩))
    (fun X => PSt X b 0 sAll ∧ Below b w X) (fun X => PSt X b 1 sAll ∧ Below b w X) (fun X => PSt X b 1 sTwo ∧ Below b w X) (fun X => PSt X b 29 sTwo ∧ Below b w X)
    ?qh0 ?qs0 ?qs1 ?qt1 ?qs2 ?qstep ?qas1 ?qas2 ?qbo1 ?qbo2 ?qiter ?qdone
  case qh0 =>
    intro o
    have hb' := HB.out
    refine ⟨hP.same fun i _ hi => ?_, (hBl.alloc (by omega) _).alloc (by simp; omega) _⟩
    rw [Below.heap_alloc _ _ _ (by simp; omega), Below.heap_alloc _ _ _ (by omega)]
  case qs0 => exact fun X o h => ⟨h.1.put (by omega) o, below_put h.2 HB.out (by omega) o⟩
  case qs1 => exact fun X o h => ⟨h.1.put (by omega) o, below_put h.2 HB.out (by omega) o⟩
  case qt1 => exact fun X o h => ⟨h.1.put (by omega) o, below_put h.2 HB.out (by omega) o⟩
  case qs2 => exact fun X o h => ⟨h.1.put (by omega) o, below_put h.2 HB.out (by omega) o⟩
  case qstep => exact fun X h => ⟨⟨h.1.setS, h.2.setCell (p := ⟨b + 3, 0, none⟩) (by show b ≤ b + 3; omega) _⟩, (KeepsOthers.setCell _ _ _).from _⟩
  case qas1 =>
    intro l X K hK
    gi_wp2
    exact hK
  case qas2 =>
    intro l X K hK
    gi_wp2
    exact hK
  case qiter =>
    intro l X R1 R h0 hR1 y1 y2
    exact split_two l (b + 3) (b + 4) (b + 5) X R1 R h0.1.s0 h0.1.sp h0.1.sz y1 (fun X' h => ⟨(hR1 X' h).1.s0, (hR1 X' h).1.sp, (hR1 X' h).1.sz⟩) (by omega) y2
  case qbo1 =>
    rintro l X ⟨hp, hbx⟩
    have HPX := Lib.hid hp
    have hmx : Tryz.prog.follows .mixedOrders = true := by kernel_rfl
    have o1 : bits .or .u8 0 1 = 1 := by kernel_rfl
    unfold psAct
    clear hp
    gi_wp2
    refine ⟨trivial, ?_⟩
    refine (CallsIn.inRound l (callsIn_wide.2 (part_zero _))).mono ?_
    rintro e w' ⟨rfl, rfl⟩
    gi_wp2
    gi_loopw [9] (fun v wr => InR w X b W.heap.size sAll [(0, 0), (1, 1)] v wr) (fun v _ => (2 - intOf v).toNat)
    case atStart => exact ⟨0, 0, by simp, rfl, HPX.out, hbx, KeepsFrom.refl _ _⟩
    case round =>
      obtain ⟨n, a, hm, rfl, hp, hbw, hkf⟩ := hrel
      have hc := hp.cell
      have hf := hp.free
      have HP := Lib.hid hp
      simp only [List.mem_cons, Prod.mk.injEq, List.not_mem_nil, or_false] at hm
      clear hp
      rcases hm with ⟨rfl, rfl⟩ | ⟨rfl, rfl⟩
      · gi_wp2
        gi_region_with_o (fail)
        all_goals gi_wp2
        all_goals (try go_bits)
        all_goals go_roundw
        all_goals first | exact InR.next (by simp; exact o1) HP.out hbw hkf | simp [intOf]
      · gi_wp2
        exact ⟨hkf, HP.out, hbw⟩
  case qbo2 =>
    rintro l X ⟨hp, hbx⟩
    have HPX := Lib.hid hp
    have hmx : Tryz.prog.follows .mixedOrders = true := by kernel_rfl
    have o1 : bits .or .u8 1 4 = 5 := by kernel_rfl
    have o2 : bits .or .u8 5 8 = 13 := by kernel_rfl
    have o3 : bits .or .u8 13 16 = 29 := by kernel_rfl
    unfold psAct
    clear hp
    gi_wp2
    refine ⟨trivial, ?_⟩
    refine (CallsIn.inRound l (callsIn_wide.2 (part_two _))).mono ?_
    rintro e w' ⟨rfl, rfl⟩
    gi_wp2
    gi_loopw [9] (fun v wr => InR w X b W.heap.size sTwo [(2, 1), (3, 5), (4, 13), (5, 29)] v wr) (fun v _ => (6 - intOf v).toNat)
    case atStart => exact ⟨2, 1, by simp, rfl, HPX.out, hbx, KeepsFrom.refl _ _⟩
    case round =>
      obtain ⟨n, a, hm, rfl, hp, hbw, hkf⟩ := hrel
      have hc := hp.cell
      have hf := hp.free
      have HP := Lib.hid hp
      simp only [List.mem_cons, Prod.mk.injEq, List.not_mem_nil, or_false] at hm
      clear hp
      rcases hm with ⟨rfl, rfl⟩ | ⟨rfl, rfl⟩ | ⟨rfl, rfl⟩ | ⟨rfl, rfl⟩
      iterate 3
        · gi_wp2
          gi_region_with_o (fail)
          all_goals gi_wp2
          all_goals (try go_bits)
          all_goals go_roundw
          all_goals first | exact InR.next (by simp; first | exact o1 | exact o2 | exact o3) HP.out hbw hkf | simp [intOf]
      · gi_wp2
        exact ⟨hkf, HP.out, hbw⟩
  case qdone =>
    rintro X ⟨hp, hbx⟩ hK
    have hc := hp.cell
    have r0 : X.cell? ⟨b, 0, none⟩ = some (.int .u8 0) := by simp [World.cell?, hp.r0]
    have r1 : X.cell? ⟨b + 1, 0, none⟩ = some (.int .i64 0) := by simp [World.cell?, hp.r1]
    have f0 : X.frozen? ⟨b, 0, none⟩ = false := by simp [World.frozen?, hp.r0]
    have f1 : X.frozen? ⟨b + 1, 0, none⟩ = false := by simp [World.frozen?, hp.r1]
    have HP := Lib.hid hp
    clear hp
    gi_wp2
    generalize hY : (X.setCell ⟨b, 0, none⟩ (.int .u8 29)).setCell ⟨b + 1, 0, none⟩ (.int .i64 0) = Y
    have hK2 : Y.heap[W.heap.size]? = some (.deferred (some [])) := by
      rw [← hY]
      exact (Below.heap_setCell _ _ _ _ (by show W.heap.size ≠ b + 1; omega)).trans ((Below.heap_setCell _ _ _ _ (by show W.heap.size ≠ b; omega)).trans hK)
    have hBY : Below b w (Y.putObj W.heap.size (.deferred none)) := by
      rw [← hY]
      exact below_put ((hbx.setCell (p := ⟨b, 0, none⟩) (Nat.le_refl b) _).setCell (p := ⟨b + 1, 0, none⟩) (by show b ≤ b + 1; omega) _) HB.out (by omega) _
    have g0 : (Y.putObj W.heap.size (.deferred none)).cell? ⟨b, 0, none⟩ = some (.int .u8 29) := by
      refine (World.cell?_of_block (a := ⟨b, 0, none⟩) (World.putObj_heap_other (by show b ≠ W.heap.size; omega))).trans ?_
      rw [← hY]
      refine (World.cell?_of_block (a := ⟨b, 0, none⟩) (Below.heap_setCell _ _ _ _ (by show b ≠ b + 1; omega))).trans ?_
      exact World.cell?_setCell_same' _ _ _ (by rw [r0]; rfl)
    have g1 : (Y.putObj W.heap.size (.deferred none)).cell? ⟨b + 1, 0, none⟩ = some (.int .i64 0) := by
      refine (World.cell?_of_block (a := ⟨b + 1, 0, none⟩) (World.putObj_heap_other (by show b + 1 ≠ W.heap.size; omega))).trans ?_
      rw [← hY]
      refine World.cell?_setCell_same' _ _ _ ?_
      rw [World.cell?_of_block (a := ⟨b + 1, 0, none⟩) (Below.heap_setCell X ⟨b, 0, none⟩ _ _ (by show b + 1 ≠ b; omega)), r1]
      rfl
    refine ⟨by simp, .inl ⟨_, _, rfl, run_takeDeferred hK2, ?_⟩⟩
    refine ⟨.tuple #[.int .u8 29, .int .i64 0], by simp [results, Tryz.results16, go_sem, g0, g1], rfl, ?_⟩
    rw [HB.out]
    exact hBY
end

set_option maxHeartbeats 400000 in
theorem stands_any (w : World) : Calls Tryz.prog 7 #[] w fun e w' => e = .returned (.bool true) ∧ Below w.heap.size w w' := by
  go_enter Tryz.func7, Tryz.ntmps7
  go_wp2_with fail
  refine (parse_any _).mono ?_
  rintro e w1 ⟨rfl, hb1⟩
  go_wp2_with fail
  go_ret
  exact ⟨rfl, hb1⟩

end Go.Proofs.YtikahcbkeempdaaGreatDoor
