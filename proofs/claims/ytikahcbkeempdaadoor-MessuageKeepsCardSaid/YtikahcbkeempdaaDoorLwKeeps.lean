/- The law MessuageKeeps: the walk. -/
import Derived.Test.YtikahcbkeempdaaDoorKeep3
import Derived.Test.YtikahcbkeempdaaDoorStands
import Derived.Test.YtikahcbkeempdaaDoorRows0
import Derived.Deep.RegionHeld3
import Derived.Deep.CutRange
import Derived.Deep.CutBlock
namespace Go.Proofs.YtikahcbkeempdaaDoor
open Go.RowKit Go.Maps

def KeepRel (w : World) (bb sp cp c q C k n : Nat) (vi vo : Value) (wr : World) : Prop :=
  ∃ (i m out : Nat) (v : Value) (L Q : List Nat), vi = .int .i64 (i : Int) ∧ vo = .int .i64 (out : Int) ∧ i ≤ 60 ∧ out ≤ i ∧ KeepS wr sp cp c q C k n m v L Q Q out ∧ Below bb w wr
def KeepCut (w : World) (bb sp cp c q C k n i : Nat) (vo : Value) (wr : World) : Prop :=
  ∃ (m out : Nat) (v : Value) (L Q : List Nat), vo = .int .i64 (out : Int) ∧ out ≤ i + 1 ∧ KeepS wr sp cp c q C k n m v L Q Q out ∧ Below bb w wr

def KeepIn (w : World) (bb sp cp c q C k n B3 out : Nat) (v : Value) (L Q : List Nat) (vl : Value) (vj : Value) (wr : World) : Prop :=
  ∃ (j m : Nat), vj = .int .i64 (j : Int) ∧ j ≤ Q.length ∧ KeepS wr sp cp c q C k n m v L [] (Q.drop j) out ∧ wr.ownsRow B3 3 1 vl Q.length (intV Q) ∧ Below bb w wr

set_option maxRecDepth 100000 in
set_option maxHeartbeats 40000000 in
theorem messuageKeeps_walk (s : Int) (a : Option Addr) (len cap : Nat) (z : Nat → Int) (w : World) (hz : IntsAt w a len z) (hmax : len ≤ 9223372036854775807) (hT : ClassTab w) :
    Calls Tryd.prog 3 #[.int .i64 s, .slice a len cap] w fun e w' => e = .returned (.bool true) ∧ Below w.heap.size w w' := by
  have HZ := Lib.hid hz
  have hT0 := hT.lt
  obtain ⟨o, ho, ho1⟩ := u64mod' s 64 (by decide)
  have wo : IntKind.i64.wrap (1 + (o : Int)) = 1 + (o : Int) := IntWalk.i64_in _ (by omega)
  have wo2 : IntKind.i64.wrap (o : Int) = (o : Int) := IntWalk.i64_in _ (by omega)
  clear hz
  go_enter Tryd.func3, Tryd.ntmps3
  go_wp2_with fail
  refine (clsOf_any hT (1 + (o : Int)) (by omega) (by omega)).mono ?_
  rintro e w1 ⟨k, hk, rfl, hb1⟩
  go_wp2_with fail
  refine (spanNew_ok (hT.below hb1 hT0) k hk).mono ?_
  rintro e w2 ⟨sp, rfl, hsp, hspl, hb2⟩
  go_wp2_with fail
  refine (cnew_any w2).mono ?_
  rintro e w3 ⟨rfl, hc3, hb3, hs3⟩
  have hw2s : ∃ cp, w2.heap.size = cp := ⟨_, rfl⟩
  obtain ⟨cp, hcp⟩ := hw2s
  rw [hcp] at hc3 hb3 hs3
  have HS3 := Lib.hid hs3
  clear hs3
  have hr := newRI_ok 4 w3 (by decide) (by decide)
  rw [show ((4 : Nat) : Int) = 4 from rfl] at hr
  go_wp2_with fail
  refine hr.mono ?_
  rintro e w4 ⟨rfl, hr4, hb4, hs4⟩
  obtain ⟨c, hc⟩ : ∃ c, w3.heap.size = c := ⟨_, rfl⟩
  rw [hc] at hr4 hb4 hs4
  have hs3 := HS3.out
  rw [hc] at hs3
  have HS3' := Lib.hid hs3
  have hT4 := (((hT.below hb1 hT0).below hb2 (by have := hb1.size; omega)).below hb3 (by have := hb1.size; have := hb2.size; omega)).below hb4 (by have := hb1.size; have := hb2.size; omega)
  have hspl2 := hsp.lt
  have hsp4 : SpanAt w4 sp k (clsCnt k) 0 := (hsp.same (hb3.block sp (by omega))).same (hb4.block sp (by omega))
  have hc4 := (hb4.block cp (by omega)).trans hc3
  have hB4 : Below w.heap.size w w4 := ((hb1.trans (hb2.mono hb1.size)).trans (hb3.mono (by have := hb1.size; have := hb2.size; omega))).trans (hb4.mono (by have := hb1.size; have := hb2.size; omega))
  have hcnt := count_any hT4 k hk
  have hspw : w.heap.size ≤ sp := Nat.le_trans hb1.size hspl
  clear hT hb1 hb2 hb3 hb4 hsp hc3 hr hs3
  go_wp2_with fail
  refine hcnt.mono ?_
  rintro e w5 ⟨rfl, hb5⟩
  go_wp2_with fail
  refine (stands_any _).mono ?_
  rintro e w6 ⟨rfl, hb6⟩
  have hs3 := HS3'.out
  have hb46 := hb5.trans (hb6.mono hb5.size)
  have hsz6 := hb46.size
  have hS6 : KeepS w6 sp cp c (c + 1) w6.heap.size k (clsCnt k) 0 (.slice none 0 0) [] [] [] 0 := by
    refine ⟨hsp4.same (hb46.block sp (by omega)), ⟨⟨_, (hb46.block cp (by omega)).trans hc4, rfl, ?_⟩, hk, ⟨by omega, Nat.le_refl _⟩, World.ownsRow_nil _ _ _ _⟩, hr4.same (hb46.block _ hr4.lt.1) (hb46.block _ hr4.lt.2), ⟨?_, List.nodup_nil, fun x hx => by simp at hx, by decide⟩, by decide, by omega, by omega, rfl, by omega⟩
    · have : k = 0 ∨ k = 1 ∨ k = 2 ∨ k = 3 := by omega
      rcases this with rfl | rfl | rfl | rfl <;> rfl
    · have : k = 0 ∨ k = 1 ∨ k = 2 ∨ k = 3 := by omega
      rcases this with rfl | rfl | rfl | rfl <;> decide
  have hB6 := hB4.trans (hb46.mono hB4.size)
  have H6 := Lib.hid hS6
  obtain ⟨C, hC⟩ : ∃ C, w6.heap.size = C := ⟨_, rfl⟩
  obtain ⟨n, hn⟩ : ∃ n, clsCnt k = n := ⟨_, rfl⟩
  obtain ⟨q, hq⟩ : ∃ q, c + 1 = q := ⟨_, rfl⟩
  rw [hC, hn, hq] at H6
  (try rw [hn])
  (try rw [hc])
  (try rw [hq])
  clear hS6 hb46 hb5 hb6 hsz6 hC hn hq hB4 hT4 hsp4 hc4 hcnt hspl2 hr4 hcp hspl hs3 HS3 HS3' hs4 hc ho ho1 wo wo2 hT0
  generalize hbb : w.heap.size = bb at *
  have HBB := Lib.hid hbb
  clear hbb
  go_wp2_with fail
  go_loopw [15, 14] (fun vi vo wr => KeepRel w bb sp cp c q C k n vi vo wr) (fun vi _ _ => len - (intOf vi).toNat)
  case atStart => exact ⟨0, 0, 0, _, [], [], rfl, rfl, by omega, by omega, H6.out, hB6⟩
  case round =>
    clear H6 hB6
    obtain ⟨i, m, out, v, L, Q, rfl, rfl, hi60, hout, hS, hb⟩ := hrel
    by_cases e : i < len ∧ i < 60
    · obtain ⟨e1, e2⟩ := e
      have c1 : (i : Int) < (len : Int) := by omega
      have c2 : (i : Int) < 60 := by omega
      obtain ⟨b, off, rfl, hbl, hcell⟩ := HZ.out (by omega)
      have hc := (hb.cell (p := ⟨b, off + i, none⟩) (by rw [HBB.out] at hbl; exact hbl)).trans (hcell i e1).1
      obtain ⟨o, ho, ho1⟩ := u64mod' (z i) 5 (by decide)
      have HS := Lib.hid hS
      clear hcell hS
      go_upto_block 2 with (fail)
      go_cut [14, 16, 17, 18, 19, 20, 21, 22, 23, 24, 25, 26] from 69 to 196 (fun s _ _ _ _ _ _ _ _ _ _ _ wx => KeepCut w bb sp cp c q C k n i s wx)
      case first =>
        have hS := HS.out
        have hm := hS.num.m_lt
        have hn8 := hS.num.n_le
        have hones := hS.num.ones
        have hcnt := hS.num.count
        have hspb : bb ≤ sp := hspw
        have hbs : bb ≤ wr.heap.size := by have := hb.size; rw [HBB.out] at this; exact this
        have ho5 : o = 0 ∨ o = 1 ∨ o = 2 ∨ o = 3 ∨ o = 4 := by omega
        rcases ho5 with rfl | rfl | rfl | rfl | rfl
        · rcases hS.num.full with hfull | ⟨t1, t2, t3, hnum⟩
          · have hcall := spanTake_full hS.span hm hfull
            clear hS
            go_wp2_with fail
            refine hcall.mono ?_
            rintro e w1 ⟨rfl, rfl⟩
            go_wp2_with fail
            go_meet
            exact ⟨m, out, v, L, Q, rfl, by omega, HS.out, hb⟩
          · obtain ⟨t, ht⟩ : ∃ t, lowBit m = t := ⟨_, rfl⟩
            rw [ht] at t1 t3 hnum
            have hcall := spanTake_x hS.span hm ht t1 t2
            have hones' := hnum.ones
            have hcnt' := hnum.count
            have hL8 : L.length < 8 := by simp only [List.length_append, List.length_cons, List.length_nil] at hcnt'; omega
            clear hS
            go_wp2_with fail
            refine hcall.mono ?_
            rintro e w1 ⟨rfl, hs1, hk1⟩
            have hC1 : CacheAt w1 cp k C v L := HS.out.cache.keptF (KeptF.of_kept hk1) (by have := HS.out.ord; omega) (fun g hg => by have := (HS.out.cache.row.lt g hg).1; have := HS.out.ord; omega)
            have hpush := push_ok hC1 hL8 t
            go_wp2_with fail
            refine hpush.mono ?_
            rintro e w2 ⟨v2, rfl, hC2, hk2⟩
            go_wp2_with fail
            go_meet
            have hb1 := hb.trans (hk1.below hspb hbs)
            have hbs1 : bb ≤ w1.heap.size := Nat.le_trans hbs hk1.size
            have hS2 : KeepS w2 sp cp c q C k n (m + 2 ^ t) v2 (L ++ [t]) Q Q out := by
              have ho := HS.out.ord
              refine ⟨hs1.same (hk2.block _ hs1.lt ?_), hC2, ?_, hnum, HS.out.r4, ho⟩
              · unfold cacheS; omega
              · have hr1 := HS.out.ring.kept hk1 (by omega) (by omega)
                refine hr1.same (hk2.block _ hr1.lt.1 ?_) (hk2.block _ hr1.lt.2 ?_) <;> (unfold cacheS; omega)
            exact ⟨_, out, v2, _, Q, rfl, by omega, hS2, hb1.trans (hk2.below hbs1 (fun i hi => by have := HS.out.ord; unfold cacheS at hi; omega))⟩
        · have hLc : L = [] ∨ ∃ L' x, L = L' ++ [x] := by
            rcases List.eq_nil_or_concat L with h | ⟨L', x, h⟩
            · exact .inl h
            · exact .inr ⟨L', x, by rw [h, List.concat_eq_append]⟩
          rcases hLc with rfl | ⟨L', x, rfl⟩
          · have hcall := pop_none hS.cache
            clear hS
            go_wp2_with fail
            refine hcall.mono ?_
            rintro e w1 ⟨rfl, rfl⟩
            go_wp2_with fail
            go_meet
            exact ⟨m, out, v, [], Q, rfl, by omega, HS.out, hb⟩
          · have hlen : (L' ++ [x]).length = L'.length + 1 := by simp
            have hcall := pop_ok hS.cache (by omega)
            have wout : IntKind.i64.wrap ((out : Int) + 1) = (out : Int) + 1 := IntWalk.i64_in _ (by omega)
            clear hS
            go_wp2_with fail
            refine hcall.mono ?_
            rintro e w1 ⟨v1, rfl, hC1, hk1⟩
            go_wp2_with fail
            go_meet
            exact ⟨m, out + 1, v1, L', Q, by go_num, by omega, HS.out.onCache hk1 hC1 HS.out.num.pop, hb.trans (HS.out.cacheBelow hspb hk1)⟩
        · cases L with
          | nil =>
            have hcall := flush_none hS.cache
            clear hS
            go_wp2_with fail
            refine hcall.mono ?_
            rintro e w1 ⟨v1, oa, cap1, rfl, hC1, hk1⟩
            go_wp2_with fail
            go_meet
            exact ⟨m, out, v1, [], Q, rfl, by omega, HS.out.onCache hk1 hC1 HS.out.num, hb.trans (HS.out.cacheBelow hspb hk1)⟩
          | cons x L' =>
            have hlen : (x :: L').length = L'.length + 1 := rfl
            have hcall := flush_one hS.cache (by omega)
            clear hS
            go_wp2_with fail
            refine hcall.mono ?_
            rintro e w1 ⟨v1, g, cap1, rfl, hC1, hk1, hg, hgl, hx⟩
            have hS1 := HS.out.onCache hk1 hC1 HS.out.num.flush
            have hb1 := hb.trans (HS.out.cacheBelow hspb hk1)
            have HORD := Lib.hid hS1.ord
            have HS1 := Lib.hid hS1
            have hbs1 : bb ≤ w1.heap.size := Nat.le_trans hbs hk1.size
            clear hC1 hk1 hb
            by_cases hq4 : Q.length < 4
            · have hput := putI_ok hS1.ring (by simpa [natV_len] using hq4) (x : Int)
              clear hS1
              go_wp2_with fail
              refine hput.mono ?_
              rintro e w2 ⟨rfl, hr2, hk2⟩
              rw [show intV Q ++ [.int .i64 (x : Int)] = intV (Q ++ [x]) by rw [natV_app]; rfl] at hr2
              go_wp2_with fail
              go_meet
              have hord := HORD.out
              exact ⟨m, out, v1, L', Q ++ [x], rfl, by omega, HS1.out.onRing hk2 hr2 (by simp; omega) HS1.out.num.back, hb1.trans (hk2.below (by omega) hbs1)⟩
            · have hput := putI_full hS1.ring (by simp only [natV_len]; omega) (x : Int)
              obtain ⟨g1, g2, g3, g4, g5⟩ := hS1.num.give
              have HG := Lib.hid (spanGive_x hS1.span hm g1 g2 g3)
              have G5 := Lib.hid g5
              clear hS1 g1 g2 g3 g4 g5
              go_wp2_with fail
              refine hput.mono ?_
              rintro e w2 ⟨rfl, rfl⟩
              go_wp2_with fail
              refine HG.out.mono ?_
              rintro e w2 ⟨rfl, hs2, hk2⟩
              go_wp2_with fail
              go_meet
              exact ⟨_, out, v1, L', Q, rfl, by omega, HS1.out.onSpan hk2 hs2 G5.out, hb1.trans (hk2.below hspb hbs1)⟩
        · have hall := allI_any (l := Q.map natI) (by rw [← natV_ints]; exact hS.ring) (by have := hS.r4; simp; omega)
          rw [← natV_ints, show (Q.map natI).length = Q.length by simp] at hall
          have hq4 := hS.r4
          clear hS
          go_wp2_with fail
          refine hall.mono ?_
          rintro e w1 ⟨vl, rfl, hrow1, hr1, hk1⟩
          obtain ⟨B3, hB3⟩ : ∃ B3, wr.heap.size = B3 := ⟨_, rfl⟩
          have hspB : sp < B3 := by rw [← hB3]; exact HS.out.span.lt
          rw [hB3] at hrow1
          have hS1 : KeepS w1 sp cp c q C k n m v L [] (Q.drop 0) out := by
            rw [List.drop_zero]
            exact HS.out.onRing (R' := []) hk1 hr1 (by decide) HS.out.num
          have hb1 := hb.trans (hk1.below (by have := HS.out.ord; omega) hbs)
          obtain ⟨ol, capl, rfl, _⟩ := own_shape hrow1
          have HS1 := Lib.hid hS1
          clear hS1 hr1 hk1 hb hB3 hcnt hones hm ho
          go_wp2_with fail
          go_loopw [24] (fun vj wx => KeepIn w bb sp cp c q C k n B3 out v L Q (.slice ol Q.length capl) vj wx) (fun vj _ => Q.length - (intOf vj).toNat)
          case atStart => exact ⟨0, m, rfl, by omega, HS1.out, hrow1, hb1⟩
          case round =>
            clear HS1 hrow1 hb1
            obtain ⟨j, m', rfl, hj, hSj, hrow, hbj⟩ := hrel
            by_cases ej : j < Q.length
            · have cj : (j : Int) < (Q.length : Int) := by omega
              have cj0 : (0 : Int) ≤ (j : Int) := by omega
              obtain ⟨g, capg, hv, hg1, hg2, hcells⟩ := own_head hrow (by omega)
              obtain ⟨rfl, rfl⟩ : ol = some ⟨g, 0, none⟩ ∧ capl = capg := by cases hv; exact ⟨rfl, rfl⟩
              have hx := hcells j ej
              rw [natV_get Q ej] at hx
              have hdrop : Q.drop j = Q[j] :: Q.drop (j + 1) := List.drop_eq_getElem_cons ej
              have hnum := hSj.num
              rw [hdrop] at hnum
              obtain ⟨x, hxe⟩ : ∃ x, Q[j] = x := ⟨_, rfl⟩
              rw [hxe] at hnum hx
              have hm' := hSj.num.m_lt
              obtain ⟨g1, g2, g3, g4, g5⟩ := hnum.give
              have HG := Lib.hid (spanGive_x hSj.span hm' g1 g2 g3)
              have G1 := Lib.hid g1
              have G2 := Lib.hid g2
              have G4 := Lib.hid g4
              have G5 := Lib.hid g5
              have HSj := Lib.hid hSj
              clear hv hcells hdrop hnum hxe hm' g1 g2 g3 g4 g5 hSj
              go_wp2_with fail
              refine HG.out.mono ?_
              rintro e w2 ⟨rfl, hs2, hk2⟩
              have hbg := hk2.block g hg2 (by omega)
              have hx2 := (World.cell?_of_block (a := ⟨g, j, none⟩) hbg).trans hx
              have hrow2 := ownsRow_same hrow (w' := w2) fun y hy => by cases hy; exact hbg
              have hS2 := HSj.out.onSpan hk2 hs2 G5.out
              have hhas := spanHas_any hs2 G5.out.m_lt G1.out G2.out
              rw [G4.out] at hhas
              have HH := Lib.hid hhas
              have HS2 := Lib.hid hS2
              have hb2 := hbj.trans (hk2.below (B := bb) hspb (by have := hbj.size; rw [HBB.out] at this; exact this))
              clear hbg hhas hS2 hs2 hk2 hx
              go_wp2_with fail
              refine HH.out.mono ?_
              rintro e w3 ⟨rfl, rfl⟩
              go_wp2_with fail
              go_roundw
              case rel => exact ⟨j + 1, _, by go_num, by omega, HS2.out, hrow2, hb2⟩
              case measure => simp [intOf]; omega
            · have cj : ¬ (j : Int) < (Q.length : Int) := by omega
              have hQ0 : Q.drop j = [] := List.drop_of_length_le (by omega)
              rw [hQ0] at hSj
              have HSj := Lib.hid hSj
              clear hSj hQ0
              go_wp2_with fail
              go_meet
              exact ⟨m', out, v, L, [], rfl, by omega, HSj.out, hbj⟩
        · cases Q with
          | nil =>
            have hcall := takeI_none hS.ring
            clear hS
            go_wp2_with fail
            refine hcall.mono ?_
            rintro e w1 ⟨rfl, rfl⟩
            go_wp2_with fail
            go_meet
            exact ⟨m, out, v, L, [], rfl, by omega, HS.out, hb⟩
          | cons x Q' =>
            have hcall := takeI_ok (x := (x : Int)) (l := intV Q') hS.ring
            have hr4 := hS.r4
            obtain ⟨g1, g2, g3, g4, g5⟩ := hS.num.give
            have G1 := Lib.hid g1
            have G2 := Lib.hid g2
            have G3 := Lib.hid g3
            have G5 := Lib.hid g5
            clear hS g1 g2 g3 g4 g5
            go_wp2_with fail
            refine hcall.mono ?_
            rintro e w1 ⟨rfl, hr1, hk1⟩
            have hord := HS.out.ord
            have hS1 := HS.out.onRing hk1 hr1 (by simp at hr4; omega) HS.out.num
            have hb1 := hb.trans (hk1.below (by omega) hbs)
            have hbs1 : bb ≤ w1.heap.size := Nat.le_trans hbs hk1.size
            have HG := Lib.hid (spanGive_x hS1.span hm G1.out G2.out G3.out)
            have HS1 := Lib.hid hS1
            clear hS1 hr1 hk1 hb hord
            go_wp2_with fail
            refine HG.out.mono ?_
            rintro e w2 ⟨rfl, hs2, hk2⟩
            go_wp2_with fail
            go_meet
            exact ⟨_, out, v, L, Q', rfl, by omega, HS1.out.onSpan hk2 hs2 G5.out, hb1.trans (hk2.below hspb hbs1)⟩
      case rest =>
        clear HS hb
        obtain ⟨m', out', v', L', Q', rfl, hout', hS, hb⟩ := hcut
        have HS := Lib.hid hS
        have hu := spanUsed_any hS.span hS.num.m_lt
        rw [hS.num.count] at hu
        have HU := Lib.hid hu
        have hl := clen_any hS.cache
        have hr := lenI_any hS.ring
        rw [natV_len] at hr
        have hle := hS.num.ones
        rw [hS.num.count] at hle
        have hn8 := hS.num.n_le
        have a1 : IntKind.i64.wrap ((L'.length : Int) + (Q'.length : Int)) = (L'.length : Int) + (Q'.length : Int) := IntWalk.i64_in _ (by omega)
        have a2 : IntKind.i64.wrap ((L'.length : Int) + (Q'.length : Int) + (out' : Int)) = ((L'.length + Q'.length + out' : Nat) : Int) := by
          rw [IntWalk.i64_in _ (by omega)]; simp
        have a3 : ¬ (n : Int) < ((L'.length + Q'.length + out' : Nat) : Int) := by omega
        have HL := Lib.hid hl
        have HR := Lib.hid hr
        clear hS hu hl hr
        go_wp2_with fail
        refine HU.out.mono ?_
        rintro e w1 ⟨rfl, rfl⟩
        go_wp2_with fail
        refine HL.out.mono ?_
        rintro e w1 ⟨rfl, rfl⟩
        go_wp2_with fail
        refine HR.out.mono ?_
        rintro e w1 ⟨rfl, rfl⟩
        go_wp2_with fail
        refine HU.out.mono ?_
        rintro e w1 ⟨rfl, rfl⟩
        go_wp2_with fail
        go_roundw
        case rel => exact ⟨i + 1, m', out', v', L', Q', by go_num, rfl, by omega, by omega, HS.out, hb⟩
        case measure => simp [intOf]; omega
    · have hcase : (¬ (i : Int) < (len : Int)) ∨ ((i : Int) < (len : Int) ∧ ¬ (i : Int) < 60) := by omega
      clear e hS
      rcases hcase with c1 | ⟨c1, c2⟩
      all_goals
        go_wp2_with fail
        go_ret
        exact ⟨rfl, by rw [HBB.out]; exact hb⟩

end Go.Proofs.YtikahcbkeempdaaDoor
