/- The law RingTexts: the walk. -/
import Derived.Test.YtikahcbkeempdaaLwRing
namespace Go.Proofs.Ytikahcbkeempdaa
open Go.RowKit Go.Conc

/-- A slice of texts that came in: if it is not empty, where its cells lie. -/
def StrsAt (w : World) (a : Option Addr) (len : Nat) (ss : List ByteArray) : Prop :=
  ss.length = len ∧ (0 < len → ∃ b off, a = some ⟨b, off, none⟩ ∧ b < w.heap.size ∧ ∀ i, i < len → w.cell? ⟨b, off + i, none⟩ = some (.string (ss.getD i ByteArray.empty)))

def seg (ss : List ByteArray) (a i : Nat) : List ByteArray := (ss.take i).drop a
theorem seg_len (ss : List ByteArray) {a i : Nat} (h : i ≤ ss.length) : (seg ss a i).length = i - a := by
  simp [seg]; omega
theorem seg_snoc (ss : List ByteArray) {a i : Nat} (h : i < ss.length) (ha : a ≤ i) : seg ss a (i + 1) = seg ss a i ++ [ss.getD i ByteArray.empty] := by
  unfold seg
  rw [List.take_succ_eq_append_getElem h, List.drop_append_of_le_length (by simp; omega)]
  simp [List.getD, h]
theorem seg_cons (ss : List ByteArray) {a i : Nat} (h : a < i) (hi : i ≤ ss.length) : seg ss a i = ss.getD a ByteArray.empty :: seg ss (a + 1) i := by
  unfold seg
  have hl : a < (ss.take i).length := by simp; omega
  rw [List.drop_eq_getElem_cons hl]
  simp [List.getD, show a < ss.length by omega]
theorem seg_get (ss : List ByteArray) {a i k : Nat} (hk : a + k < i) (hi : i ≤ ss.length) : ((seg ss a i).map Value.string).getD k undef = .string (ss.getD (a + k) ByteArray.empty) := by
  have h1 : k < (seg ss a i).length := by rw [seg_len ss hi]; omega
  have h2 : (seg ss a i)[k]? = some (ss.getD (a + k) ByteArray.empty) := by
    unfold seg
    rw [List.getElem?_drop, List.getElem?_take_of_lt hk]
    simp [List.getD, show a + k < ss.length by omega]
  simp [h2]

def RTOut (w : World) (ss : List ByteArray) (n len : Nat) (va vi : Value) (wr : World) : Prop :=
  ∃ a i : Nat, va = .int .i64 (a : Int) ∧ vi = .int .i64 (i : Int) ∧ a ≤ i ∧ i ≤ len ∧ i ≤ 60 ∧ i ≤ a + n ∧ RingAt 100 wr (w.heap.size + 1) w.heap.size n ((seg ss a i).map Value.string) ∧ Below w.heap.size w wr
def RTIn (w : World) (ss : List ByteArray) (n i a0 m : Nat) (va vk : Value) (wr : World) : Prop :=
  ∃ k : Nat, va = .int .i64 ((a0 + k : Nat) : Int) ∧ vk = .int .i64 (k : Int) ∧ k ≤ m ∧ RingAt 100 wr (w.heap.size + 1) w.heap.size n ((seg ss (a0 + k) i).map Value.string) ∧ Below w.heap.size w wr

set_option maxRecDepth 100000 in
set_option maxHeartbeats 2000000 in
theorem ringTexts_walk (a : Option Addr) (len cap : Nat) (ss : List ByteArray) (a1 : Int) (w : World) (hs : StrsAt w a len ss) (hmax : len ≤ 9223372036854775807) :
    Calls Try.prog 3 #[.slice a len cap, .int .i64 a1] w fun e w' => e = .returned (.bool true) ∧ Below w.heap.size w w' := by
  obtain ⟨q, hq, hq1⟩ := u64mod a1 8 (by decide)
  obtain ⟨n, hn⟩ : ∃ n : Nat, 1 + (q : Int) = n := ⟨1 + q, by omega⟩
  have hn1 : 1 ≤ n := by omega
  have hn2 : n ≤ 8 := by omega
  obtain ⟨hsl, hs⟩ := hs
  have HSL := Lib.hid hsl
  have HS := Lib.hid hs
  clear hsl hs
  go_enter Try.func3, Try.ntmps3
  go_wp2_with fail
  refine (newRS_ok n _ hn1 (by omega)).mono ?_
  rintro e w1 ⟨rfl, hr1, hb1, hs1⟩
  go_wp2_with fail
  refine (rings_any _).mono ?_
  rintro e w2 ⟨rfl, hb2⟩
  have hr2 := hr1.kept (Kept.of_below hb2 0 0) (by omega) (by omega)
  have hb12 := hb1.trans (hb2.mono hb1.size)
  clear hs1 hr1 hb1 hb2 hq hn
  go_wp2_with fail
  go_loopw [7, 8] (fun va vi wr => RTOut w ss n len va vi wr) (fun _ vi _ => len - (intOf vi).toNat)
  case atStart => exact ⟨0, 0, rfl, rfl, by omega, by omega, by omega, by omega, hr2, hb12⟩
  case round =>
    obtain ⟨at0, i, rfl, rfl, h1, h2, h3, h4, hr, hb⟩ := hrel
    clear hr2 hb12
    have hsl := seg_len ss (a := at0) (i := i) (by rw [HSL.out]; exact h2)
    have HL := Lib.hid hsl
    clear hsl
    by_cases e : i < len ∧ i < 60
    · obtain ⟨e1, e2⟩ := e
      have c1 : (i : Int) < (len : Int) := by omega
      have c2 : (i : Int) < 60 := by omega
      obtain ⟨b, off, rfl, hbl, hcell⟩ := HS.out (by omega)
      have hc : wr.cell? ⟨b, off + i, none⟩ = some (.string (ss.getD i ByteArray.empty)) := (hb.cell (p := ⟨b, off + i, none⟩) hbl).trans (hcell i e1)
      have HC := Lib.hid hcell
      clear hcell
      by_cases ef : i < at0 + n
      · go_wp2_with fail
        refine (putS_ok hr (by rw [List.length_map, HL.out]; omega) _).mono ?_
        rintro e w3 ⟨rfl, hr3, hk3⟩
        have hb3 := hb.trans (hk3.below (Nat.le_refl _) hb.size)
        clear hr hb hk3 hc
        go_wp2_with fail
        go_roundw
        case rel => exact ⟨at0, i + 1, rfl, by go_num, by omega, by omega, by omega, by omega, by rw [seg_snoc ss (by rw [HSL.out]; exact e1) h1]; simpa using hr3, hb3⟩
        case measure => simp [intOf]; omega
      · go_wp2_with fail
        refine (putS_full hr (by rw [List.length_map, HL.out]; omega) _).mono ?_
        rintro e w3 ⟨rfl, rfl⟩
        clear hc
        obtain ⟨m, hm⟩ : ∃ m : Nat, ((n : Int) + 1) / 2 = m := ⟨(n + 1) / 2, by omega⟩
        have hm1 : m ≤ n := by omega
        have hm2 : 1 ≤ m := by omega
        go_wp2_with fail
        go_loopw [7, 9] (fun va vk wr => RTIn w ss n i at0 m va vk wr) (fun _ vk _ => m - (intOf vk).toNat)
        case atStart => exact ⟨0, rfl, rfl, by omega, hr, hb⟩
        case round =>
          obtain ⟨k, rfl, rfl, hkm, hr, hb⟩ := hrel
          by_cases ek : k < m
          · have ck : (k : Int) < (m : Int) := by omega
            rw [seg_cons ss (show at0 + k < i by omega) (by rw [HSL.out]; omega), List.map_cons] at hr
            have hc : wr.cell? ⟨b, off + (at0 + k), none⟩ = some (.string (ss.getD (at0 + k) ByteArray.empty)) := (hb.cell (p := ⟨b, off + (at0 + k), none⟩) hbl).trans (HC.out _ (by omega))
            go_wp2_with fail
            refine (takeS_ok hr).mono ?_
            rintro e w4 ⟨rfl, hr4, hk4⟩
            have hb4 := hb.trans (hk4.below (Nat.le_refl _) hb.size)
            have hc4 := (hk4.block b (by have := hb.size; omega) (by omega))
            have hc : w4.cell? ⟨b, off + (at0 + k), none⟩ = some (.string (ss.getD (at0 + k) ByteArray.empty)) := (World.cell?_of_block (a := ⟨b, off + (at0 + k), none⟩) hc4).trans hc
            clear hr hb hk4 hc4
            go_wp2_with fail
            go_roundw
            case rel => exact ⟨k + 1, by go_num, by go_num, by omega, by rw [← Nat.add_assoc]; exact hr4, hb4⟩
            case measure => simp [intOf]; omega
          · have ck : ¬ (k : Int) < (m : Int) := by omega
            obtain rfl : k = m := by omega
            have hc : wr.cell? ⟨b, off + i, none⟩ = some (.string (ss.getD i ByteArray.empty)) := (hb.cell (p := ⟨b, off + i, none⟩) hbl).trans (HC.out i e1)
            have hsl2 := seg_len ss (a := at0 + k) (i := i) (by rw [HSL.out]; exact h2)
            have HL2 := Lib.hid hsl2
            clear hsl2
            go_wp2_with fail
            refine (putS_ok hr (by rw [List.length_map, HL2.out]; omega) _).mono ?_
            rintro e w3 ⟨rfl, hr3, hk3⟩
            have hb3 := hb.trans (hk3.below (Nat.le_refl _) hb.size)
            clear hr hb hk3 hc
            go_wp2_with fail
            go_roundw
            case rel => exact ⟨at0 + k, i + 1, rfl, by go_num, by omega, by omega, by omega, by omega, by rw [seg_snoc ss (by rw [HSL.out]; exact e1) (by omega)]; simpa using hr3, hb3⟩
            case measure => simp [intOf]; omega
    · have e3 : i = min len 60 := by omega
      have E := Lib.hid e
      clear e
      have hcase : (¬ (i : Int) < (len : Int)) ∨ ((i : Int) < (len : Int) ∧ ¬ (i : Int) < 60) := by omega
      have E3 := Lib.hid e3
      clear e3
      have hall := allS_any hr (by rw [HL.out]; omega)
      rw [HL.out] at hall
      have HA := Lib.hid hall
      clear hall
      rcases hcase with c1 | ⟨c1, c2⟩
      all_goals
        go_wp2_with fail
        refine HA.out.mono ?_
        rintro e w3 ⟨v, rfl, hrow, hr3, hk3⟩
        have hb3 := hb.trans (hk3.below (Nat.le_refl _) hb.size)
        clear hr hb hk3 HA
        obtain ⟨L, hL⟩ : ∃ L, i - at0 = L := ⟨_, rfl⟩
        rw [hL] at hrow
        obtain ⟨oa, lcap, rfl, hsh⟩ := own_shape hrow
        have HSH := Lib.hid hsh
        have HLL := Lib.hid hL
        clear hrow hsh hL
        go_wp2_with fail
        go_loopw [13] (fun v wr => ∃ k m : Nat, v = .int .i64 (k : Int) ∧ k ≤ L ∧ wr = w3.drewN m) (fun v _ => L - (intOf v).toNat)
        case atStart => exact ⟨0, 0, rfl, by omega, rfl⟩
        case round =>
          obtain ⟨k, m, rfl, hk, rfl⟩ := hrel
          by_cases ek : k < L
          · have ck : (k : Int) < (L : Int) := by omega
            have hlt : at0 + k < len := by have := HLL.out; omega
            obtain ⟨g, rfl, hg1, hg2, hgc⟩ := HSH.out (by omega)
            obtain ⟨b, off, rfl, hbl, hcell⟩ := HS.out (by omega)
            have hc1 := hgc k ek
            rw [seg_get ss (show at0 + k < i by have := HLL.out; omega) (by rw [HSL.out]; exact h2)] at hc1
            have hc2 : w3.cell? ⟨b, off + (at0 + k), none⟩ = some (.string (ss.getD (at0 + k) ByteArray.empty)) := (hb3.cell (p := ⟨b, off + (at0 + k), none⟩) hbl).trans (hcell _ hlt)
            have f1 : IntKind.i64.wrap ((at0 : Int) + k) = (at0 : Int) + k := IntWalk.i64_in _ (by omega)
            have f2 : (0 : Int) ≤ (at0 : Int) + k := by omega
            have f3 : (at0 : Int) + k < (len : Int) := by omega
            have f4 : ((at0 : Int) + k).toNat = at0 + k := by omega
            have f5 : decide ((len : Int) ≤ (at0 : Int) + k) = false := by simp; omega
            clear hgc hcell
            go_wp2_with fail
            go_quiet (fail)
            clear f1 f2 f3 f4 f5
            go_wp2_with fail
            go_roundw
            case rel => exact ⟨k + 1, _, by go_num, by omega, rfl⟩
            case measure => simp [intOf]; omega
          · have ck : ¬ (k : Int) < (L : Int) := by omega
            have hfin : (at0 : Int) + (L : Int) = min (len : Int) 60 := by have := HLL.out; have := E3.out; omega
            go_wp2_with fail
            all_goals
              refine (lenS_any (hr3.drewN m)).mono ?_
              rintro e w4 ⟨rfl, rfl⟩
              go_wp2_with fail
              go_ret
              exact ⟨rfl, hb3.trans (drewN_below _ _ _)⟩

end Go.Proofs.Ytikahcbkeempdaa
