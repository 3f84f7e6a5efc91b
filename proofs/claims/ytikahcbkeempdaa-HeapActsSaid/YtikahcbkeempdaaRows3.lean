/- Arrays of whole numbers by value, opened. -/
import Derived.Test.YtikahcbkeempdaaRows1
namespace Go.Proofs.Ytikahcbkeempdaa
open Go.RowKit Go.ChangeShapes Go.WideShapes Go.Deep

section
variable {H : Type} {enc : TypeId × Value → H} {P : Program} {w : World} {base : Nat} {spare : Nat → Bool} {held : Bool}

theorem ints_of : ∀ {l : List Value}, (∀ c ∈ l, ∃ y : Int, c = .int .i64 y) → ∃ zs : List Int, l = zs.map (Value.int .i64)
  | [], _ => ⟨[], rfl⟩
  | c :: l, h => by
    obtain ⟨y, rfl⟩ := h c (List.mem_cons_self ..)
    obtain ⟨zs, rfl⟩ := ints_of (l := l) fun d hd => h d (List.mem_cons_of_mem _ hd)
    exact ⟨y :: zs, rfl⟩

theorem open_arr {n b0 : Nat} {r : Reach} {t e : TypeId} {v : Value} {d : DataW H} {ps : List MemPlace} (ht : P.underlying t = some (.array n e)) (he : P.underlying e = some (.int .i64)) (hce : P.cellsOf e = 1) (hct : P.cellsOf t = n)
    (hval : Value.okWide P w r b0 t v) (hd : DataW.Trod enc P w base spare held t v d ps) : ∃ zs : List Int, zs.length = n ∧ v = .agg (zs.map (Value.int .i64)).toArray := by
  obtain ⟨cs, rfl, hsz, _⟩ : ∃ cs, v = .agg cs ∧ cs.size = P.cellsOf t ∧ Row.okWide P w r b0 t cs := by
    simpa [Value.okWide, ht] using hval
  obtain ⟨fuel, hf⟩ := hd
  obtain ⟨xs, m, _, _, hlen, hxl, hfs⟩ := DataW.trod_array ht hf
  have hcs : (Value.agg cs).cells = cs := rfl
  rw [hcs] at hlen hfs
  have hall : ∀ c ∈ cs.toList, ∃ y : Int, c = .int .i64 y := by
    intro c hc
    obtain ⟨i, hi, rfl⟩ := List.mem_iff_getElem.1 hc
    have hin : i < n := by rw [← hct, ← hlen]; exact hi
    have h1 := hfs i hin
    rw [hce, Nat.mul_one] at h1
    have htk : (cs.toList.drop i).take 1 = [cs.toList[i]] := by rw [List.drop_eq_getElem_cons hi]; rfl
    have hxi : xs[i]? = some (xs[i]'(by omega)) := by simp [show i < xs.length by omega]
    rw [htk, hxi] at h1
    obtain ⟨y, hy, _⟩ := DataW.trod_int he h1
    exact ⟨y, by simpa using hy⟩
  obtain ⟨zs, hzs⟩ := ints_of hall
  refine ⟨zs, ?_, ?_⟩
  · have := congrArg List.length hzs
    simp at this
    omega
  · rw [← hzs]
theorem list2 {α : Type} (l : List α) (h : l.length = 2) : ∃ a b, l = [a, b] := by
  match l, h with
  | [a, b], _ => exact ⟨a, b, rfl⟩
theorem list3 {α : Type} (l : List α) (h : l.length = 3) : ∃ a b c, l = [a, b, c] := by
  match l, h with
  | [a, b, c], _ => exact ⟨a, b, c, rfl⟩
end
end Go.Proofs.Ytikahcbkeempdaa
