/- A select of one case with a default, nobody else being there, as a region of a walk; the laws for the walk of a ring. -/
import Derived.Test.YtikahcbkeempdaaDoorMaps
import Derived.Conc.LoneSelect
import Derived.Conc.LoneSelectN
namespace Go.Proofs.YtikahcbkeempdaaDoor
open Go.RowKit Go.Conc

section
variable {P : Program} {b : Frame} {a : Act} {k : List Item} {cs : List Frame} {ops : Array Oper}

theorem stepG_comm' {i : Nat} {rest : List Nat} {o : Oper} {w w' : World} {cases : Array CommCase} {blocking : Bool} {shape : CommShape} (ho : ops[i]? = some o) (hw : Region.wanted o (yielded ops a.tmps) = true)
    (hr : (execOp a.eval o).run P w = .ok (.comm cases blocking shape) w') :
    ∃ es, stepG P true (G (b.at a (.inRegion ops (i :: rest) :: k)) cs) w = .comm (G (b.at a (.inRegion ops (i :: rest) :: k)) cs) cases blocking shape w' es := by
  by_cases hk : b.kind = .early
  · refine ⟨#[], ?_⟩
    have hk' : (b.kind == CallKind.early) = true := by simpa using hk
    rw [stepG_oper ho hw]
    simp [stepG.apply, hr, G, Frame.at, hk', GStep.after]
    simp [seen]
  · exact ⟨_, stepG_comm ho hw hk hr⟩
end

/-- A region that begins with a select which the machine of one carries out in one step. -/
theorem wp_region_comm {P : Program} {Q : Exit → Act → World → Prop} {a : Act} {w w' : World} {id : Nat} {o : Oper} {l : List Oper} {v : Value} {cases : Array CommCase} (hg : o.guard = none)
    (hr : (execOp a.eval o).run P w = .ok (.comm cases false .select) w)
    (hstep : ∀ fr cs es, stepG P true (G fr cs) w = .comm (G fr cs) cases false .select w es → step P (solo (G fr cs) w) = .next (solo (G (fr.finish v) cs) w'))
    (h : wpList P (o :: l).toArray Q l (a.put o.dst v) w') : (Code.region id (o :: l).toArray false).wp P Q a w := by
  intro b k cs
  have ho : (o :: l).toArray[0]? = some o := by simp
  obtain ⟨es, hst⟩ := stepG_comm' (b := b) (k := k) (cs := cs) (rest := List.range' 1 l.length) ho (by simp [Region.wanted, hg]) hr
  have h1 := hstep _ cs es hst
  rw [Frame.finish_at, ho] at h1
  rw [← wpOps_eq_wpList (ops := (o :: l).toArray) l 1 (fun j => by simp [Nat.add_comm 1 j])] at h
  obtain ⟨e, a', w'', q, harr⟩ := wp_ops _ _ _ h b k cs
  refine ⟨e, a', w'', q, .of_steps (Steps.head step_region ?_) harr⟩
  have hl : List.range (o :: l).toArray.size = 0 :: List.range' 1 l.length := by
    rw [List.range_eq_range', List.size_toArray, List.length_cons, List.range'_succ]
  rw [hl]
  exact Steps.one h1

/-- THE SELECT OF Put: a send case with a default. -/
theorem wp_select_send {P : Program} {Q : Exit → Act → World → Prop} {a : Act} {w : World} {id : Nat} {o : Oper} {l : List Oper} {c cap s r : Nat} {buf : List Value} {tm : Bool} {x z : Value} (hg : o.guard = none)
    (hr : (execOp a.eval o).run P w = .ok (.comm #[scase c x z] false .select) w) (hc : w.heap[c]? = some (.chan cap buf.toArray false s r tm))
    (hroom : buf.length < cap) (h : wpList P (o :: l).toArray Q l (a.put o.dst (.tuple #[goInt 0, .bool false])) (w.setChan c cap (buf ++ [x]).toArray false (s + 1) r tm)) :
    (Code.region id (o :: l).toArray false).wp P Q a w :=
  wp_region_comm hg hr (fun fr cs es hst => by
    have := step_lone_select_send_room hst hc (by simpa using hroom)
    simpa using this) h

theorem wp_select_full {P : Program} {Q : Exit → Act → World → Prop} {a : Act} {w : World} {id : Nat} {o : Oper} {l : List Oper} {c cap s r : Nat} {buf : List Value} {tm : Bool} {x z : Value} (hg : o.guard = none)
    (hr : (execOp a.eval o).run P w = .ok (.comm #[scase c x z] false .select) w) (hc : w.heap[c]? = some (.chan cap buf.toArray false s r tm))
    (hfull : cap ≤ buf.length) (h : wpList P (o :: l).toArray Q l (a.put o.dst (.tuple #[goInt (-1), .bool false])) w) :
    (Code.region id (o :: l).toArray false).wp P Q a w :=
  wp_region_comm hg hr (fun _ _ _ hst => step_lone_select_send_full hst hc (by simpa using hfull)) h

/-- THE SELECT OF Take: a receive case with a default. -/
theorem wp_select_recv {P : Program} {Q : Exit → Act → World → Prop} {a : Act} {w : World} {id : Nat} {o : Oper} {l : List Oper} {c cap s r : Nat} {buf : List Value} {tm : Bool} {x z : Value} (hg : o.guard = none)
    (hr : (execOp a.eval o).run P w = .ok (.comm #[rcase c z] false .select) w) (hc : w.heap[c]? = some (.chan cap (x :: buf).toArray false s r tm))
    (h : wpList P (o :: l).toArray Q l (a.put o.dst (.tuple #[goInt 0, .bool true, x])) (w.setChan c cap buf.toArray false s (r + 1) tm)) :
    (Code.region id (o :: l).toArray false).wp P Q a w :=
  wp_region_comm hg hr (fun fr cs es hst => by
    have := step_lone_select_recv_buf hst hc (by simp)
    simpa [Array.getD] using this) h

theorem wp_select_empty {P : Program} {Q : Exit → Act → World → Prop} {a : Act} {w : World} {id : Nat} {o : Oper} {l : List Oper} {c cap s r : Nat} {tm : Bool} {z : Value} (hg : o.guard = none)
    (hr : (execOp a.eval o).run P w = .ok (.comm #[rcase c z] false .select) w) (hc : w.heap[c]? = some (.chan cap #[] false s r tm))
    (h : wpList P (o :: l).toArray Q l (a.put o.dst (.tuple #[goInt (-1), .bool false, z])) w) :
    (Code.region id (o :: l).toArray false).wp P Q a w :=
  wp_region_comm hg hr (fun _ _ _ hst => step_lone_select_default hst hc) h

end Go.Proofs.YtikahcbkeempdaaDoor
