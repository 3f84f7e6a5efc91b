/-
  No cell of these rows narrows 'for every input' (looked for: loops, veiled, ifaces, maps, wideKeys, modest, calm, conditions, laid).
  DERIVED. THE GIVEN ROWS OF THIS SEAT. 13 by the template 'for every input the law returns true; each argument reads behind the call as it read before'; 0 by the template 'total and deterministic' (their statements: YtikahcbkeempdaaTotals.lean).
  GIVEN WITH THE SEED: the statements are not yours to turn. If you find one false, say at which input.
  Laid BY PROGRAM, IN A SANDBOX (cutbox-rows.mjs): the forced cells as the released guide's own fill.sh prints them over the translation 12978ca38ea1a03b… (all of the seat's roots in one cut). By AI agents, Wed Nov 11 2026. No macro, syntax, notation, axiom, sorry.
-/
import Derived.Test.YtikahcbkeempdaaChecked
import GoSem.Claim
import GoSem.ClaimJoined
import GoSem.ClaimMapViews
import Derived.JoinedTies
import Derived.KernelRfl
namespace Go.Proofs.Ytikahcbkeempdaa
/- THE CELL 'sum', in the pinned program and in every row, IS THE sha256 OF THE DUMP (.gsa) THAT YtikahcbkeempdaaProg.lean LOADS. Nothing in Lean hashes anything: it is a label: what it is worth is what the hold of that sum in a sandbox is worth. -/
noncomputable def Try.pinned : Pinned := { name := "ytikahcbkeempdaa", sum := "12978ca38ea1a03b9d6ae88e425656678b4417fd16f6de6d47c7cadafbe8a64a", checked := Try.checked }
namespace Rows
def none {H : Type} : Left H := { results := [], args := [] }

/-- 'messuagelaw14.RingTexts': WHATEVER THE INPUT: true; the input reads as it did. -/
def ringTextsSpec : ChangeSpec := { name := "ringTexts", fn := fun _ => fun
  | [d1, d2] => { results := [.lit (.bool true)], args := [d1, d2] }
  | _ => none }
def ringTextsRow : OpenClaim := { program := "ytikahcbkeempdaa", sum := "12978ca38ea1a03b9d6ae88e425656678b4417fd16f6de6d47c7cadafbe8a64a", func := "messuage/messuagelaw14.RingTexts", spec := "ringTexts", apart := false }
def RingTextsSaid : Prop := ringTextsRow.holds Try.pinned (OpenSpec.ofChange ringTextsSpec)

/-- ITS FALSE NEIGHBOUR: 'it returns false'. Refute it at one input. -/
def ringTextsWrong : ChangeSpec := { name := "ringTexts", fn := fun _ => fun
  | [d1, d2] => { results := [.lit (.bool false)], args := [d1, d2] }
  | _ => none }
def RingTextsWrongFalsely : Prop := ringTextsRow.holds Try.pinned (OpenSpec.ofChange ringTextsWrong)

/-- 'messuagelaw14.RingFull': WHATEVER THE INPUT: true; the input reads as it did. -/
def ringFullSpec : ChangeSpec := { name := "ringFull", fn := fun _ => fun
  | [d1, d2] => { results := [.lit (.bool true)], args := [d1, d2] }
  | _ => none }
def ringFullRow : OpenClaim := { program := "ytikahcbkeempdaa", sum := "12978ca38ea1a03b9d6ae88e425656678b4417fd16f6de6d47c7cadafbe8a64a", func := "messuage/messuagelaw14.RingFull", spec := "ringFull", apart := false }
def RingFullSaid : Prop := ringFullRow.holds Try.pinned (OpenSpec.ofChange ringFullSpec)

/-- ITS FALSE NEIGHBOUR: 'it returns false'. Refute it at one input. -/
def ringFullWrong : ChangeSpec := { name := "ringFull", fn := fun _ => fun
  | [d1, d2] => { results := [.lit (.bool false)], args := [d1, d2] }
  | _ => none }
def RingFullWrongFalsely : Prop := ringFullRow.holds Try.pinned (OpenSpec.ofChange ringFullWrong)

/-- 'messuagelaw08.BuddyLow': WHATEVER THE INPUT: true; the input reads as it did. -/
def buddyLowSpec : ChangeSpec := { name := "buddyLow", fn := fun _ => fun
  | [d1, d2] => { results := [.lit (.bool true)], args := [d1, d2] }
  | _ => none }
def buddyLowRow : OpenClaim := { program := "ytikahcbkeempdaa", sum := "12978ca38ea1a03b9d6ae88e425656678b4417fd16f6de6d47c7cadafbe8a64a", func := "messuage/messuagelaw08.BuddyLow", spec := "buddyLow", recurses := true, apart := false }
def BuddyLowSaid : Prop := buddyLowRow.holds Try.pinned (OpenSpec.ofChange buddyLowSpec)

/-- ITS FALSE NEIGHBOUR: 'it returns false'. Refute it at one input. -/
def buddyLowWrong : ChangeSpec := { name := "buddyLow", fn := fun _ => fun
  | [d1, d2] => { results := [.lit (.bool false)], args := [d1, d2] }
  | _ => none }
def BuddyLowWrongFalsely : Prop := buddyLowRow.holds Try.pinned (OpenSpec.ofChange buddyLowWrong)

/-- 'messuagelaw08.BuddyWhole': WHATEVER THE INPUT: true; the input reads as it did. -/
def buddyWholeSpec : ChangeSpec := { name := "buddyWhole", fn := fun _ => fun
  | [d1, d2, d3] => { results := [.lit (.bool true)], args := [d1, d2, d3] }
  | _ => none }
def buddyWholeRow : OpenClaim := { program := "ytikahcbkeempdaa", sum := "12978ca38ea1a03b9d6ae88e425656678b4417fd16f6de6d47c7cadafbe8a64a", func := "messuage/messuagelaw08.BuddyWhole", spec := "buddyWhole", recurses := true, apart := false }
def BuddyWholeSaid : Prop := buddyWholeRow.holds Try.pinned (OpenSpec.ofChange buddyWholeSpec)

/-- ITS FALSE NEIGHBOUR: 'it returns false'. Refute it at one input. -/
def buddyWholeWrong : ChangeSpec := { name := "buddyWhole", fn := fun _ => fun
  | [d1, d2, d3] => { results := [.lit (.bool false)], args := [d1, d2, d3] }
  | _ => none }
def BuddyWholeWrongFalsely : Prop := buddyWholeRow.holds Try.pinned (OpenSpec.ofChange buddyWholeWrong)

/-- 'messuagelaw08.BuddyBack': WHATEVER THE INPUT: true; the input reads as it did. -/
def buddyBackSpec : ChangeSpec := { name := "buddyBack", fn := fun _ => fun
  | [d1, d2, d3] => { results := [.lit (.bool true)], args := [d1, d2, d3] }
  | _ => none }
def buddyBackRow : OpenClaim := { program := "ytikahcbkeempdaa", sum := "12978ca38ea1a03b9d6ae88e425656678b4417fd16f6de6d47c7cadafbe8a64a", func := "messuage/messuagelaw08.BuddyBack", spec := "buddyBack", recurses := true, apart := false }
def BuddyBackSaid : Prop := buddyBackRow.holds Try.pinned (OpenSpec.ofChange buddyBackSpec)

/-- ITS FALSE NEIGHBOUR: 'it returns false'. Refute it at one input. -/
def buddyBackWrong : ChangeSpec := { name := "buddyBack", fn := fun _ => fun
  | [d1, d2, d3] => { results := [.lit (.bool false)], args := [d1, d2, d3] }
  | _ => none }
def BuddyBackWrongFalsely : Prop := buddyBackRow.holds Try.pinned (OpenSpec.ofChange buddyBackWrong)

/-- 'messuagelaw08.BuddyActs': WHATEVER THE INPUT: true; the input reads as it did. -/
def buddyActsSpec : ChangeSpec := { name := "buddyActs", fn := fun _ => fun
  | [d1, d2] => { results := [.lit (.bool true)], args := [d1, d2] }
  | _ => none }
def buddyActsRow : OpenClaim := { program := "ytikahcbkeempdaa", sum := "12978ca38ea1a03b9d6ae88e425656678b4417fd16f6de6d47c7cadafbe8a64a", func := "messuage/messuagelaw08.BuddyActs", spec := "buddyActs", recurses := true, apart := false }
def BuddyActsSaid : Prop := buddyActsRow.holds Try.pinned (OpenSpec.ofChange buddyActsSpec)

/-- ITS FALSE NEIGHBOUR: 'it returns false'. Refute it at one input. -/
def buddyActsWrong : ChangeSpec := { name := "buddyActs", fn := fun _ => fun
  | [d1, d2] => { results := [.lit (.bool false)], args := [d1, d2] }
  | _ => none }
def BuddyActsWrongFalsely : Prop := buddyActsRow.holds Try.pinned (OpenSpec.ofChange buddyActsWrong)

/-- 'messuagelaw28.FragTells': WHATEVER THE INPUT: true; the input reads as it did. -/
def fragTellsSpec : ChangeSpec := { name := "fragTells", fn := fun _ => fun
  | [d1, d2, d3] => { results := [.lit (.bool true)], args := [d1, d2, d3] }
  | _ => none }
def fragTellsRow : OpenClaim := { program := "ytikahcbkeempdaa", sum := "12978ca38ea1a03b9d6ae88e425656678b4417fd16f6de6d47c7cadafbe8a64a", func := "messuage/messuagelaw28.FragTells", spec := "fragTells", recurses := true, apart := false }
def FragTellsSaid : Prop := fragTellsRow.holds Try.pinned (OpenSpec.ofChange fragTellsSpec)

/-- ITS FALSE NEIGHBOUR: 'it returns false'. Refute it at one input. -/
def fragTellsWrong : ChangeSpec := { name := "fragTells", fn := fun _ => fun
  | [d1, d2, d3] => { results := [.lit (.bool false)], args := [d1, d2, d3] }
  | _ => none }
def FragTellsWrongFalsely : Prop := fragTellsRow.holds Try.pinned (OpenSpec.ofChange fragTellsWrong)

/-- 'messuagelaw28.FragFits': WHATEVER THE INPUT: true; the input reads as it did. -/
def fragFitsSpec : ChangeSpec := { name := "fragFits", fn := fun _ => fun
  | [d1, d2, d3] => { results := [.lit (.bool true)], args := [d1, d2, d3] }
  | _ => none }
def fragFitsRow : OpenClaim := { program := "ytikahcbkeempdaa", sum := "12978ca38ea1a03b9d6ae88e425656678b4417fd16f6de6d47c7cadafbe8a64a", func := "messuage/messuagelaw28.FragFits", spec := "fragFits", recurses := true, apart := false }
def FragFitsSaid : Prop := fragFitsRow.holds Try.pinned (OpenSpec.ofChange fragFitsSpec)

/-- ITS FALSE NEIGHBOUR: 'it returns false'. Refute it at one input. -/
def fragFitsWrong : ChangeSpec := { name := "fragFits", fn := fun _ => fun
  | [d1, d2, d3] => { results := [.lit (.bool false)], args := [d1, d2, d3] }
  | _ => none }
def FragFitsWrongFalsely : Prop := fragFitsRow.holds Try.pinned (OpenSpec.ofChange fragFitsWrong)

/-- 'messuagelaw28.FragWhole': WHATEVER THE INPUT: true; the input reads as it did. -/
def fragWholeSpec : ChangeSpec := { name := "fragWhole", fn := fun _ => fun
  | [d1, d2] => { results := [.lit (.bool true)], args := [d1, d2] }
  | _ => none }
def fragWholeRow : OpenClaim := { program := "ytikahcbkeempdaa", sum := "12978ca38ea1a03b9d6ae88e425656678b4417fd16f6de6d47c7cadafbe8a64a", func := "messuage/messuagelaw28.FragWhole", spec := "fragWhole", recurses := true, apart := false }
def FragWholeSaid : Prop := fragWholeRow.holds Try.pinned (OpenSpec.ofChange fragWholeSpec)

/-- ITS FALSE NEIGHBOUR: 'it returns false'. Refute it at one input. -/
def fragWholeWrong : ChangeSpec := { name := "fragWhole", fn := fun _ => fun
  | [d1, d2] => { results := [.lit (.bool false)], args := [d1, d2] }
  | _ => none }
def FragWholeWrongFalsely : Prop := fragWholeRow.holds Try.pinned (OpenSpec.ofChange fragWholeWrong)

/-- 'messuagelaw28.FragSums': WHATEVER THE INPUT: true; the input reads as it did. -/
def fragSumsSpec : ChangeSpec := { name := "fragSums", fn := fun _ => fun
  | [d1, d2] => { results := [.lit (.bool true)], args := [d1, d2] }
  | _ => none }
def fragSumsRow : OpenClaim := { program := "ytikahcbkeempdaa", sum := "12978ca38ea1a03b9d6ae88e425656678b4417fd16f6de6d47c7cadafbe8a64a", func := "messuage/messuagelaw28.FragSums", spec := "fragSums", recurses := true, apart := false }
def FragSumsSaid : Prop := fragSumsRow.holds Try.pinned (OpenSpec.ofChange fragSumsSpec)

/-- ITS FALSE NEIGHBOUR: 'it returns false'. Refute it at one input. -/
def fragSumsWrong : ChangeSpec := { name := "fragSums", fn := fun _ => fun
  | [d1, d2] => { results := [.lit (.bool false)], args := [d1, d2] }
  | _ => none }
def FragSumsWrongFalsely : Prop := fragSumsRow.holds Try.pinned (OpenSpec.ofChange fragSumsWrong)

/-- 'messuagelaw09.HeapMarks': WHATEVER THE INPUT: true; the input reads as it did. -/
def heapMarksSpec : ChangeSpec := { name := "heapMarks", fn := fun _ => fun
  | [d1, d2, d3] => { results := [.lit (.bool true)], args := [d1, d2, d3] }
  | _ => none }
def heapMarksRow : OpenClaim := { program := "ytikahcbkeempdaa", sum := "12978ca38ea1a03b9d6ae88e425656678b4417fd16f6de6d47c7cadafbe8a64a", func := "messuage/messuagelaw09.HeapMarks", spec := "heapMarks", recurses := true, apart := false }
def HeapMarksSaid : Prop := heapMarksRow.holds Try.pinned (OpenSpec.ofChange heapMarksSpec)

/-- ITS FALSE NEIGHBOUR: 'it returns false'. Refute it at one input. -/
def heapMarksWrong : ChangeSpec := { name := "heapMarks", fn := fun _ => fun
  | [d1, d2, d3] => { results := [.lit (.bool false)], args := [d1, d2, d3] }
  | _ => none }
def HeapMarksWrongFalsely : Prop := heapMarksRow.holds Try.pinned (OpenSpec.ofChange heapMarksWrong)

/-- 'messuagelaw09.HeapRuns': WHATEVER THE INPUT: true; the input reads as it did. -/
def heapRunsSpec : ChangeSpec := { name := "heapRuns", fn := fun _ => fun
  | [d1, d2, d3] => { results := [.lit (.bool true)], args := [d1, d2, d3] }
  | _ => none }
def heapRunsRow : OpenClaim := { program := "ytikahcbkeempdaa", sum := "12978ca38ea1a03b9d6ae88e425656678b4417fd16f6de6d47c7cadafbe8a64a", func := "messuage/messuagelaw09.HeapRuns", spec := "heapRuns", recurses := true, apart := false }
def HeapRunsSaid : Prop := heapRunsRow.holds Try.pinned (OpenSpec.ofChange heapRunsSpec)

/-- ITS FALSE NEIGHBOUR: 'it returns false'. Refute it at one input. -/
def heapRunsWrong : ChangeSpec := { name := "heapRuns", fn := fun _ => fun
  | [d1, d2, d3] => { results := [.lit (.bool false)], args := [d1, d2, d3] }
  | _ => none }
def HeapRunsWrongFalsely : Prop := heapRunsRow.holds Try.pinned (OpenSpec.ofChange heapRunsWrong)

/-- 'messuagelaw09.HeapActs': WHATEVER THE INPUT: true; the input reads as it did. -/
def heapActsSpec : ChangeSpec := { name := "heapActs", fn := fun _ => fun
  | [d1, d2, d3] => { results := [.lit (.bool true)], args := [d1, d2, d3] }
  | _ => none }
def heapActsRow : OpenClaim := { program := "ytikahcbkeempdaa", sum := "12978ca38ea1a03b9d6ae88e425656678b4417fd16f6de6d47c7cadafbe8a64a", func := "messuage/messuagelaw09.HeapActs", spec := "heapActs", recurses := true, apart := false }
def HeapActsSaid : Prop := heapActsRow.holds Try.pinned (OpenSpec.ofChange heapActsSpec)

/-- ITS FALSE NEIGHBOUR: 'it returns false'. Refute it at one input. -/
def heapActsWrong : ChangeSpec := { name := "heapActs", fn := fun _ => fun
  | [d1, d2, d3] => { results := [.lit (.bool false)], args := [d1, d2, d3] }
  | _ => none }
def HeapActsWrongFalsely : Prop := heapActsRow.holds Try.pinned (OpenSpec.ofChange heapActsWrong)

/- THE SECOND FORM. 'bulk': how many values and letters a reading holds, each counted each time it is reached (what is shared counts as often as it is met; a slice's spare places count too). A statement '..UptoSaid' is the law's where the arguments, and the package variables that the reading takes, are together of bulk at most 1048576: NARROWER than '..Said'. Prove '..Said' where nothing that the law and all that it calls make is longer than what came in: it says more and counts as full. Else prove '..UptoSaid'. A law counts once. -/
mutual
def uptoBulk {H : Type} : DataW H → Nat
  | .lit (.string bytes) => bytes.length + 1
  | .lit _ => 1
  | .nil => 1
  | .ptr d => uptoBulk d + 1
  | .slice elems spare => uptoBulkAll elems + uptoBulkAll spare + 1
  | .agg parts => uptoBulkAll parts + 1
  | .iface _ d => uptoBulk d + 1
  | .map entries => uptoBulkEntries entries + 1
  | .held _ => 1
def uptoBulkAll {H : Type} : List (DataW H) → Nat
  | [] => 0
  | d :: r => uptoBulk d + uptoBulkAll r
def uptoBulkEntries {H : Type} : List (Lit × DataW H) → Nat
  | [] => 0
  | x :: r => uptoBulkEntry x + uptoBulkEntries r
def uptoBulkEntry {H : Type} : Lit × DataW H → Nat
  | (.string bytes, d) => bytes.length + uptoBulk d + 1
  | (_, d) => uptoBulk d + 1
 end
def uptoSmall : (H : Type) → List (DataW H) → Bool := fun _ ds => decide (uptoBulkAll ds ≤ 1048576)
def OpenSpec.upto (s : _root_.Go.ChangeSpec) : _root_.Go.OpenSpec := { _root_.Go.OpenSpec.ofChange s with cond := some uptoSmall }

/-- 'messuagelaw14.RingTexts', WHERE WHAT IT READS IS OF BULK AT MOST 1048576: true; the input reads as it did. -/
def ringTextsUptoRow : OpenClaim := { program := "ytikahcbkeempdaa", sum := "12978ca38ea1a03b9d6ae88e425656678b4417fd16f6de6d47c7cadafbe8a64a", func := "messuage/messuagelaw14.RingTexts", spec := "ringTexts", apart := false, narrowed := true }
def RingTextsUptoSaid : Prop := ringTextsUptoRow.holds Try.pinned (OpenSpec.upto ringTextsSpec)

/-- 'messuagelaw14.RingFull', WHERE WHAT IT READS IS OF BULK AT MOST 1048576: true; the input reads as it did. -/
def ringFullUptoRow : OpenClaim := { program := "ytikahcbkeempdaa", sum := "12978ca38ea1a03b9d6ae88e425656678b4417fd16f6de6d47c7cadafbe8a64a", func := "messuage/messuagelaw14.RingFull", spec := "ringFull", apart := false, narrowed := true }
def RingFullUptoSaid : Prop := ringFullUptoRow.holds Try.pinned (OpenSpec.upto ringFullSpec)

/-- 'messuagelaw08.BuddyLow', WHERE WHAT IT READS IS OF BULK AT MOST 1048576: true; the input reads as it did. -/
def buddyLowUptoRow : OpenClaim := { program := "ytikahcbkeempdaa", sum := "12978ca38ea1a03b9d6ae88e425656678b4417fd16f6de6d47c7cadafbe8a64a", func := "messuage/messuagelaw08.BuddyLow", spec := "buddyLow", recurses := true, apart := false, narrowed := true }
def BuddyLowUptoSaid : Prop := buddyLowUptoRow.holds Try.pinned (OpenSpec.upto buddyLowSpec)

/-- 'messuagelaw08.BuddyWhole', WHERE WHAT IT READS IS OF BULK AT MOST 1048576: true; the input reads as it did. -/
def buddyWholeUptoRow : OpenClaim := { program := "ytikahcbkeempdaa", sum := "12978ca38ea1a03b9d6ae88e425656678b4417fd16f6de6d47c7cadafbe8a64a", func := "messuage/messuagelaw08.BuddyWhole", spec := "buddyWhole", recurses := true, apart := false, narrowed := true }
def BuddyWholeUptoSaid : Prop := buddyWholeUptoRow.holds Try.pinned (OpenSpec.upto buddyWholeSpec)

/-- 'messuagelaw08.BuddyBack', WHERE WHAT IT READS IS OF BULK AT MOST 1048576: true; the input reads as it did. -/
def buddyBackUptoRow : OpenClaim := { program := "ytikahcbkeempdaa", sum := "12978ca38ea1a03b9d6ae88e425656678b4417fd16f6de6d47c7cadafbe8a64a", func := "messuage/messuagelaw08.BuddyBack", spec := "buddyBack", recurses := true, apart := false, narrowed := true }
def BuddyBackUptoSaid : Prop := buddyBackUptoRow.holds Try.pinned (OpenSpec.upto buddyBackSpec)

/-- 'messuagelaw08.BuddyActs', WHERE WHAT IT READS IS OF BULK AT MOST 1048576: true; the input reads as it did. -/
def buddyActsUptoRow : OpenClaim := { program := "ytikahcbkeempdaa", sum := "12978ca38ea1a03b9d6ae88e425656678b4417fd16f6de6d47c7cadafbe8a64a", func := "messuage/messuagelaw08.BuddyActs", spec := "buddyActs", recurses := true, apart := false, narrowed := true }
def BuddyActsUptoSaid : Prop := buddyActsUptoRow.holds Try.pinned (OpenSpec.upto buddyActsSpec)

/-- 'messuagelaw28.FragTells', WHERE WHAT IT READS IS OF BULK AT MOST 1048576: true; the input reads as it did. -/
def fragTellsUptoRow : OpenClaim := { program := "ytikahcbkeempdaa", sum := "12978ca38ea1a03b9d6ae88e425656678b4417fd16f6de6d47c7cadafbe8a64a", func := "messuage/messuagelaw28.FragTells", spec := "fragTells", recurses := true, apart := false, narrowed := true }
def FragTellsUptoSaid : Prop := fragTellsUptoRow.holds Try.pinned (OpenSpec.upto fragTellsSpec)

/-- 'messuagelaw28.FragFits', WHERE WHAT IT READS IS OF BULK AT MOST 1048576: true; the input reads as it did. -/
def fragFitsUptoRow : OpenClaim := { program := "ytikahcbkeempdaa", sum := "12978ca38ea1a03b9d6ae88e425656678b4417fd16f6de6d47c7cadafbe8a64a", func := "messuage/messuagelaw28.FragFits", spec := "fragFits", recurses := true, apart := false, narrowed := true }
def FragFitsUptoSaid : Prop := fragFitsUptoRow.holds Try.pinned (OpenSpec.upto fragFitsSpec)

/-- 'messuagelaw28.FragWhole', WHERE WHAT IT READS IS OF BULK AT MOST 1048576: true; the input reads as it did. -/
def fragWholeUptoRow : OpenClaim := { program := "ytikahcbkeempdaa", sum := "12978ca38ea1a03b9d6ae88e425656678b4417fd16f6de6d47c7cadafbe8a64a", func := "messuage/messuagelaw28.FragWhole", spec := "fragWhole", recurses := true, apart := false, narrowed := true }
def FragWholeUptoSaid : Prop := fragWholeUptoRow.holds Try.pinned (OpenSpec.upto fragWholeSpec)

/-- 'messuagelaw28.FragSums', WHERE WHAT IT READS IS OF BULK AT MOST 1048576: true; the input reads as it did. -/
def fragSumsUptoRow : OpenClaim := { program := "ytikahcbkeempdaa", sum := "12978ca38ea1a03b9d6ae88e425656678b4417fd16f6de6d47c7cadafbe8a64a", func := "messuage/messuagelaw28.FragSums", spec := "fragSums", recurses := true, apart := false, narrowed := true }
def FragSumsUptoSaid : Prop := fragSumsUptoRow.holds Try.pinned (OpenSpec.upto fragSumsSpec)

/-- 'messuagelaw09.HeapMarks', WHERE WHAT IT READS IS OF BULK AT MOST 1048576: true; the input reads as it did. -/
def heapMarksUptoRow : OpenClaim := { program := "ytikahcbkeempdaa", sum := "12978ca38ea1a03b9d6ae88e425656678b4417fd16f6de6d47c7cadafbe8a64a", func := "messuage/messuagelaw09.HeapMarks", spec := "heapMarks", recurses := true, apart := false, narrowed := true }
def HeapMarksUptoSaid : Prop := heapMarksUptoRow.holds Try.pinned (OpenSpec.upto heapMarksSpec)

/-- 'messuagelaw09.HeapRuns', WHERE WHAT IT READS IS OF BULK AT MOST 1048576: true; the input reads as it did. -/
def heapRunsUptoRow : OpenClaim := { program := "ytikahcbkeempdaa", sum := "12978ca38ea1a03b9d6ae88e425656678b4417fd16f6de6d47c7cadafbe8a64a", func := "messuage/messuagelaw09.HeapRuns", spec := "heapRuns", recurses := true, apart := false, narrowed := true }
def HeapRunsUptoSaid : Prop := heapRunsUptoRow.holds Try.pinned (OpenSpec.upto heapRunsSpec)

/-- 'messuagelaw09.HeapActs', WHERE WHAT IT READS IS OF BULK AT MOST 1048576: true; the input reads as it did. -/
def heapActsUptoRow : OpenClaim := { program := "ytikahcbkeempdaa", sum := "12978ca38ea1a03b9d6ae88e425656678b4417fd16f6de6d47c7cadafbe8a64a", func := "messuage/messuagelaw09.HeapActs", spec := "heapActs", recurses := true, apart := false, narrowed := true }
def HeapActsUptoSaid : Prop := heapActsUptoRow.holds Try.pinned (OpenSpec.upto heapActsSpec)

end Rows
end Go.Proofs.Ytikahcbkeempdaa
