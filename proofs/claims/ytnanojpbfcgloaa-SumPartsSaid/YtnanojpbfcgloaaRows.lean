/-
  No cell of these rows narrows 'for every input' (looked for: loops, veiled, ifaces, maps, wideKeys, modest, calm, conditions, laid).
  DERIVED. THE GIVEN ROWS OF THIS SEAT. 12 by the template 'for every input the law returns true; each argument reads behind the call as it read before'; 0 by the template 'total and deterministic' (their statements: YtnanojpbfcgloaaTotals.lean).
  GIVEN WITH THE SEED: the statements are not yours to turn. If you find one false, say at which input.
  Laid BY PROGRAM, IN A SANDBOX (cutbox-rows.mjs): the forced cells as the released guide's own fill.sh prints them over the translation ab31f1f408069d84… (all of the seat's roots in one cut). By AI agents, Wed Nov 11 2026. No macro, syntax, notation, axiom, sorry.
-/
import Derived.Test.YtnanojpbfcgloaaChecked
import GoSem.Claim
import GoSem.ClaimJoined
import GoSem.ClaimMapViews
import Derived.JoinedTies
import Derived.KernelRfl
namespace Go.Proofs.Ytnanojpbfcgloaa
/- THE CELL 'sum', in the pinned program and in every row, IS THE sha256 OF THE DUMP (.gsa) THAT YtnanojpbfcgloaaProg.lean LOADS. Nothing in Lean hashes anything: it is a label: what it is worth is what the hold of that sum in a sandbox is worth. -/
noncomputable def Try.pinned : Pinned := { name := "ytnanojpbfcgloaa", sum := "ab31f1f408069d8444c5520ddbb01e4612f50f060f82c52c34dcfb7c02b00f9b", checked := Try.checked }
namespace Rows
def none {H : Type} : Left H := { results := [], args := [] }

/-- 'seneschallaw02.SumExact': WHATEVER THE INPUT: true; the input reads as it did. -/
def sumExactSpec : ChangeSpec := { name := "sumExact", fn := fun _ => fun
  | [d] => { results := [.lit (.bool true)], args := [d] }
  | _ => none }
def sumExactRow : OpenClaim := { program := "ytnanojpbfcgloaa", sum := "ab31f1f408069d8444c5520ddbb01e4612f50f060f82c52c34dcfb7c02b00f9b", func := "seneschal/seneschallaw02.SumExact", spec := "sumExact", apart := false }
def SumExactSaid : Prop := sumExactRow.holds Try.pinned (OpenSpec.ofChange sumExactSpec)

/-- ITS FALSE NEIGHBOUR: 'it returns false'. Refute it at one input. -/
def sumExactWrong : ChangeSpec := { name := "sumExact", fn := fun _ => fun
  | [d] => { results := [.lit (.bool false)], args := [d] }
  | _ => none }
def SumExactWrongFalsely : Prop := sumExactRow.holds Try.pinned (OpenSpec.ofChange sumExactWrong)

/-- 'seneschallaw02.SumParts': WHATEVER THE INPUT: true; the input reads as it did. -/
def sumPartsSpec : ChangeSpec := { name := "sumParts", fn := fun _ => fun
  | [d1, d2, d3] => { results := [.lit (.bool true)], args := [d1, d2, d3] }
  | _ => none }
def sumPartsRow : OpenClaim := { program := "ytnanojpbfcgloaa", sum := "ab31f1f408069d8444c5520ddbb01e4612f50f060f82c52c34dcfb7c02b00f9b", func := "seneschal/seneschallaw02.SumParts", spec := "sumParts", apart := false }
def SumPartsSaid : Prop := sumPartsRow.holds Try.pinned (OpenSpec.ofChange sumPartsSpec)

/-- ITS FALSE NEIGHBOUR: 'it returns false'. Refute it at one input. -/
def sumPartsWrong : ChangeSpec := { name := "sumParts", fn := fun _ => fun
  | [d1, d2, d3] => { results := [.lit (.bool false)], args := [d1, d2, d3] }
  | _ => none }
def SumPartsWrongFalsely : Prop := sumPartsRow.holds Try.pinned (OpenSpec.ofChange sumPartsWrong)

/-- 'seneschallaw02.SumTells': WHATEVER THE INPUT: true; the input reads as it did. -/
def sumTellsSpec : ChangeSpec := { name := "sumTells", fn := fun _ => fun
  | [d1, d2, d3] => { results := [.lit (.bool true)], args := [d1, d2, d3] }
  | _ => none }
def sumTellsRow : OpenClaim := { program := "ytnanojpbfcgloaa", sum := "ab31f1f408069d8444c5520ddbb01e4612f50f060f82c52c34dcfb7c02b00f9b", func := "seneschal/seneschallaw02.SumTells", spec := "sumTells", apart := false }
def SumTellsSaid : Prop := sumTellsRow.holds Try.pinned (OpenSpec.ofChange sumTellsSpec)

/-- ITS FALSE NEIGHBOUR: 'it returns false'. Refute it at one input. -/
def sumTellsWrong : ChangeSpec := { name := "sumTells", fn := fun _ => fun
  | [d1, d2, d3] => { results := [.lit (.bool false)], args := [d1, d2, d3] }
  | _ => none }
def SumTellsWrongFalsely : Prop := sumTellsRow.holds Try.pinned (OpenSpec.ofChange sumTellsWrong)

/-- 'seneschallaw02.SumRest': WHATEVER THE INPUT: true; the input reads as it did. -/
def sumRestSpec : ChangeSpec := { name := "sumRest", fn := fun _ => fun
  | [d] => { results := [.lit (.bool true)], args := [d] }
  | _ => none }
def sumRestRow : OpenClaim := { program := "ytnanojpbfcgloaa", sum := "ab31f1f408069d8444c5520ddbb01e4612f50f060f82c52c34dcfb7c02b00f9b", func := "seneschal/seneschallaw02.SumRest", spec := "sumRest", apart := false }
def SumRestSaid : Prop := sumRestRow.holds Try.pinned (OpenSpec.ofChange sumRestSpec)

/-- ITS FALSE NEIGHBOUR: 'it returns false'. Refute it at one input. -/
def sumRestWrong : ChangeSpec := { name := "sumRest", fn := fun _ => fun
  | [d] => { results := [.lit (.bool false)], args := [d] }
  | _ => none }
def SumRestWrongFalsely : Prop := sumRestRow.holds Try.pinned (OpenSpec.ofChange sumRestWrong)

/-- 'seneschallaw01.NibWrites': WHATEVER THE INPUT: true; the input reads as it did. -/
def nibWritesSpec : ChangeSpec := { name := "nibWrites", fn := fun _ => fun
  | [d1, d2] => { results := [.lit (.bool true)], args := [d1, d2] }
  | _ => none }
def nibWritesRow : OpenClaim := { program := "ytnanojpbfcgloaa", sum := "ab31f1f408069d8444c5520ddbb01e4612f50f060f82c52c34dcfb7c02b00f9b", func := "seneschal/seneschallaw01.NibWrites", spec := "nibWrites", apart := false }
def NibWritesSaid : Prop := nibWritesRow.holds Try.pinned (OpenSpec.ofChange nibWritesSpec)

/-- ITS FALSE NEIGHBOUR: 'it returns false'. Refute it at one input. -/
def nibWritesWrong : ChangeSpec := { name := "nibWrites", fn := fun _ => fun
  | [d1, d2] => { results := [.lit (.bool false)], args := [d1, d2] }
  | _ => none }
def NibWritesWrongFalsely : Prop := nibWritesRow.holds Try.pinned (OpenSpec.ofChange nibWritesWrong)

/-- 'seneschallaw01.NibReads': WHATEVER THE INPUT: true; the input reads as it did. -/
def nibReadsSpec : ChangeSpec := { name := "nibReads", fn := fun _ => fun
  | [d1, d2] => { results := [.lit (.bool true)], args := [d1, d2] }
  | _ => none }
def nibReadsRow : OpenClaim := { program := "ytnanojpbfcgloaa", sum := "ab31f1f408069d8444c5520ddbb01e4612f50f060f82c52c34dcfb7c02b00f9b", func := "seneschal/seneschallaw01.NibReads", spec := "nibReads", apart := false }
def NibReadsSaid : Prop := nibReadsRow.holds Try.pinned (OpenSpec.ofChange nibReadsSpec)

/-- ITS FALSE NEIGHBOUR: 'it returns false'. Refute it at one input. -/
def nibReadsWrong : ChangeSpec := { name := "nibReads", fn := fun _ => fun
  | [d1, d2] => { results := [.lit (.bool false)], args := [d1, d2] }
  | _ => none }
def NibReadsWrongFalsely : Prop := nibReadsRow.holds Try.pinned (OpenSpec.ofChange nibReadsWrong)

/-- 'seneschallaw01.NibBack': WHATEVER THE INPUT: true; the input reads as it did. -/
def nibBackSpec : ChangeSpec := { name := "nibBack", fn := fun _ => fun
  | [d1, d2, d3] => { results := [.lit (.bool true)], args := [d1, d2, d3] }
  | _ => none }
def nibBackRow : OpenClaim := { program := "ytnanojpbfcgloaa", sum := "ab31f1f408069d8444c5520ddbb01e4612f50f060f82c52c34dcfb7c02b00f9b", func := "seneschal/seneschallaw01.NibBack", spec := "nibBack", apart := false }
def NibBackSaid : Prop := nibBackRow.holds Try.pinned (OpenSpec.ofChange nibBackSpec)

/-- ITS FALSE NEIGHBOUR: 'it returns false'. Refute it at one input. -/
def nibBackWrong : ChangeSpec := { name := "nibBack", fn := fun _ => fun
  | [d1, d2, d3] => { results := [.lit (.bool false)], args := [d1, d2, d3] }
  | _ => none }
def NibBackWrongFalsely : Prop := nibBackRow.holds Try.pinned (OpenSpec.ofChange nibBackWrong)

/-- 'seneschallaw01.NibOne': WHATEVER THE INPUT: true; the input reads as it did. -/
def nibOneSpec : ChangeSpec := { name := "nibOne", fn := fun _ => fun
  | [d] => { results := [.lit (.bool true)], args := [d] }
  | _ => none }
def nibOneRow : OpenClaim := { program := "ytnanojpbfcgloaa", sum := "ab31f1f408069d8444c5520ddbb01e4612f50f060f82c52c34dcfb7c02b00f9b", func := "seneschal/seneschallaw01.NibOne", spec := "nibOne", apart := false }
def NibOneSaid : Prop := nibOneRow.holds Try.pinned (OpenSpec.ofChange nibOneSpec)

/-- ITS FALSE NEIGHBOUR: 'it returns false'. Refute it at one input. -/
def nibOneWrong : ChangeSpec := { name := "nibOne", fn := fun _ => fun
  | [d] => { results := [.lit (.bool false)], args := [d] }
  | _ => none }
def NibOneWrongFalsely : Prop := nibOneRow.holds Try.pinned (OpenSpec.ofChange nibOneWrong)

/-- 'seneschallaw01.NibApart': WHATEVER THE INPUT: true; the input reads as it did. -/
def nibApartSpec : ChangeSpec := { name := "nibApart", fn := fun _ => fun
  | [d1, d2, d3] => { results := [.lit (.bool true)], args := [d1, d2, d3] }
  | _ => none }
def nibApartRow : OpenClaim := { program := "ytnanojpbfcgloaa", sum := "ab31f1f408069d8444c5520ddbb01e4612f50f060f82c52c34dcfb7c02b00f9b", func := "seneschal/seneschallaw01.NibApart", spec := "nibApart", apart := false }
def NibApartSaid : Prop := nibApartRow.holds Try.pinned (OpenSpec.ofChange nibApartSpec)

/-- ITS FALSE NEIGHBOUR: 'it returns false'. Refute it at one input. -/
def nibApartWrong : ChangeSpec := { name := "nibApart", fn := fun _ => fun
  | [d1, d2, d3] => { results := [.lit (.bool false)], args := [d1, d2, d3] }
  | _ => none }
def NibApartWrongFalsely : Prop := nibApartRow.holds Try.pinned (OpenSpec.ofChange nibApartWrong)

/-- 'seneschallaw01.NibShort': WHATEVER THE INPUT: true; the input reads as it did. -/
def nibShortSpec : ChangeSpec := { name := "nibShort", fn := fun _ => fun
  | [d] => { results := [.lit (.bool true)], args := [d] }
  | _ => none }
def nibShortRow : OpenClaim := { program := "ytnanojpbfcgloaa", sum := "ab31f1f408069d8444c5520ddbb01e4612f50f060f82c52c34dcfb7c02b00f9b", func := "seneschal/seneschallaw01.NibShort", spec := "nibShort", apart := false }
def NibShortSaid : Prop := nibShortRow.holds Try.pinned (OpenSpec.ofChange nibShortSpec)

/-- ITS FALSE NEIGHBOUR: 'it returns false'. Refute it at one input. -/
def nibShortWrong : ChangeSpec := { name := "nibShort", fn := fun _ => fun
  | [d] => { results := [.lit (.bool false)], args := [d] }
  | _ => none }
def NibShortWrongFalsely : Prop := nibShortRow.holds Try.pinned (OpenSpec.ofChange nibShortWrong)

/-- 'seneschallaw01.NibRow': WHATEVER THE INPUT: true; the input reads as it did. -/
def nibRowSpec : ChangeSpec := { name := "nibRow", fn := fun _ => fun
  | [d] => { results := [.lit (.bool true)], args := [d] }
  | _ => none }
def nibRowRow : OpenClaim := { program := "ytnanojpbfcgloaa", sum := "ab31f1f408069d8444c5520ddbb01e4612f50f060f82c52c34dcfb7c02b00f9b", func := "seneschal/seneschallaw01.NibRow", spec := "nibRow", apart := false }
def NibRowSaid : Prop := nibRowRow.holds Try.pinned (OpenSpec.ofChange nibRowSpec)

/-- ITS FALSE NEIGHBOUR: 'it returns false'. Refute it at one input. -/
def nibRowWrong : ChangeSpec := { name := "nibRow", fn := fun _ => fun
  | [d] => { results := [.lit (.bool false)], args := [d] }
  | _ => none }
def NibRowWrongFalsely : Prop := nibRowRow.holds Try.pinned (OpenSpec.ofChange nibRowWrong)

/-- 'seneschallaw01.NibGrows': WHATEVER THE INPUT: true; the input reads as it did. -/
def nibGrowsSpec : ChangeSpec := { name := "nibGrows", fn := fun _ => fun
  | [d1, d2] => { results := [.lit (.bool true)], args := [d1, d2] }
  | _ => none }
def nibGrowsRow : OpenClaim := { program := "ytnanojpbfcgloaa", sum := "ab31f1f408069d8444c5520ddbb01e4612f50f060f82c52c34dcfb7c02b00f9b", func := "seneschal/seneschallaw01.NibGrows", spec := "nibGrows", apart := false }
def NibGrowsSaid : Prop := nibGrowsRow.holds Try.pinned (OpenSpec.ofChange nibGrowsSpec)

/-- ITS FALSE NEIGHBOUR: 'it returns false'. Refute it at one input. -/
def nibGrowsWrong : ChangeSpec := { name := "nibGrows", fn := fun _ => fun
  | [d1, d2] => { results := [.lit (.bool false)], args := [d1, d2] }
  | _ => none }
def NibGrowsWrongFalsely : Prop := nibGrowsRow.holds Try.pinned (OpenSpec.ofChange nibGrowsWrong)

/- THE SECOND FORM. 'bulk': how many values and letters a reading holds, each counted each time it is reached (what is shared counts as often as it is met; a slice's spare places count too). A statement '..UptoSaid' is the law's where the arguments, and the package variables that the reading takes, are together of bulk at most 1048576: NARROWER than '..Said'. Prove '..Said' where nothing that the law and all that it calls make is longer than what came in: it says more and counts as full. Else prove '..UptoSaid'. A law counts once. -/
mutual
def uptoBulk {H : Type} : DataW H → Nat
  | .lit (.string bytes) => bytes.length + 1
  | .lit _ => 1
  | .nil => 1
  | .ptr d => uptoBulk d + 1
  | .slice elems spare => uptoBulkAll elems + uptoBulkAll spare + 1
  | .agg parts => uptoBulkAll parts + 1
  | .iface _ d => uptoBulk d + 1
  | .map entries => uptoBulkEntries entries + 1
  | .held _ => 1
def uptoBulkAll {H : Type} : List (DataW H) → Nat
  | [] => 0
  | d :: r => uptoBulk d + uptoBulkAll r
def uptoBulkEntries {H : Type} : List (Lit × DataW H) → Nat
  | [] => 0
  | x :: r => uptoBulkEntry x + uptoBulkEntries r
def uptoBulkEntry {H : Type} : Lit × DataW H → Nat
  | (.string bytes, d) => bytes.length + uptoBulk d + 1
  | (_, d) => uptoBulk d + 1
 end
def uptoSmall : (H : Type) → List (DataW H) → Bool := fun _ ds => decide (uptoBulkAll ds ≤ 1048576)
def OpenSpec.upto (s : _root_.Go.ChangeSpec) : _root_.Go.OpenSpec := { _root_.Go.OpenSpec.ofChange s with cond := some uptoSmall }

/-- 'seneschallaw02.SumExact', WHERE WHAT IT READS IS OF BULK AT MOST 1048576: true; the input reads as it did. -/
def sumExactUptoRow : OpenClaim := { program := "ytnanojpbfcgloaa", sum := "ab31f1f408069d8444c5520ddbb01e4612f50f060f82c52c34dcfb7c02b00f9b", func := "seneschal/seneschallaw02.SumExact", spec := "sumExact", apart := false, narrowed := true }
def SumExactUptoSaid : Prop := sumExactUptoRow.holds Try.pinned (OpenSpec.upto sumExactSpec)

/-- 'seneschallaw02.SumParts', WHERE WHAT IT READS IS OF BULK AT MOST 1048576: true; the input reads as it did. -/
def sumPartsUptoRow : OpenClaim := { program := "ytnanojpbfcgloaa", sum := "ab31f1f408069d8444c5520ddbb01e4612f50f060f82c52c34dcfb7c02b00f9b", func := "seneschal/seneschallaw02.SumParts", spec := "sumParts", apart := false, narrowed := true }
def SumPartsUptoSaid : Prop := sumPartsUptoRow.holds Try.pinned (OpenSpec.upto sumPartsSpec)

/-- 'seneschallaw02.SumTells', WHERE WHAT IT READS IS OF BULK AT MOST 1048576: true; the input reads as it did. -/
def sumTellsUptoRow : OpenClaim := { program := "ytnanojpbfcgloaa", sum := "ab31f1f408069d8444c5520ddbb01e4612f50f060f82c52c34dcfb7c02b00f9b", func := "seneschal/seneschallaw02.SumTells", spec := "sumTells", apart := false, narrowed := true }
def SumTellsUptoSaid : Prop := sumTellsUptoRow.holds Try.pinned (OpenSpec.upto sumTellsSpec)

/-- 'seneschallaw02.SumRest', WHERE WHAT IT READS IS OF BULK AT MOST 1048576: true; the input reads as it did. -/
def sumRestUptoRow : OpenClaim := { program := "ytnanojpbfcgloaa", sum := "ab31f1f408069d8444c5520ddbb01e4612f50f060f82c52c34dcfb7c02b00f9b", func := "seneschal/seneschallaw02.SumRest", spec := "sumRest", apart := false, narrowed := true }
def SumRestUptoSaid : Prop := sumRestUptoRow.holds Try.pinned (OpenSpec.upto sumRestSpec)

/-- 'seneschallaw01.NibWrites', WHERE WHAT IT READS IS OF BULK AT MOST 1048576: true; the input reads as it did. -/
def nibWritesUptoRow : OpenClaim := { program := "ytnanojpbfcgloaa", sum := "ab31f1f408069d8444c5520ddbb01e4612f50f060f82c52c34dcfb7c02b00f9b", func := "seneschal/seneschallaw01.NibWrites", spec := "nibWrites", apart := false, narrowed := true }
def NibWritesUptoSaid : Prop := nibWritesUptoRow.holds Try.pinned (OpenSpec.upto nibWritesSpec)

/-- 'seneschallaw01.NibReads', WHERE WHAT IT READS IS OF BULK AT MOST 1048576: true; the input reads as it did. -/
def nibReadsUptoRow : OpenClaim := { program := "ytnanojpbfcgloaa", sum := "ab31f1f408069d8444c5520ddbb01e4612f50f060f82c52c34dcfb7c02b00f9b", func := "seneschal/seneschallaw01.NibReads", spec := "nibReads", apart := false, narrowed := true }
def NibReadsUptoSaid : Prop := nibReadsUptoRow.holds Try.pinned (OpenSpec.upto nibReadsSpec)

/-- 'seneschallaw01.NibBack', WHERE WHAT IT READS IS OF BULK AT MOST 1048576: true; the input reads as it did. -/
def nibBackUptoRow : OpenClaim := { program := "ytnanojpbfcgloaa", sum := "ab31f1f408069d8444c5520ddbb01e4612f50f060f82c52c34dcfb7c02b00f9b", func := "seneschal/seneschallaw01.NibBack", spec := "nibBack", apart := false, narrowed := true }
def NibBackUptoSaid : Prop := nibBackUptoRow.holds Try.pinned (OpenSpec.upto nibBackSpec)

/-- 'seneschallaw01.NibOne', WHERE WHAT IT READS IS OF BULK AT MOST 1048576: true; the input reads as it did. -/
def nibOneUptoRow : OpenClaim := { program := "ytnanojpbfcgloaa", sum := "ab31f1f408069d8444c5520ddbb01e4612f50f060f82c52c34dcfb7c02b00f9b", func := "seneschal/seneschallaw01.NibOne", spec := "nibOne", apart := false, narrowed := true }
def NibOneUptoSaid : Prop := nibOneUptoRow.holds Try.pinned (OpenSpec.upto nibOneSpec)

/-- 'seneschallaw01.NibApart', WHERE WHAT IT READS IS OF BULK AT MOST 1048576: true; the input reads as it did. -/
def nibApartUptoRow : OpenClaim := { program := "ytnanojpbfcgloaa", sum := "ab31f1f408069d8444c5520ddbb01e4612f50f060f82c52c34dcfb7c02b00f9b", func := "seneschal/seneschallaw01.NibApart", spec := "nibApart", apart := false, narrowed := true }
def NibApartUptoSaid : Prop := nibApartUptoRow.holds Try.pinned (OpenSpec.upto nibApartSpec)

/-- 'seneschallaw01.NibShort', WHERE WHAT IT READS IS OF BULK AT MOST 1048576: true; the input reads as it did. -/
def nibShortUptoRow : OpenClaim := { program := "ytnanojpbfcgloaa", sum := "ab31f1f408069d8444c5520ddbb01e4612f50f060f82c52c34dcfb7c02b00f9b", func := "seneschal/seneschallaw01.NibShort", spec := "nibShort", apart := false, narrowed := true }
def NibShortUptoSaid : Prop := nibShortUptoRow.holds Try.pinned (OpenSpec.upto nibShortSpec)

/-- 'seneschallaw01.NibRow', WHERE WHAT IT READS IS OF BULK AT MOST 1048576: true; the input reads as it did. -/
def nibRowUptoRow : OpenClaim := { program := "ytnanojpbfcgloaa", sum := "ab31f1f408069d8444c5520ddbb01e4612f50f060f82c52c34dcfb7c02b00f9b", func := "seneschal/seneschallaw01.NibRow", spec := "nibRow", apart := false, narrowed := true }
def NibRowUptoSaid : Prop := nibRowUptoRow.holds Try.pinned (OpenSpec.upto nibRowSpec)

/-- 'seneschallaw01.NibGrows', WHERE WHAT IT READS IS OF BULK AT MOST 1048576: true; the input reads as it did. -/
def nibGrowsUptoRow : OpenClaim := { program := "ytnanojpbfcgloaa", sum := "ab31f1f408069d8444c5520ddbb01e4612f50f060f82c52c34dcfb7c02b00f9b", func := "seneschal/seneschallaw01.NibGrows", spec := "nibGrows", apart := false, narrowed := true }
def NibGrowsUptoSaid : Prop := nibGrowsUptoRow.holds Try.pinned (OpenSpec.upto nibGrowsSpec)

end Rows
end Go.Proofs.Ytnanojpbfcgloaa
