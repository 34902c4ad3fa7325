/-
  No cell of these rows narrows 'for every input' (looked for: loops, veiled, ifaces, maps, wideKeys, modest, calm, conditions, laid).
  DERIVED. THE GIVEN ROWS OF THIS SEAT. 9 by the template 'for every input the law returns true; each argument reads behind the call as it read before'; 0 by the template 'total and deterministic' (their statements: YtklmoigpalhlmaaTotals.lean).
  GIVEN WITH THE SEED: the statements are not yours to turn. If you find one false, say at which input.
  Laid BY PROGRAM, IN A SANDBOX (cutbox-rows.mjs): the forced cells as the released guide's own fill.sh prints them over the translation f80f3f11bbfecbc9… (all of the seat's roots in one cut). By AI agents, Wed Nov 11 2026. No macro, syntax, notation, axiom, sorry.
-/
import Derived.Test.YtklmoigpalhlmaaChecked
import GoSem.Claim
import GoSem.ClaimJoined
import GoSem.ClaimMapViews
import Derived.JoinedTies
import Derived.KernelRfl
namespace Go.Proofs.Ytklmoigpalhlmaa
/- THE CELL 'sum', in the pinned program and in every row, IS THE sha256 OF THE DUMP (.gsa) THAT YtklmoigpalhlmaaProg.lean LOADS. Nothing in Lean hashes anything: it is a label: what it is worth is what the hold of that sum in a sandbox is worth. -/
noncomputable def Try.pinned : Pinned := { name := "ytklmoigpalhlmaa", sum := "f80f3f11bbfecbc91376f8645ed3db8902c858b7d6d9f02d2b9ddaf1e596c721", checked := Try.checked }
namespace Rows
def none {H : Type} : Left H := { results := [], args := [] }

/-- 'seneschallaw03.SlabWrites': WHATEVER THE INPUT: true; the input reads as it did. -/
def slabWritesSpec : ChangeSpec := { name := "slabWrites", fn := fun _ => fun
  | [d] => { results := [.lit (.bool true)], args := [d] }
  | _ => none }
def slabWritesRow : OpenClaim := { program := "ytklmoigpalhlmaa", sum := "f80f3f11bbfecbc91376f8645ed3db8902c858b7d6d9f02d2b9ddaf1e596c721", func := "seneschal/seneschallaw03.SlabWrites", spec := "slabWrites", unfollowed := true, recurses := true, apart := false }
def SlabWritesSaid : Prop := slabWritesRow.holds Try.pinned (OpenSpec.ofChange slabWritesSpec)

/-- ITS FALSE NEIGHBOUR: 'it returns false'. Refute it at one input. -/
def slabWritesWrong : ChangeSpec := { name := "slabWrites", fn := fun _ => fun
  | [d] => { results := [.lit (.bool false)], args := [d] }
  | _ => none }
def SlabWritesWrongFalsely : Prop := slabWritesRow.holds Try.pinned (OpenSpec.ofChange slabWritesWrong)

/-- 'seneschallaw03.SlabFits': WHATEVER THE INPUT: true; the input reads as it did. -/
def slabFitsSpec : ChangeSpec := { name := "slabFits", fn := fun _ => fun
  | [d1, d2, d3] => { results := [.lit (.bool true)], args := [d1, d2, d3] }
  | _ => none }
def slabFitsRow : OpenClaim := { program := "ytklmoigpalhlmaa", sum := "f80f3f11bbfecbc91376f8645ed3db8902c858b7d6d9f02d2b9ddaf1e596c721", func := "seneschal/seneschallaw03.SlabFits", spec := "slabFits", unfollowed := true, recurses := true, apart := false }
def SlabFitsSaid : Prop := slabFitsRow.holds Try.pinned (OpenSpec.ofChange slabFitsSpec)

/-- ITS FALSE NEIGHBOUR: 'it returns false'. Refute it at one input. -/
def slabFitsWrong : ChangeSpec := { name := "slabFits", fn := fun _ => fun
  | [d1, d2, d3] => { results := [.lit (.bool false)], args := [d1, d2, d3] }
  | _ => none }
def SlabFitsWrongFalsely : Prop := slabFitsRow.holds Try.pinned (OpenSpec.ofChange slabFitsWrong)

/-- 'seneschallaw03.SlabPuts': WHATEVER THE INPUT: true; the input reads as it did. -/
def slabPutsSpec : ChangeSpec := { name := "slabPuts", fn := fun _ => fun
  | [d1, d2, d3] => { results := [.lit (.bool true)], args := [d1, d2, d3] }
  | _ => none }
def slabPutsRow : OpenClaim := { program := "ytklmoigpalhlmaa", sum := "f80f3f11bbfecbc91376f8645ed3db8902c858b7d6d9f02d2b9ddaf1e596c721", func := "seneschal/seneschallaw03.SlabPuts", spec := "slabPuts", unfollowed := true, recurses := true, apart := false }
def SlabPutsSaid : Prop := slabPutsRow.holds Try.pinned (OpenSpec.ofChange slabPutsSpec)

/-- ITS FALSE NEIGHBOUR: 'it returns false'. Refute it at one input. -/
def slabPutsWrong : ChangeSpec := { name := "slabPuts", fn := fun _ => fun
  | [d1, d2, d3] => { results := [.lit (.bool false)], args := [d1, d2, d3] }
  | _ => none }
def SlabPutsWrongFalsely : Prop := slabPutsRow.holds Try.pinned (OpenSpec.ofChange slabPutsWrong)

/-- 'seneschallaw03.SlabKeeps': WHATEVER THE INPUT: true; the input reads as it did. -/
def slabKeepsSpec : ChangeSpec := { name := "slabKeeps", fn := fun _ => fun
  | [d1, d2, d3] => { results := [.lit (.bool true)], args := [d1, d2, d3] }
  | _ => none }
def slabKeepsRow : OpenClaim := { program := "ytklmoigpalhlmaa", sum := "f80f3f11bbfecbc91376f8645ed3db8902c858b7d6d9f02d2b9ddaf1e596c721", func := "seneschal/seneschallaw03.SlabKeeps", spec := "slabKeeps", unfollowed := true, recurses := true, apart := false }
def SlabKeepsSaid : Prop := slabKeepsRow.holds Try.pinned (OpenSpec.ofChange slabKeepsSpec)

/-- ITS FALSE NEIGHBOUR: 'it returns false'. Refute it at one input. -/
def slabKeepsWrong : ChangeSpec := { name := "slabKeeps", fn := fun _ => fun
  | [d1, d2, d3] => { results := [.lit (.bool false)], args := [d1, d2, d3] }
  | _ => none }
def SlabKeepsWrongFalsely : Prop := slabKeepsRow.holds Try.pinned (OpenSpec.ofChange slabKeepsWrong)

/-- 'seneschallaw03.SlabVacant': WHATEVER THE INPUT: true; the input reads as it did. -/
def slabVacantSpec : ChangeSpec := { name := "slabVacant", fn := fun _ => fun
  | [d1, d2] => { results := [.lit (.bool true)], args := [d1, d2] }
  | _ => none }
def slabVacantRow : OpenClaim := { program := "ytklmoigpalhlmaa", sum := "f80f3f11bbfecbc91376f8645ed3db8902c858b7d6d9f02d2b9ddaf1e596c721", func := "seneschal/seneschallaw03.SlabVacant", spec := "slabVacant", unfollowed := true, recurses := true, apart := false }
def SlabVacantSaid : Prop := slabVacantRow.holds Try.pinned (OpenSpec.ofChange slabVacantSpec)

/-- ITS FALSE NEIGHBOUR: 'it returns false'. Refute it at one input. -/
def slabVacantWrong : ChangeSpec := { name := "slabVacant", fn := fun _ => fun
  | [d1, d2] => { results := [.lit (.bool false)], args := [d1, d2] }
  | _ => none }
def SlabVacantWrongFalsely : Prop := slabVacantRow.holds Try.pinned (OpenSpec.ofChange slabVacantWrong)

/-- 'seneschallaw03.SlabMap': WHATEVER THE INPUT: true; the input reads as it did. -/
def slabMapSpec : ChangeSpec := { name := "slabMap", fn := fun _ => fun
  | [d] => { results := [.lit (.bool true)], args := [d] }
  | _ => none }
def slabMapRow : OpenClaim := { program := "ytklmoigpalhlmaa", sum := "f80f3f11bbfecbc91376f8645ed3db8902c858b7d6d9f02d2b9ddaf1e596c721", func := "seneschal/seneschallaw03.SlabMap", spec := "slabMap", unfollowed := true, recurses := true, apart := false }
def SlabMapSaid : Prop := slabMapRow.holds Try.pinned (OpenSpec.ofChange slabMapSpec)

/-- ITS FALSE NEIGHBOUR: 'it returns false'. Refute it at one input. -/
def slabMapWrong : ChangeSpec := { name := "slabMap", fn := fun _ => fun
  | [d] => { results := [.lit (.bool false)], args := [d] }
  | _ => none }
def SlabMapWrongFalsely : Prop := slabMapRow.holds Try.pinned (OpenSpec.ofChange slabMapWrong)

/-- 'seneschallaw03.SlabRows': WHATEVER THE INPUT: true; the input reads as it did. -/
def slabRowsSpec : ChangeSpec := { name := "slabRows", fn := fun _ => fun
  | [d1, d2] => { results := [.lit (.bool true)], args := [d1, d2] }
  | _ => none }
def slabRowsRow : OpenClaim := { program := "ytklmoigpalhlmaa", sum := "f80f3f11bbfecbc91376f8645ed3db8902c858b7d6d9f02d2b9ddaf1e596c721", func := "seneschal/seneschallaw03.SlabRows", spec := "slabRows", unfollowed := true, recurses := true, apart := false }
def SlabRowsSaid : Prop := slabRowsRow.holds Try.pinned (OpenSpec.ofChange slabRowsSpec)

/-- ITS FALSE NEIGHBOUR: 'it returns false'. Refute it at one input. -/
def slabRowsWrong : ChangeSpec := { name := "slabRows", fn := fun _ => fun
  | [d1, d2] => { results := [.lit (.bool false)], args := [d1, d2] }
  | _ => none }
def SlabRowsWrongFalsely : Prop := slabRowsRow.holds Try.pinned (OpenSpec.ofChange slabRowsWrong)

/-- 'seneschallaw03.SlabReads': WHATEVER THE INPUT: true; the input reads as it did. -/
def slabReadsSpec : ChangeSpec := { name := "slabReads", fn := fun _ => fun
  | [d] => { results := [.lit (.bool true)], args := [d] }
  | _ => none }
def slabReadsRow : OpenClaim := { program := "ytklmoigpalhlmaa", sum := "f80f3f11bbfecbc91376f8645ed3db8902c858b7d6d9f02d2b9ddaf1e596c721", func := "seneschal/seneschallaw03.SlabReads", spec := "slabReads", unfollowed := true, recurses := true, apart := false }
def SlabReadsSaid : Prop := slabReadsRow.holds Try.pinned (OpenSpec.ofChange slabReadsSpec)

/-- ITS FALSE NEIGHBOUR: 'it returns false'. Refute it at one input. -/
def slabReadsWrong : ChangeSpec := { name := "slabReads", fn := fun _ => fun
  | [d] => { results := [.lit (.bool false)], args := [d] }
  | _ => none }
def SlabReadsWrongFalsely : Prop := slabReadsRow.holds Try.pinned (OpenSpec.ofChange slabReadsWrong)

/-- 'seneschallaw03.SlabBack': WHATEVER THE INPUT: true; the input reads as it did. -/
def slabBackSpec : ChangeSpec := { name := "slabBack", fn := fun _ => fun
  | [d1, d2, d3] => { results := [.lit (.bool true)], args := [d1, d2, d3] }
  | _ => none }
def slabBackRow : OpenClaim := { program := "ytklmoigpalhlmaa", sum := "f80f3f11bbfecbc91376f8645ed3db8902c858b7d6d9f02d2b9ddaf1e596c721", func := "seneschal/seneschallaw03.SlabBack", spec := "slabBack", unfollowed := true, recurses := true, apart := false }
def SlabBackSaid : Prop := slabBackRow.holds Try.pinned (OpenSpec.ofChange slabBackSpec)

/-- ITS FALSE NEIGHBOUR: 'it returns false'. Refute it at one input. -/
def slabBackWrong : ChangeSpec := { name := "slabBack", fn := fun _ => fun
  | [d1, d2, d3] => { results := [.lit (.bool false)], args := [d1, d2, d3] }
  | _ => none }
def SlabBackWrongFalsely : Prop := slabBackRow.holds Try.pinned (OpenSpec.ofChange slabBackWrong)

/- THE SECOND FORM. 'bulk': how many values and letters a reading holds, each counted each time it is reached (what is shared counts as often as it is met; a slice's spare places count too). A statement '..UptoSaid' is the law's where the arguments, and the package variables that the reading takes, are together of bulk at most 1048576: NARROWER than '..Said'. Prove '..Said' where nothing that the law and all that it calls make is longer than what came in: it says more and counts as full. Else prove '..UptoSaid'. A law counts once. -/
mutual
def uptoBulk {H : Type} : DataW H → Nat
  | .lit (.string bytes) => bytes.length + 1
  | .lit _ => 1
  | .nil => 1
  | .ptr d => uptoBulk d + 1
  | .slice elems spare => uptoBulkAll elems + uptoBulkAll spare + 1
  | .agg parts => uptoBulkAll parts + 1
  | .iface _ d => uptoBulk d + 1
  | .map entries => uptoBulkEntries entries + 1
  | .held _ => 1
def uptoBulkAll {H : Type} : List (DataW H) → Nat
  | [] => 0
  | d :: r => uptoBulk d + uptoBulkAll r
def uptoBulkEntries {H : Type} : List (Lit × DataW H) → Nat
  | [] => 0
  | x :: r => uptoBulkEntry x + uptoBulkEntries r
def uptoBulkEntry {H : Type} : Lit × DataW H → Nat
  | (.string bytes, d) => bytes.length + uptoBulk d + 1
  | (_, d) => uptoBulk d + 1
 end
def uptoSmall : (H : Type) → List (DataW H) → Bool := fun _ ds => decide (uptoBulkAll ds ≤ 1048576)
def OpenSpec.upto (s : _root_.Go.ChangeSpec) : _root_.Go.OpenSpec := { _root_.Go.OpenSpec.ofChange s with cond := some uptoSmall }

/-- 'seneschallaw03.SlabWrites', WHERE WHAT IT READS IS OF BULK AT MOST 1048576: true; the input reads as it did. -/
def slabWritesUptoRow : OpenClaim := { program := "ytklmoigpalhlmaa", sum := "f80f3f11bbfecbc91376f8645ed3db8902c858b7d6d9f02d2b9ddaf1e596c721", func := "seneschal/seneschallaw03.SlabWrites", spec := "slabWrites", unfollowed := true, recurses := true, apart := false, narrowed := true }
def SlabWritesUptoSaid : Prop := slabWritesUptoRow.holds Try.pinned (OpenSpec.upto slabWritesSpec)

/-- 'seneschallaw03.SlabFits', WHERE WHAT IT READS IS OF BULK AT MOST 1048576: true; the input reads as it did. -/
def slabFitsUptoRow : OpenClaim := { program := "ytklmoigpalhlmaa", sum := "f80f3f11bbfecbc91376f8645ed3db8902c858b7d6d9f02d2b9ddaf1e596c721", func := "seneschal/seneschallaw03.SlabFits", spec := "slabFits", unfollowed := true, recurses := true, apart := false, narrowed := true }
def SlabFitsUptoSaid : Prop := slabFitsUptoRow.holds Try.pinned (OpenSpec.upto slabFitsSpec)

/-- 'seneschallaw03.SlabPuts', WHERE WHAT IT READS IS OF BULK AT MOST 1048576: true; the input reads as it did. -/
def slabPutsUptoRow : OpenClaim := { program := "ytklmoigpalhlmaa", sum := "f80f3f11bbfecbc91376f8645ed3db8902c858b7d6d9f02d2b9ddaf1e596c721", func := "seneschal/seneschallaw03.SlabPuts", spec := "slabPuts", unfollowed := true, recurses := true, apart := false, narrowed := true }
def SlabPutsUptoSaid : Prop := slabPutsUptoRow.holds Try.pinned (OpenSpec.upto slabPutsSpec)

/-- 'seneschallaw03.SlabKeeps', WHERE WHAT IT READS IS OF BULK AT MOST 1048576: true; the input reads as it did. -/
def slabKeepsUptoRow : OpenClaim := { program := "ytklmoigpalhlmaa", sum := "f80f3f11bbfecbc91376f8645ed3db8902c858b7d6d9f02d2b9ddaf1e596c721", func := "seneschal/seneschallaw03.SlabKeeps", spec := "slabKeeps", unfollowed := true, recurses := true, apart := false, narrowed := true }
def SlabKeepsUptoSaid : Prop := slabKeepsUptoRow.holds Try.pinned (OpenSpec.upto slabKeepsSpec)

/-- 'seneschallaw03.SlabVacant', WHERE WHAT IT READS IS OF BULK AT MOST 1048576: true; the input reads as it did. -/
def slabVacantUptoRow : OpenClaim := { program := "ytklmoigpalhlmaa", sum := "f80f3f11bbfecbc91376f8645ed3db8902c858b7d6d9f02d2b9ddaf1e596c721", func := "seneschal/seneschallaw03.SlabVacant", spec := "slabVacant", unfollowed := true, recurses := true, apart := false, narrowed := true }
def SlabVacantUptoSaid : Prop := slabVacantUptoRow.holds Try.pinned (OpenSpec.upto slabVacantSpec)

/-- 'seneschallaw03.SlabMap', WHERE WHAT IT READS IS OF BULK AT MOST 1048576: true; the input reads as it did. -/
def slabMapUptoRow : OpenClaim := { program := "ytklmoigpalhlmaa", sum := "f80f3f11bbfecbc91376f8645ed3db8902c858b7d6d9f02d2b9ddaf1e596c721", func := "seneschal/seneschallaw03.SlabMap", spec := "slabMap", unfollowed := true, recurses := true, apart := false, narrowed := true }
def SlabMapUptoSaid : Prop := slabMapUptoRow.holds Try.pinned (OpenSpec.upto slabMapSpec)

/-- 'seneschallaw03.SlabRows', WHERE WHAT IT READS IS OF BULK AT MOST 1048576: true; the input reads as it did. -/
def slabRowsUptoRow : OpenClaim := { program := "ytklmoigpalhlmaa", sum := "f80f3f11bbfecbc91376f8645ed3db8902c858b7d6d9f02d2b9ddaf1e596c721", func := "seneschal/seneschallaw03.SlabRows", spec := "slabRows", unfollowed := true, recurses := true, apart := false, narrowed := true }
def SlabRowsUptoSaid : Prop := slabRowsUptoRow.holds Try.pinned (OpenSpec.upto slabRowsSpec)

/-- 'seneschallaw03.SlabReads', WHERE WHAT IT READS IS OF BULK AT MOST 1048576: true; the input reads as it did. -/
def slabReadsUptoRow : OpenClaim := { program := "ytklmoigpalhlmaa", sum := "f80f3f11bbfecbc91376f8645ed3db8902c858b7d6d9f02d2b9ddaf1e596c721", func := "seneschal/seneschallaw03.SlabReads", spec := "slabReads", unfollowed := true, recurses := true, apart := false, narrowed := true }
def SlabReadsUptoSaid : Prop := slabReadsUptoRow.holds Try.pinned (OpenSpec.upto slabReadsSpec)

/-- 'seneschallaw03.SlabBack', WHERE WHAT IT READS IS OF BULK AT MOST 1048576: true; the input reads as it did. -/
def slabBackUptoRow : OpenClaim := { program := "ytklmoigpalhlmaa", sum := "f80f3f11bbfecbc91376f8645ed3db8902c858b7d6d9f02d2b9ddaf1e596c721", func := "seneschal/seneschallaw03.SlabBack", spec := "slabBack", unfollowed := true, recurses := true, apart := false, narrowed := true }
def SlabBackUptoSaid : Prop := slabBackUptoRow.holds Try.pinned (OpenSpec.upto slabBackSpec)

end Rows
end Go.Proofs.Ytklmoigpalhlmaa
