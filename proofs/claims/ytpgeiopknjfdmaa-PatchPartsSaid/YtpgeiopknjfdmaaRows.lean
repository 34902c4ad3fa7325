/-
  No cell of these rows narrows 'for every input' (looked for: loops, veiled, ifaces, maps, wideKeys, modest, calm, conditions, laid).
  DERIVED. THE GIVEN ROWS OF THIS SEAT. 6 by the template 'for every input the law returns true; each argument reads behind the call as it read before'; 0 by the template 'total and deterministic' (their statements: YtpgeiopknjfdmaaTotals.lean).
  GIVEN WITH THE SEED: the statements are not yours to turn. If you find one false, say at which input.
  Laid BY PROGRAM, IN A SANDBOX (cutbox-rows.mjs): the forced cells as the released guide's own fill.sh prints them over the translation c5951da349659fee… (all of the seat's roots in one cut). By AI agents, Wed Nov 11 2026. No macro, syntax, notation, axiom, sorry.
-/
import Derived.Test.YtpgeiopknjfdmaaChecked
import GoSem.Claim
import GoSem.ClaimJoined
import GoSem.ClaimMapViews
import Derived.JoinedTies
import Derived.KernelRfl
namespace Go.Proofs.Ytpgeiopknjfdmaa
/- THE CELL 'sum', in the pinned program and in every row, IS THE sha256 OF THE DUMP (.gsa) THAT YtpgeiopknjfdmaaProg.lean LOADS. Nothing in Lean hashes anything: it is a label: what it is worth is what the hold of that sum in a sandbox is worth. -/
noncomputable def Try.pinned : Pinned := { name := "ytpgeiopknjfdmaa", sum := "c5951da349659feeb71096c5e6db79913dc545b5b488a243b3ce13c9ae92e097", checked := Try.checked }
namespace Rows
def none {H : Type} : Left H := { results := [], args := [] }

/-- 'seneschallaw05.PatchDoes': WHATEVER THE INPUT: true; the input reads as it did. -/
def patchDoesSpec : ChangeSpec := { name := "patchDoes", fn := fun _ => fun
  | [d1, d2, d3] => { results := [.lit (.bool true)], args := [d1, d2, d3] }
  | _ => none }
def patchDoesRow : OpenClaim := { program := "ytpgeiopknjfdmaa", sum := "c5951da349659feeb71096c5e6db79913dc545b5b488a243b3ce13c9ae92e097", func := "seneschal/seneschallaw05.PatchDoes", spec := "patchDoes", unfollowed := true, recurses := true, apart := false }
def PatchDoesSaid : Prop := patchDoesRow.holds Try.pinned (OpenSpec.ofChange patchDoesSpec)

/-- ITS FALSE NEIGHBOUR: 'it returns false'. Refute it at one input. -/
def patchDoesWrong : ChangeSpec := { name := "patchDoes", fn := fun _ => fun
  | [d1, d2, d3] => { results := [.lit (.bool false)], args := [d1, d2, d3] }
  | _ => none }
def PatchDoesWrongFalsely : Prop := patchDoesRow.holds Try.pinned (OpenSpec.ofChange patchDoesWrong)

/-- 'seneschallaw05.PatchAll': WHATEVER THE INPUT: true; the input reads as it did. -/
def patchAllSpec : ChangeSpec := { name := "patchAll", fn := fun _ => fun
  | [d1, d2, d3] => { results := [.lit (.bool true)], args := [d1, d2, d3] }
  | _ => none }
def patchAllRow : OpenClaim := { program := "ytpgeiopknjfdmaa", sum := "c5951da349659feeb71096c5e6db79913dc545b5b488a243b3ce13c9ae92e097", func := "seneschal/seneschallaw05.PatchAll", spec := "patchAll", unfollowed := true, recurses := true, apart := false }
def PatchAllSaid : Prop := patchAllRow.holds Try.pinned (OpenSpec.ofChange patchAllSpec)

/-- ITS FALSE NEIGHBOUR: 'it returns false'. Refute it at one input. -/
def patchAllWrong : ChangeSpec := { name := "patchAll", fn := fun _ => fun
  | [d1, d2, d3] => { results := [.lit (.bool false)], args := [d1, d2, d3] }
  | _ => none }
def PatchAllWrongFalsely : Prop := patchAllRow.holds Try.pinned (OpenSpec.ofChange patchAllWrong)

/-- 'seneschallaw05.PatchOnce': WHATEVER THE INPUT: true; the input reads as it did. -/
def patchOnceSpec : ChangeSpec := { name := "patchOnce", fn := fun _ => fun
  | [d1, d2, d3] => { results := [.lit (.bool true)], args := [d1, d2, d3] }
  | _ => none }
def patchOnceRow : OpenClaim := { program := "ytpgeiopknjfdmaa", sum := "c5951da349659feeb71096c5e6db79913dc545b5b488a243b3ce13c9ae92e097", func := "seneschal/seneschallaw05.PatchOnce", spec := "patchOnce", unfollowed := true, recurses := true, apart := false }
def PatchOnceSaid : Prop := patchOnceRow.holds Try.pinned (OpenSpec.ofChange patchOnceSpec)

/-- ITS FALSE NEIGHBOUR: 'it returns false'. Refute it at one input. -/
def patchOnceWrong : ChangeSpec := { name := "patchOnce", fn := fun _ => fun
  | [d1, d2, d3] => { results := [.lit (.bool false)], args := [d1, d2, d3] }
  | _ => none }
def PatchOnceWrongFalsely : Prop := patchOnceRow.holds Try.pinned (OpenSpec.ofChange patchOnceWrong)

/-- 'seneschallaw05.PatchTurns': WHATEVER THE INPUT: true; the input reads as it did. -/
def patchTurnsSpec : ChangeSpec := { name := "patchTurns", fn := fun _ => fun
  | [d1, d2, d3] => { results := [.lit (.bool true)], args := [d1, d2, d3] }
  | _ => none }
def patchTurnsRow : OpenClaim := { program := "ytpgeiopknjfdmaa", sum := "c5951da349659feeb71096c5e6db79913dc545b5b488a243b3ce13c9ae92e097", func := "seneschal/seneschallaw05.PatchTurns", spec := "patchTurns", unfollowed := true, recurses := true, apart := false }
def PatchTurnsSaid : Prop := patchTurnsRow.holds Try.pinned (OpenSpec.ofChange patchTurnsSpec)

/-- ITS FALSE NEIGHBOUR: 'it returns false'. Refute it at one input. -/
def patchTurnsWrong : ChangeSpec := { name := "patchTurns", fn := fun _ => fun
  | [d1, d2, d3] => { results := [.lit (.bool false)], args := [d1, d2, d3] }
  | _ => none }
def PatchTurnsWrongFalsely : Prop := patchTurnsRow.holds Try.pinned (OpenSpec.ofChange patchTurnsWrong)

/-- 'seneschallaw05.PatchParts': WHATEVER THE INPUT: true; the input reads as it did. -/
def patchPartsSpec : ChangeSpec := { name := "patchParts", fn := fun _ => fun
  | [d1, d2, d3] => { results := [.lit (.bool true)], args := [d1, d2, d3] }
  | _ => none }
def patchPartsRow : OpenClaim := { program := "ytpgeiopknjfdmaa", sum := "c5951da349659feeb71096c5e6db79913dc545b5b488a243b3ce13c9ae92e097", func := "seneschal/seneschallaw05.PatchParts", spec := "patchParts", unfollowed := true, recurses := true, apart := false }
def PatchPartsSaid : Prop := patchPartsRow.holds Try.pinned (OpenSpec.ofChange patchPartsSpec)

/-- ITS FALSE NEIGHBOUR: 'it returns false'. Refute it at one input. -/
def patchPartsWrong : ChangeSpec := { name := "patchParts", fn := fun _ => fun
  | [d1, d2, d3] => { results := [.lit (.bool false)], args := [d1, d2, d3] }
  | _ => none }
def PatchPartsWrongFalsely : Prop := patchPartsRow.holds Try.pinned (OpenSpec.ofChange patchPartsWrong)

/-- 'seneschallaw05.PatchApart': WHATEVER THE INPUT: true; the input reads as it did. -/
def patchApartSpec : ChangeSpec := { name := "patchApart", fn := fun _ => fun
  | [d1, d2] => { results := [.lit (.bool true)], args := [d1, d2] }
  | _ => none }
def patchApartRow : OpenClaim := { program := "ytpgeiopknjfdmaa", sum := "c5951da349659feeb71096c5e6db79913dc545b5b488a243b3ce13c9ae92e097", func := "seneschal/seneschallaw05.PatchApart", spec := "patchApart", unfollowed := true, recurses := true, apart := false }
def PatchApartSaid : Prop := patchApartRow.holds Try.pinned (OpenSpec.ofChange patchApartSpec)

/-- ITS FALSE NEIGHBOUR: 'it returns false'. Refute it at one input. -/
def patchApartWrong : ChangeSpec := { name := "patchApart", fn := fun _ => fun
  | [d1, d2] => { results := [.lit (.bool false)], args := [d1, d2] }
  | _ => none }
def PatchApartWrongFalsely : Prop := patchApartRow.holds Try.pinned (OpenSpec.ofChange patchApartWrong)

/- THE SECOND FORM. 'bulk': how many values and letters a reading holds, each counted each time it is reached (what is shared counts as often as it is met; a slice's spare places count too). A statement '..UptoSaid' is the law's where the arguments, and the package variables that the reading takes, are together of bulk at most 1048576: NARROWER than '..Said'. Prove '..Said' where nothing that the law and all that it calls make is longer than what came in: it says more and counts as full. Else prove '..UptoSaid'. A law counts once. -/
mutual
def uptoBulk {H : Type} : DataW H → Nat
  | .lit (.string bytes) => bytes.length + 1
  | .lit _ => 1
  | .nil => 1
  | .ptr d => uptoBulk d + 1
  | .slice elems spare => uptoBulkAll elems + uptoBulkAll spare + 1
  | .agg parts => uptoBulkAll parts + 1
  | .iface _ d => uptoBulk d + 1
  | .map entries => uptoBulkEntries entries + 1
  | .held _ => 1
def uptoBulkAll {H : Type} : List (DataW H) → Nat
  | [] => 0
  | d :: r => uptoBulk d + uptoBulkAll r
def uptoBulkEntries {H : Type} : List (Lit × DataW H) → Nat
  | [] => 0
  | x :: r => uptoBulkEntry x + uptoBulkEntries r
def uptoBulkEntry {H : Type} : Lit × DataW H → Nat
  | (.string bytes, d) => bytes.length + uptoBulk d + 1
  | (_, d) => uptoBulk d + 1
 end
def uptoSmall : (H : Type) → List (DataW H) → Bool := fun _ ds => decide (uptoBulkAll ds ≤ 1048576)
def OpenSpec.upto (s : _root_.Go.ChangeSpec) : _root_.Go.OpenSpec := { _root_.Go.OpenSpec.ofChange s with cond := some uptoSmall }

/-- 'seneschallaw05.PatchDoes', WHERE WHAT IT READS IS OF BULK AT MOST 1048576: true; the input reads as it did. -/
def patchDoesUptoRow : OpenClaim := { program := "ytpgeiopknjfdmaa", sum := "c5951da349659feeb71096c5e6db79913dc545b5b488a243b3ce13c9ae92e097", func := "seneschal/seneschallaw05.PatchDoes", spec := "patchDoes", unfollowed := true, recurses := true, apart := false, narrowed := true }
def PatchDoesUptoSaid : Prop := patchDoesUptoRow.holds Try.pinned (OpenSpec.upto patchDoesSpec)

/-- 'seneschallaw05.PatchAll', WHERE WHAT IT READS IS OF BULK AT MOST 1048576: true; the input reads as it did. -/
def patchAllUptoRow : OpenClaim := { program := "ytpgeiopknjfdmaa", sum := "c5951da349659feeb71096c5e6db79913dc545b5b488a243b3ce13c9ae92e097", func := "seneschal/seneschallaw05.PatchAll", spec := "patchAll", unfollowed := true, recurses := true, apart := false, narrowed := true }
def PatchAllUptoSaid : Prop := patchAllUptoRow.holds Try.pinned (OpenSpec.upto patchAllSpec)

/-- 'seneschallaw05.PatchOnce', WHERE WHAT IT READS IS OF BULK AT MOST 1048576: true; the input reads as it did. -/
def patchOnceUptoRow : OpenClaim := { program := "ytpgeiopknjfdmaa", sum := "c5951da349659feeb71096c5e6db79913dc545b5b488a243b3ce13c9ae92e097", func := "seneschal/seneschallaw05.PatchOnce", spec := "patchOnce", unfollowed := true, recurses := true, apart := false, narrowed := true }
def PatchOnceUptoSaid : Prop := patchOnceUptoRow.holds Try.pinned (OpenSpec.upto patchOnceSpec)

/-- 'seneschallaw05.PatchTurns', WHERE WHAT IT READS IS OF BULK AT MOST 1048576: true; the input reads as it did. -/
def patchTurnsUptoRow : OpenClaim := { program := "ytpgeiopknjfdmaa", sum := "c5951da349659feeb71096c5e6db79913dc545b5b488a243b3ce13c9ae92e097", func := "seneschal/seneschallaw05.PatchTurns", spec := "patchTurns", unfollowed := true, recurses := true, apart := false, narrowed := true }
def PatchTurnsUptoSaid : Prop := patchTurnsUptoRow.holds Try.pinned (OpenSpec.upto patchTurnsSpec)

/-- 'seneschallaw05.PatchParts', WHERE WHAT IT READS IS OF BULK AT MOST 1048576: true; the input reads as it did. -/
def patchPartsUptoRow : OpenClaim := { program := "ytpgeiopknjfdmaa", sum := "c5951da349659feeb71096c5e6db79913dc545b5b488a243b3ce13c9ae92e097", func := "seneschal/seneschallaw05.PatchParts", spec := "patchParts", unfollowed := true, recurses := true, apart := false, narrowed := true }
def PatchPartsUptoSaid : Prop := patchPartsUptoRow.holds Try.pinned (OpenSpec.upto patchPartsSpec)

/-- 'seneschallaw05.PatchApart', WHERE WHAT IT READS IS OF BULK AT MOST 1048576: true; the input reads as it did. -/
def patchApartUptoRow : OpenClaim := { program := "ytpgeiopknjfdmaa", sum := "c5951da349659feeb71096c5e6db79913dc545b5b488a243b3ce13c9ae92e097", func := "seneschal/seneschallaw05.PatchApart", spec := "patchApart", unfollowed := true, recurses := true, apart := false, narrowed := true }
def PatchApartUptoSaid : Prop := patchApartUptoRow.holds Try.pinned (OpenSpec.upto patchApartSpec)

end Rows
end Go.Proofs.Ytpgeiopknjfdmaa
