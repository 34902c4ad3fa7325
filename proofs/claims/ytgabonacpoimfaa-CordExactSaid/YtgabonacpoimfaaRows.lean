/-
  No cell of these rows narrows 'for every input' (looked for: loops, veiled, ifaces, maps, wideKeys, modest, calm, conditions, laid).
  DERIVED. THE GIVEN ROWS OF THIS SEAT. 5 by the template 'for every input the law returns true; each argument reads behind the call as it read before'; 0 by the template 'total and deterministic' (their statements: YtgabonacpoimfaaTotals.lean).
  GIVEN WITH THE SEED: the statements are not yours to turn. If you find one false, say at which input.
  Laid BY PROGRAM, IN A SANDBOX (cutbox-rows.mjs): the forced cells as the released guide's own fill.sh prints them over the translation 6908b3b79810f2e1… (all of the seat's roots in one cut). By AI agents, Wed Nov 11 2026. No macro, syntax, notation, axiom, sorry.
-/
import Derived.Test.YtgabonacpoimfaaChecked
import GoSem.Claim
import GoSem.ClaimJoined
import GoSem.ClaimMapViews
import Derived.JoinedTies
import Derived.KernelRfl
namespace Go.Proofs.Ytgabonacpoimfaa
/- THE CELL 'sum', in the pinned program and in every row, IS THE sha256 OF THE DUMP (.gsa) THAT YtgabonacpoimfaaProg.lean LOADS. Nothing in Lean hashes anything: it is a label: what it is worth is what the hold of that sum in a sandbox is worth. -/
noncomputable def Try.pinned : Pinned := { name := "ytgabonacpoimfaa", sum := "6908b3b79810f2e191e5523e70cfc593899ebd1157f18e92f3d78da49c8d5317", checked := Try.checked }
namespace Rows
def none {H : Type} : Left H := { results := [], args := [] }

/-- 'seneschallaw12.CordExact': WHATEVER THE INPUT: true; the input reads as it did. -/
def cordExactSpec : ChangeSpec := { name := "cordExact", fn := fun _ => fun
  | [d1, d2] => { results := [.lit (.bool true)], args := [d1, d2] }
  | _ => none }
def cordExactRow : OpenClaim := { program := "ytgabonacpoimfaa", sum := "6908b3b79810f2e191e5523e70cfc593899ebd1157f18e92f3d78da49c8d5317", func := "seneschal/seneschallaw12.CordExact", spec := "cordExact", apart := false }
def CordExactSaid : Prop := cordExactRow.holds Try.pinned (OpenSpec.ofChange cordExactSpec)

/-- ITS FALSE NEIGHBOUR: 'it returns false'. Refute it at one input. -/
def cordExactWrong : ChangeSpec := { name := "cordExact", fn := fun _ => fun
  | [d1, d2] => { results := [.lit (.bool false)], args := [d1, d2] }
  | _ => none }
def CordExactWrongFalsely : Prop := cordExactRow.holds Try.pinned (OpenSpec.ofChange cordExactWrong)

/-- 'seneschallaw12.CordOrder': WHATEVER THE INPUT: true; the input reads as it did. -/
def cordOrderSpec : ChangeSpec := { name := "cordOrder", fn := fun _ => fun
  | [d1, d2] => { results := [.lit (.bool true)], args := [d1, d2] }
  | _ => none }
def cordOrderRow : OpenClaim := { program := "ytgabonacpoimfaa", sum := "6908b3b79810f2e191e5523e70cfc593899ebd1157f18e92f3d78da49c8d5317", func := "seneschal/seneschallaw12.CordOrder", spec := "cordOrder", apart := false }
def CordOrderSaid : Prop := cordOrderRow.holds Try.pinned (OpenSpec.ofChange cordOrderSpec)

/-- ITS FALSE NEIGHBOUR: 'it returns false'. Refute it at one input. -/
def cordOrderWrong : ChangeSpec := { name := "cordOrder", fn := fun _ => fun
  | [d1, d2] => { results := [.lit (.bool false)], args := [d1, d2] }
  | _ => none }
def CordOrderWrongFalsely : Prop := cordOrderRow.holds Try.pinned (OpenSpec.ofChange cordOrderWrong)

/-- 'seneschallaw12.CordComes': WHATEVER THE INPUT: true; the input reads as it did. -/
def cordComesSpec : ChangeSpec := { name := "cordComes", fn := fun _ => fun
  | [d1, d2] => { results := [.lit (.bool true)], args := [d1, d2] }
  | _ => none }
def cordComesRow : OpenClaim := { program := "ytgabonacpoimfaa", sum := "6908b3b79810f2e191e5523e70cfc593899ebd1157f18e92f3d78da49c8d5317", func := "seneschal/seneschallaw12.CordComes", spec := "cordComes", apart := false }
def CordComesSaid : Prop := cordComesRow.holds Try.pinned (OpenSpec.ofChange cordComesSpec)

/-- ITS FALSE NEIGHBOUR: 'it returns false'. Refute it at one input. -/
def cordComesWrong : ChangeSpec := { name := "cordComes", fn := fun _ => fun
  | [d1, d2] => { results := [.lit (.bool false)], args := [d1, d2] }
  | _ => none }
def CordComesWrongFalsely : Prop := cordComesRow.holds Try.pinned (OpenSpec.ofChange cordComesWrong)

/-- 'seneschallaw12.CordOld': WHATEVER THE INPUT: true; the input reads as it did. -/
def cordOldSpec : ChangeSpec := { name := "cordOld", fn := fun _ => fun
  | [d1, d2, d3] => { results := [.lit (.bool true)], args := [d1, d2, d3] }
  | _ => none }
def cordOldRow : OpenClaim := { program := "ytgabonacpoimfaa", sum := "6908b3b79810f2e191e5523e70cfc593899ebd1157f18e92f3d78da49c8d5317", func := "seneschal/seneschallaw12.CordOld", spec := "cordOld", apart := false }
def CordOldSaid : Prop := cordOldRow.holds Try.pinned (OpenSpec.ofChange cordOldSpec)

/-- ITS FALSE NEIGHBOUR: 'it returns false'. Refute it at one input. -/
def cordOldWrong : ChangeSpec := { name := "cordOld", fn := fun _ => fun
  | [d1, d2, d3] => { results := [.lit (.bool false)], args := [d1, d2, d3] }
  | _ => none }
def CordOldWrongFalsely : Prop := cordOldRow.holds Try.pinned (OpenSpec.ofChange cordOldWrong)

/-- 'seneschallaw12.CordFull': WHATEVER THE INPUT: true; the input reads as it did. -/
def cordFullSpec : ChangeSpec := { name := "cordFull", fn := fun _ => fun
  | [d] => { results := [.lit (.bool true)], args := [d] }
  | _ => none }
def cordFullRow : OpenClaim := { program := "ytgabonacpoimfaa", sum := "6908b3b79810f2e191e5523e70cfc593899ebd1157f18e92f3d78da49c8d5317", func := "seneschal/seneschallaw12.CordFull", spec := "cordFull", apart := false }
def CordFullSaid : Prop := cordFullRow.holds Try.pinned (OpenSpec.ofChange cordFullSpec)

/-- ITS FALSE NEIGHBOUR: 'it returns false'. Refute it at one input. -/
def cordFullWrong : ChangeSpec := { name := "cordFull", fn := fun _ => fun
  | [d] => { results := [.lit (.bool false)], args := [d] }
  | _ => none }
def CordFullWrongFalsely : Prop := cordFullRow.holds Try.pinned (OpenSpec.ofChange cordFullWrong)

/- THE SECOND FORM. 'bulk': how many values and letters a reading holds, each counted each time it is reached (what is shared counts as often as it is met; a slice's spare places count too). A statement '..UptoSaid' is the law's where the arguments, and the package variables that the reading takes, are together of bulk at most 1048576: NARROWER than '..Said'. Prove '..Said' where nothing that the law and all that it calls make is longer than what came in: it says more and counts as full. Else prove '..UptoSaid'. A law counts once. -/
mutual
def uptoBulk {H : Type} : DataW H → Nat
  | .lit (.string bytes) => bytes.length + 1
  | .lit _ => 1
  | .nil => 1
  | .ptr d => uptoBulk d + 1
  | .slice elems spare => uptoBulkAll elems + uptoBulkAll spare + 1
  | .agg parts => uptoBulkAll parts + 1
  | .iface _ d => uptoBulk d + 1
  | .map entries => uptoBulkEntries entries + 1
  | .held _ => 1
def uptoBulkAll {H : Type} : List (DataW H) → Nat
  | [] => 0
  | d :: r => uptoBulk d + uptoBulkAll r
def uptoBulkEntries {H : Type} : List (Lit × DataW H) → Nat
  | [] => 0
  | x :: r => uptoBulkEntry x + uptoBulkEntries r
def uptoBulkEntry {H : Type} : Lit × DataW H → Nat
  | (.string bytes, d) => bytes.length + uptoBulk d + 1
  | (_, d) => uptoBulk d + 1
 end
def uptoSmall : (H : Type) → List (DataW H) → Bool := fun _ ds => decide (uptoBulkAll ds ≤ 1048576)
def OpenSpec.upto (s : _root_.Go.ChangeSpec) : _root_.Go.OpenSpec := { _root_.Go.OpenSpec.ofChange s with cond := some uptoSmall }

/-- 'seneschallaw12.CordExact', WHERE WHAT IT READS IS OF BULK AT MOST 1048576: true; the input reads as it did. -/
def cordExactUptoRow : OpenClaim := { program := "ytgabonacpoimfaa", sum := "6908b3b79810f2e191e5523e70cfc593899ebd1157f18e92f3d78da49c8d5317", func := "seneschal/seneschallaw12.CordExact", spec := "cordExact", apart := false, narrowed := true }
def CordExactUptoSaid : Prop := cordExactUptoRow.holds Try.pinned (OpenSpec.upto cordExactSpec)

/-- 'seneschallaw12.CordOrder', WHERE WHAT IT READS IS OF BULK AT MOST 1048576: true; the input reads as it did. -/
def cordOrderUptoRow : OpenClaim := { program := "ytgabonacpoimfaa", sum := "6908b3b79810f2e191e5523e70cfc593899ebd1157f18e92f3d78da49c8d5317", func := "seneschal/seneschallaw12.CordOrder", spec := "cordOrder", apart := false, narrowed := true }
def CordOrderUptoSaid : Prop := cordOrderUptoRow.holds Try.pinned (OpenSpec.upto cordOrderSpec)

/-- 'seneschallaw12.CordComes', WHERE WHAT IT READS IS OF BULK AT MOST 1048576: true; the input reads as it did. -/
def cordComesUptoRow : OpenClaim := { program := "ytgabonacpoimfaa", sum := "6908b3b79810f2e191e5523e70cfc593899ebd1157f18e92f3d78da49c8d5317", func := "seneschal/seneschallaw12.CordComes", spec := "cordComes", apart := false, narrowed := true }
def CordComesUptoSaid : Prop := cordComesUptoRow.holds Try.pinned (OpenSpec.upto cordComesSpec)

/-- 'seneschallaw12.CordOld', WHERE WHAT IT READS IS OF BULK AT MOST 1048576: true; the input reads as it did. -/
def cordOldUptoRow : OpenClaim := { program := "ytgabonacpoimfaa", sum := "6908b3b79810f2e191e5523e70cfc593899ebd1157f18e92f3d78da49c8d5317", func := "seneschal/seneschallaw12.CordOld", spec := "cordOld", apart := false, narrowed := true }
def CordOldUptoSaid : Prop := cordOldUptoRow.holds Try.pinned (OpenSpec.upto cordOldSpec)

/-- 'seneschallaw12.CordFull', WHERE WHAT IT READS IS OF BULK AT MOST 1048576: true; the input reads as it did. -/
def cordFullUptoRow : OpenClaim := { program := "ytgabonacpoimfaa", sum := "6908b3b79810f2e191e5523e70cfc593899ebd1157f18e92f3d78da49c8d5317", func := "seneschal/seneschallaw12.CordFull", spec := "cordFull", apart := false, narrowed := true }
def CordFullUptoSaid : Prop := cordFullUptoRow.holds Try.pinned (OpenSpec.upto cordFullSpec)

end Rows
end Go.Proofs.Ytgabonacpoimfaa
