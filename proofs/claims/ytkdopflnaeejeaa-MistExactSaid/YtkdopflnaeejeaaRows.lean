/-
  No cell of these rows narrows 'for every input' (looked for: loops, veiled, ifaces, maps, wideKeys, modest, calm, conditions, laid).
  DERIVED. THE GIVEN ROWS OF THIS SEAT. 4 by the template 'for every input the law returns true; each argument reads behind the call as it read before'; 0 by the template 'total and deterministic' (their statements: YtkdopflnaeejeaaTotals.lean).
  GIVEN WITH THE SEED: the statements are not yours to turn. If you find one false, say at which input.
  Laid BY PROGRAM, IN A SANDBOX (cutbox-rows.mjs): the forced cells as the released guide's own fill.sh prints them over the translation f2ae8c258edba1a9… (all of the seat's roots in one cut). By AI agents, Wed Nov 11 2026. No macro, syntax, notation, axiom, sorry.
-/
import Derived.Test.YtkdopflnaeejeaaChecked
import GoSem.Claim
import GoSem.ClaimJoined
import GoSem.ClaimMapViews
import Derived.JoinedTies
import Derived.KernelRfl
namespace Go.Proofs.Ytkdopflnaeejeaa
/- THE CELL 'sum', in the pinned program and in every row, IS THE sha256 OF THE DUMP (.gsa) THAT YtkdopflnaeejeaaProg.lean LOADS. Nothing in Lean hashes anything: it is a label: what it is worth is what the hold of that sum in a sandbox is worth. -/
noncomputable def Try.pinned : Pinned := { name := "ytkdopflnaeejeaa", sum := "f2ae8c258edba1a93b6901233acbb81d80d249490bab35235b06c4bc146b84dc", checked := Try.checked }
namespace Rows
def none {H : Type} : Left H := { results := [], args := [] }

/-- 'seneschallaw13.MistOrder': WHATEVER THE INPUT: true; the input reads as it did. -/
def mistOrderSpec : ChangeSpec := { name := "mistOrder", fn := fun _ => fun
  | [d1, d2, d3] => { results := [.lit (.bool true)], args := [d1, d2, d3] }
  | _ => none }
def mistOrderRow : OpenClaim := { program := "ytkdopflnaeejeaa", sum := "f2ae8c258edba1a93b6901233acbb81d80d249490bab35235b06c4bc146b84dc", func := "seneschal/seneschallaw13.MistOrder", spec := "mistOrder", unfollowed := true, recurses := true, apart := false }
def MistOrderSaid : Prop := mistOrderRow.holds Try.pinned (OpenSpec.ofChange mistOrderSpec)

/-- ITS FALSE NEIGHBOUR: 'it returns false'. Refute it at one input. -/
def mistOrderWrong : ChangeSpec := { name := "mistOrder", fn := fun _ => fun
  | [d1, d2, d3] => { results := [.lit (.bool false)], args := [d1, d2, d3] }
  | _ => none }
def MistOrderWrongFalsely : Prop := mistOrderRow.holds Try.pinned (OpenSpec.ofChange mistOrderWrong)

/-- 'seneschallaw13.MistApart': WHATEVER THE INPUT: true; the input reads as it did. -/
def mistApartSpec : ChangeSpec := { name := "mistApart", fn := fun _ => fun
  | [d1, d2, d3] => { results := [.lit (.bool true)], args := [d1, d2, d3] }
  | _ => none }
def mistApartRow : OpenClaim := { program := "ytkdopflnaeejeaa", sum := "f2ae8c258edba1a93b6901233acbb81d80d249490bab35235b06c4bc146b84dc", func := "seneschal/seneschallaw13.MistApart", spec := "mistApart", unfollowed := true, recurses := true, apart := false }
def MistApartSaid : Prop := mistApartRow.holds Try.pinned (OpenSpec.ofChange mistApartSpec)

/-- ITS FALSE NEIGHBOUR: 'it returns false'. Refute it at one input. -/
def mistApartWrong : ChangeSpec := { name := "mistApart", fn := fun _ => fun
  | [d1, d2, d3] => { results := [.lit (.bool false)], args := [d1, d2, d3] }
  | _ => none }
def MistApartWrongFalsely : Prop := mistApartRow.holds Try.pinned (OpenSpec.ofChange mistApartWrong)

/-- 'seneschallaw13.MistCounts': WHATEVER THE INPUT: true; the input reads as it did. -/
def mistCountsSpec : ChangeSpec := { name := "mistCounts", fn := fun _ => fun
  | [d] => { results := [.lit (.bool true)], args := [d] }
  | _ => none }
def mistCountsRow : OpenClaim := { program := "ytkdopflnaeejeaa", sum := "f2ae8c258edba1a93b6901233acbb81d80d249490bab35235b06c4bc146b84dc", func := "seneschal/seneschallaw13.MistCounts", spec := "mistCounts", unfollowed := true, recurses := true, apart := false }
def MistCountsSaid : Prop := mistCountsRow.holds Try.pinned (OpenSpec.ofChange mistCountsSpec)

/-- ITS FALSE NEIGHBOUR: 'it returns false'. Refute it at one input. -/
def mistCountsWrong : ChangeSpec := { name := "mistCounts", fn := fun _ => fun
  | [d] => { results := [.lit (.bool false)], args := [d] }
  | _ => none }
def MistCountsWrongFalsely : Prop := mistCountsRow.holds Try.pinned (OpenSpec.ofChange mistCountsWrong)

/-- 'seneschallaw13.MistExact': WHATEVER THE INPUT: true; the input reads as it did. -/
def mistExactSpec : ChangeSpec := { name := "mistExact", fn := fun _ => fun
  | [d] => { results := [.lit (.bool true)], args := [d] }
  | _ => none }
def mistExactRow : OpenClaim := { program := "ytkdopflnaeejeaa", sum := "f2ae8c258edba1a93b6901233acbb81d80d249490bab35235b06c4bc146b84dc", func := "seneschal/seneschallaw13.MistExact", spec := "mistExact", unfollowed := true, recurses := true, apart := false }
def MistExactSaid : Prop := mistExactRow.holds Try.pinned (OpenSpec.ofChange mistExactSpec)

/-- ITS FALSE NEIGHBOUR: 'it returns false'. Refute it at one input. -/
def mistExactWrong : ChangeSpec := { name := "mistExact", fn := fun _ => fun
  | [d] => { results := [.lit (.bool false)], args := [d] }
  | _ => none }
def MistExactWrongFalsely : Prop := mistExactRow.holds Try.pinned (OpenSpec.ofChange mistExactWrong)

/- THE SECOND FORM. 'bulk': how many values and letters a reading holds, each counted each time it is reached (what is shared counts as often as it is met; a slice's spare places count too). A statement '..UptoSaid' is the law's where the arguments, and the package variables that the reading takes, are together of bulk at most 1048576: NARROWER than '..Said'. Prove '..Said' where nothing that the law and all that it calls make is longer than what came in: it says more and counts as full. Else prove '..UptoSaid'. A law counts once. -/
mutual
def uptoBulk {H : Type} : DataW H → Nat
  | .lit (.string bytes) => bytes.length + 1
  | .lit _ => 1
  | .nil => 1
  | .ptr d => uptoBulk d + 1
  | .slice elems spare => uptoBulkAll elems + uptoBulkAll spare + 1
  | .agg parts => uptoBulkAll parts + 1
  | .iface _ d => uptoBulk d + 1
  | .map entries => uptoBulkEntries entries + 1
  | .held _ => 1
def uptoBulkAll {H : Type} : List (DataW H) → Nat
  | [] => 0
  | d :: r => uptoBulk d + uptoBulkAll r
def uptoBulkEntries {H : Type} : List (Lit × DataW H) → Nat
  | [] => 0
  | x :: r => uptoBulkEntry x + uptoBulkEntries r
def uptoBulkEntry {H : Type} : Lit × DataW H → Nat
  | (.string bytes, d) => bytes.length + uptoBulk d + 1
  | (_, d) => uptoBulk d + 1
 end
def uptoSmall : (H : Type) → List (DataW H) → Bool := fun _ ds => decide (uptoBulkAll ds ≤ 1048576)
def OpenSpec.upto (s : _root_.Go.ChangeSpec) : _root_.Go.OpenSpec := { _root_.Go.OpenSpec.ofChange s with cond := some uptoSmall }

/-- 'seneschallaw13.MistOrder', WHERE WHAT IT READS IS OF BULK AT MOST 1048576: true; the input reads as it did. -/
def mistOrderUptoRow : OpenClaim := { program := "ytkdopflnaeejeaa", sum := "f2ae8c258edba1a93b6901233acbb81d80d249490bab35235b06c4bc146b84dc", func := "seneschal/seneschallaw13.MistOrder", spec := "mistOrder", unfollowed := true, recurses := true, apart := false, narrowed := true }
def MistOrderUptoSaid : Prop := mistOrderUptoRow.holds Try.pinned (OpenSpec.upto mistOrderSpec)

/-- 'seneschallaw13.MistApart', WHERE WHAT IT READS IS OF BULK AT MOST 1048576: true; the input reads as it did. -/
def mistApartUptoRow : OpenClaim := { program := "ytkdopflnaeejeaa", sum := "f2ae8c258edba1a93b6901233acbb81d80d249490bab35235b06c4bc146b84dc", func := "seneschal/seneschallaw13.MistApart", spec := "mistApart", unfollowed := true, recurses := true, apart := false, narrowed := true }
def MistApartUptoSaid : Prop := mistApartUptoRow.holds Try.pinned (OpenSpec.upto mistApartSpec)

/-- 'seneschallaw13.MistCounts', WHERE WHAT IT READS IS OF BULK AT MOST 1048576: true; the input reads as it did. -/
def mistCountsUptoRow : OpenClaim := { program := "ytkdopflnaeejeaa", sum := "f2ae8c258edba1a93b6901233acbb81d80d249490bab35235b06c4bc146b84dc", func := "seneschal/seneschallaw13.MistCounts", spec := "mistCounts", unfollowed := true, recurses := true, apart := false, narrowed := true }
def MistCountsUptoSaid : Prop := mistCountsUptoRow.holds Try.pinned (OpenSpec.upto mistCountsSpec)

/-- 'seneschallaw13.MistExact', WHERE WHAT IT READS IS OF BULK AT MOST 1048576: true; the input reads as it did. -/
def mistExactUptoRow : OpenClaim := { program := "ytkdopflnaeejeaa", sum := "f2ae8c258edba1a93b6901233acbb81d80d249490bab35235b06c4bc146b84dc", func := "seneschal/seneschallaw13.MistExact", spec := "mistExact", unfollowed := true, recurses := true, apart := false, narrowed := true }
def MistExactUptoSaid : Prop := mistExactUptoRow.holds Try.pinned (OpenSpec.upto mistExactSpec)

end Rows
end Go.Proofs.Ytkdopflnaeejeaa
