/-
  No cell of these rows narrows 'for every input' (looked for: loops, veiled, ifaces, maps, wideKeys, modest, calm, conditions, laid).
  DERIVED. THE GIVEN ROWS OF THIS SEAT. 6 by the template 'for every input the law returns true; each argument reads behind the call as it read before'; 0 by the template 'total and deterministic' (their statements: YtakdagmkkelnfaaTotals.lean).
  GIVEN WITH THE SEED: the statements are not yours to turn. If you find one false, say at which input.
  Laid BY PROGRAM, IN A SANDBOX (cutbox-rows.mjs): the forced cells as the released guide's own fill.sh prints them over the translation 538f2d4a29a7b04e… (all of the seat's roots in one cut). By AI agents, Wed Nov 11 2026. No macro, syntax, notation, axiom, sorry.
-/
import Derived.Test.YtakdagmkkelnfaaChecked
import GoSem.Claim
import GoSem.ClaimJoined
import GoSem.ClaimMapViews
import Derived.JoinedTies
import Derived.KernelRfl
namespace Go.Proofs.Ytakdagmkkelnfaa
/- THE CELL 'sum', in the pinned program and in every row, IS THE sha256 OF THE DUMP (.gsa) THAT YtakdagmkkelnfaaProg.lean LOADS. Nothing in Lean hashes anything: it is a label: what it is worth is what the hold of that sum in a sandbox is worth. -/
noncomputable def Try.pinned : Pinned := { name := "ytakdagmkkelnfaa", sum := "538f2d4a29a7b04e57099638b558753cf84426639110e804372bae5d5f77c824", checked := Try.checked }
namespace Rows
def none {H : Type} : Left H := { results := [], args := [] }

/-- 'seneschallaw11.NoteForms': WHATEVER THE INPUT: true; the input reads as it did. -/
def noteFormsSpec : ChangeSpec := { name := "noteForms", fn := fun _ => fun
  | [d] => { results := [.lit (.bool true)], args := [d] }
  | _ => none }
def noteFormsRow : OpenClaim := { program := "ytakdagmkkelnfaa", sum := "538f2d4a29a7b04e57099638b558753cf84426639110e804372bae5d5f77c824", func := "seneschal/seneschallaw11.NoteForms", spec := "noteForms", unfollowed := true, recurses := true, apart := false }
def NoteFormsSaid : Prop := noteFormsRow.holds Try.pinned (OpenSpec.ofChange noteFormsSpec)

/-- ITS FALSE NEIGHBOUR: 'it returns false'. Refute it at one input. -/
def noteFormsWrong : ChangeSpec := { name := "noteForms", fn := fun _ => fun
  | [d] => { results := [.lit (.bool false)], args := [d] }
  | _ => none }
def NoteFormsWrongFalsely : Prop := noteFormsRow.holds Try.pinned (OpenSpec.ofChange noteFormsWrong)

/-- 'seneschallaw11.NoteFits': WHATEVER THE INPUT: true; the input reads as it did. -/
def noteFitsSpec : ChangeSpec := { name := "noteFits", fn := fun _ => fun
  | [d] => { results := [.lit (.bool true)], args := [d] }
  | _ => none }
def noteFitsRow : OpenClaim := { program := "ytakdagmkkelnfaa", sum := "538f2d4a29a7b04e57099638b558753cf84426639110e804372bae5d5f77c824", func := "seneschal/seneschallaw11.NoteFits", spec := "noteFits", unfollowed := true, recurses := true, apart := false }
def NoteFitsSaid : Prop := noteFitsRow.holds Try.pinned (OpenSpec.ofChange noteFitsSpec)

/-- ITS FALSE NEIGHBOUR: 'it returns false'. Refute it at one input. -/
def noteFitsWrong : ChangeSpec := { name := "noteFits", fn := fun _ => fun
  | [d] => { results := [.lit (.bool false)], args := [d] }
  | _ => none }
def NoteFitsWrongFalsely : Prop := noteFitsRow.holds Try.pinned (OpenSpec.ofChange noteFitsWrong)

/-- 'seneschallaw11.NoteWrites': WHATEVER THE INPUT: true; the input reads as it did. -/
def noteWritesSpec : ChangeSpec := { name := "noteWrites", fn := fun _ => fun
  | [d] => { results := [.lit (.bool true)], args := [d] }
  | _ => none }
def noteWritesRow : OpenClaim := { program := "ytakdagmkkelnfaa", sum := "538f2d4a29a7b04e57099638b558753cf84426639110e804372bae5d5f77c824", func := "seneschal/seneschallaw11.NoteWrites", spec := "noteWrites", unfollowed := true, recurses := true, apart := false }
def NoteWritesSaid : Prop := noteWritesRow.holds Try.pinned (OpenSpec.ofChange noteWritesSpec)

/-- ITS FALSE NEIGHBOUR: 'it returns false'. Refute it at one input. -/
def noteWritesWrong : ChangeSpec := { name := "noteWrites", fn := fun _ => fun
  | [d] => { results := [.lit (.bool false)], args := [d] }
  | _ => none }
def NoteWritesWrongFalsely : Prop := noteWritesRow.holds Try.pinned (OpenSpec.ofChange noteWritesWrong)

/-- 'seneschallaw11.NoteReads': WHATEVER THE INPUT: true; the input reads as it did. -/
def noteReadsSpec : ChangeSpec := { name := "noteReads", fn := fun _ => fun
  | [d] => { results := [.lit (.bool true)], args := [d] }
  | _ => none }
def noteReadsRow : OpenClaim := { program := "ytakdagmkkelnfaa", sum := "538f2d4a29a7b04e57099638b558753cf84426639110e804372bae5d5f77c824", func := "seneschal/seneschallaw11.NoteReads", spec := "noteReads", unfollowed := true, recurses := true, apart := false }
def NoteReadsSaid : Prop := noteReadsRow.holds Try.pinned (OpenSpec.ofChange noteReadsSpec)

/-- ITS FALSE NEIGHBOUR: 'it returns false'. Refute it at one input. -/
def noteReadsWrong : ChangeSpec := { name := "noteReads", fn := fun _ => fun
  | [d] => { results := [.lit (.bool false)], args := [d] }
  | _ => none }
def NoteReadsWrongFalsely : Prop := noteReadsRow.holds Try.pinned (OpenSpec.ofChange noteReadsWrong)

/-- 'seneschallaw11.NoteBack': WHATEVER THE INPUT: true; the input reads as it did. -/
def noteBackSpec : ChangeSpec := { name := "noteBack", fn := fun _ => fun
  | [d1, d2, d3] => { results := [.lit (.bool true)], args := [d1, d2, d3] }
  | _ => none }
def noteBackRow : OpenClaim := { program := "ytakdagmkkelnfaa", sum := "538f2d4a29a7b04e57099638b558753cf84426639110e804372bae5d5f77c824", func := "seneschal/seneschallaw11.NoteBack", spec := "noteBack", unfollowed := true, recurses := true, apart := false }
def NoteBackSaid : Prop := noteBackRow.holds Try.pinned (OpenSpec.ofChange noteBackSpec)

/-- ITS FALSE NEIGHBOUR: 'it returns false'. Refute it at one input. -/
def noteBackWrong : ChangeSpec := { name := "noteBack", fn := fun _ => fun
  | [d1, d2, d3] => { results := [.lit (.bool false)], args := [d1, d2, d3] }
  | _ => none }
def NoteBackWrongFalsely : Prop := noteBackRow.holds Try.pinned (OpenSpec.ofChange noteBackWrong)

/-- 'seneschallaw11.NoteTells': WHATEVER THE INPUT: true; the input reads as it did. -/
def noteTellsSpec : ChangeSpec := { name := "noteTells", fn := fun _ => fun
  | [d1, d2, d3] => { results := [.lit (.bool true)], args := [d1, d2, d3] }
  | _ => none }
def noteTellsRow : OpenClaim := { program := "ytakdagmkkelnfaa", sum := "538f2d4a29a7b04e57099638b558753cf84426639110e804372bae5d5f77c824", func := "seneschal/seneschallaw11.NoteTells", spec := "noteTells", unfollowed := true, recurses := true, apart := false }
def NoteTellsSaid : Prop := noteTellsRow.holds Try.pinned (OpenSpec.ofChange noteTellsSpec)

/-- ITS FALSE NEIGHBOUR: 'it returns false'. Refute it at one input. -/
def noteTellsWrong : ChangeSpec := { name := "noteTells", fn := fun _ => fun
  | [d1, d2, d3] => { results := [.lit (.bool false)], args := [d1, d2, d3] }
  | _ => none }
def NoteTellsWrongFalsely : Prop := noteTellsRow.holds Try.pinned (OpenSpec.ofChange noteTellsWrong)

/- THE SECOND FORM. 'bulk': how many values and letters a reading holds, each counted each time it is reached (what is shared counts as often as it is met; a slice's spare places count too). A statement '..UptoSaid' is the law's where the arguments, and the package variables that the reading takes, are together of bulk at most 1048576: NARROWER than '..Said'. Prove '..Said' where nothing that the law and all that it calls make is longer than what came in: it says more and counts as full. Else prove '..UptoSaid'. A law counts once. -/
mutual
def uptoBulk {H : Type} : DataW H → Nat
  | .lit (.string bytes) => bytes.length + 1
  | .lit _ => 1
  | .nil => 1
  | .ptr d => uptoBulk d + 1
  | .slice elems spare => uptoBulkAll elems + uptoBulkAll spare + 1
  | .agg parts => uptoBulkAll parts + 1
  | .iface _ d => uptoBulk d + 1
  | .map entries => uptoBulkEntries entries + 1
  | .held _ => 1
def uptoBulkAll {H : Type} : List (DataW H) → Nat
  | [] => 0
  | d :: r => uptoBulk d + uptoBulkAll r
def uptoBulkEntries {H : Type} : List (Lit × DataW H) → Nat
  | [] => 0
  | x :: r => uptoBulkEntry x + uptoBulkEntries r
def uptoBulkEntry {H : Type} : Lit × DataW H → Nat
  | (.string bytes, d) => bytes.length + uptoBulk d + 1
  | (_, d) => uptoBulk d + 1
 end
def uptoSmall : (H : Type) → List (DataW H) → Bool := fun _ ds => decide (uptoBulkAll ds ≤ 1048576)
def OpenSpec.upto (s : _root_.Go.ChangeSpec) : _root_.Go.OpenSpec := { _root_.Go.OpenSpec.ofChange s with cond := some uptoSmall }

/-- 'seneschallaw11.NoteForms', WHERE WHAT IT READS IS OF BULK AT MOST 1048576: true; the input reads as it did. -/
def noteFormsUptoRow : OpenClaim := { program := "ytakdagmkkelnfaa", sum := "538f2d4a29a7b04e57099638b558753cf84426639110e804372bae5d5f77c824", func := "seneschal/seneschallaw11.NoteForms", spec := "noteForms", unfollowed := true, recurses := true, apart := false, narrowed := true }
def NoteFormsUptoSaid : Prop := noteFormsUptoRow.holds Try.pinned (OpenSpec.upto noteFormsSpec)

/-- 'seneschallaw11.NoteFits', WHERE WHAT IT READS IS OF BULK AT MOST 1048576: true; the input reads as it did. -/
def noteFitsUptoRow : OpenClaim := { program := "ytakdagmkkelnfaa", sum := "538f2d4a29a7b04e57099638b558753cf84426639110e804372bae5d5f77c824", func := "seneschal/seneschallaw11.NoteFits", spec := "noteFits", unfollowed := true, recurses := true, apart := false, narrowed := true }
def NoteFitsUptoSaid : Prop := noteFitsUptoRow.holds Try.pinned (OpenSpec.upto noteFitsSpec)

/-- 'seneschallaw11.NoteWrites', WHERE WHAT IT READS IS OF BULK AT MOST 1048576: true; the input reads as it did. -/
def noteWritesUptoRow : OpenClaim := { program := "ytakdagmkkelnfaa", sum := "538f2d4a29a7b04e57099638b558753cf84426639110e804372bae5d5f77c824", func := "seneschal/seneschallaw11.NoteWrites", spec := "noteWrites", unfollowed := true, recurses := true, apart := false, narrowed := true }
def NoteWritesUptoSaid : Prop := noteWritesUptoRow.holds Try.pinned (OpenSpec.upto noteWritesSpec)

/-- 'seneschallaw11.NoteReads', WHERE WHAT IT READS IS OF BULK AT MOST 1048576: true; the input reads as it did. -/
def noteReadsUptoRow : OpenClaim := { program := "ytakdagmkkelnfaa", sum := "538f2d4a29a7b04e57099638b558753cf84426639110e804372bae5d5f77c824", func := "seneschal/seneschallaw11.NoteReads", spec := "noteReads", unfollowed := true, recurses := true, apart := false, narrowed := true }
def NoteReadsUptoSaid : Prop := noteReadsUptoRow.holds Try.pinned (OpenSpec.upto noteReadsSpec)

/-- 'seneschallaw11.NoteBack', WHERE WHAT IT READS IS OF BULK AT MOST 1048576: true; the input reads as it did. -/
def noteBackUptoRow : OpenClaim := { program := "ytakdagmkkelnfaa", sum := "538f2d4a29a7b04e57099638b558753cf84426639110e804372bae5d5f77c824", func := "seneschal/seneschallaw11.NoteBack", spec := "noteBack", unfollowed := true, recurses := true, apart := false, narrowed := true }
def NoteBackUptoSaid : Prop := noteBackUptoRow.holds Try.pinned (OpenSpec.upto noteBackSpec)

/-- 'seneschallaw11.NoteTells', WHERE WHAT IT READS IS OF BULK AT MOST 1048576: true; the input reads as it did. -/
def noteTellsUptoRow : OpenClaim := { program := "ytakdagmkkelnfaa", sum := "538f2d4a29a7b04e57099638b558753cf84426639110e804372bae5d5f77c824", func := "seneschal/seneschallaw11.NoteTells", spec := "noteTells", unfollowed := true, recurses := true, apart := false, narrowed := true }
def NoteTellsUptoSaid : Prop := noteTellsUptoRow.holds Try.pinned (OpenSpec.upto noteTellsSpec)

end Rows
end Go.Proofs.Ytakdagmkkelnfaa
