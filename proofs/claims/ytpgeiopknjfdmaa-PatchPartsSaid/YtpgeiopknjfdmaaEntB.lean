/-
  Slots and names: which can be; the plain entry.
-/
import Derived.Test.YtpgeiopknjfdmaaEntA
import Derived.Lib.QuietBelow
import Derived.Laws.Rows
namespace Go.Proofs.Ytpgeiopknjfdmaa
open Go.RowKit Go.Sort

/-- Whether a slot can be. -/
def slotB (u : Bool) (d : ByteArray) : Bool := decide (d.size ≤ 200) && (u || d.toList.isEmpty)
theorem isSlot_any (u : Bool) (d : ByteArray) (hd : d.size ≤ 9223372036854775807) (w : World) :
    Calls Try.prog 34 #[.agg #[.bool u, .string d]] w fun r w' => r = .returned (.bool (slotB u d)) ∧ Below w.heap.size w w' := by
  unfold slotB
  by_cases h1 : d.size ≤ 200 <;> cases u <;>
  · go_enter Try.func34, Try.ntmps34
    go_wp2_with fail
    go_ret
    refine ⟨?_, bnew _ _⟩
    simp [h1]
theorem refSlot_any (u : Bool) (d : ByteArray) (hd : d.size ≤ 9223372036854775807) (w : World) :
    Calls Try.prog 38 #[.agg #[.bool u, .string d]] w fun r w' => r = .returned (.bool (slotB u d)) ∧ Below w.heap.size w w' := by
  unfold slotB
  by_cases h1 : d.size ≤ 200 <;> cases u <;>
  · go_enter Try.func38, Try.ntmps38
    go_wp2_with fail
    go_ret
    refine ⟨?_, bnew _ _⟩
    simp [h1]
theorem refKnown_any (c e n : Int) (w : World) :
    Calls Try.prog 37 #[.agg #[.int .i64 c, .int .i64 e, .int .i64 n]] w fun r w' => r = .returned (.bool (knownB c e n)) ∧ Below w.heap.size w w' := by
  unfold knownB
  by_cases h1 : 1 ≤ c <;> by_cases h2 : c ≤ 8 <;> by_cases h3 : 1 ≤ e <;> by_cases h4 : e ≤ 1073741824 <;> by_cases h5 : 1 ≤ n <;> by_cases h6 : n ≤ 1073741824 <;>
  first
  | (exfalso; omega)
  | (go_enter Try.func37, Try.ntmps37
     go_wp2_with fail
     go_ret
     refine ⟨?_, bnew _ _⟩
     exact congrArg (fun b => Ending.returned (.bool b)) (Bool.eq_iff_iff.2 (by simp <;> omega)))
end Go.Proofs.Ytpgeiopknjfdmaa
