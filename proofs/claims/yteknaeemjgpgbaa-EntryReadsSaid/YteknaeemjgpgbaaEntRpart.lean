/-
  The reference's part: a slot's bytes.
-/
import Derived.Test.YteknaeemjgpgbaaEntSlot
namespace Go.Proofs.Yteknaeemjgpgbaa
open Go.RowKit Go.Sort NibPure

set_option maxRecDepth 100000 in
set_option maxHeartbeats 4000000 in
theorem rpart_any (u : Bool) (d : ByteArray) (hd : d.size ≤ 4611686018427387904) (w : World) :
    Calls Try.prog 25 #[.agg #[.bool u, .string d]] w fun r w' => r = .returned (.string (bs (slotEnc u d.data.toList))) ∧ Below w.heap.size w w' := by
  cases u
  case false =>
    go_enter Try.func25, Try.ntmps25
    go_wp2_with (go_at_call 24; (with_reducible refine (refInt_any 0 _ (by omega) (by omega)).mono ?_); rintro e w1 ⟨rfl, g1⟩)
    go_ret
    exact ⟨rfl, bup (bnew _ _) g1⟩
  case true =>
    have hadd := fun w => slot_add (P := Try.prog) d hd w
    go_enter Try.func25, Try.ntmps25
    go_wp2_with fail
    generalize hw1 : World.alloc w _ = w1
    have H1 : Has w1 w.heap.size (.cells #[.bool true, .string d] 25) := by rw [← hw1]; exact Has.new _ _
    have g1 : Below w.heap.size w w1 := by rw [← hw1]; exact bnew _ _
    clear hw1
    have a1 := cell_regrown (H1.cell 1 (.string d) rfl)
    have c1 := fun x os => Calls.regrown_of (refInt_any 1 (grow (redrawn w1 x) os) (by omega) (by omega))
    have c2 := fun x os => Calls.regrown_of (refStr_any d (grow (redrawn w1 x) os) (by omega))
    refine wp_region_quiet_below (by kernel_rfl) (by kernel_rfl) ?_
    repeat (quiet_step (first | exact c1 _ _ | exact c2 _ _))
    refine wpQuiet_nil ?_
    intro _ hw4
    obtain ⟨⟨dq, osq⟩, hw5⟩ := hw4
    subst hw5
    go_wp2_with fail
    go_ret
    exact ⟨rfl, bup g1 (below_regrown _ _ _)⟩
end Go.Proofs.Yteknaeemjgpgbaa
