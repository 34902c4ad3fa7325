/-
  A slot's bytes, both answers.
-/
import Derived.Test.YteknaeemjgpgbaaEntC
import Derived.Test.YteknaeemjgpgbaaNibLit
namespace Go.Proofs.Yteknaeemjgpgbaa
open Go.RowKit Go.Sort NibPure

/-- A slot's bytes. -/
def slotEnc (u : Bool) (d : List UInt8) : List UInt8 := if u then enc 1 ++ encS d else enc 0
theorem slotEnc_len (u : Bool) (d : List UInt8) : (slotEnc u d).length ≤ d.length + 20 := by
  unfold slotEnc encS
  have h1 := enc_len 1
  have h0 := enc_len 0
  have h2 := enc_len (d.length : Int)
  split <;> simp <;> omega
theorem slot_add {P : Program} (d : ByteArray) (hd : d.size ≤ 4611686018427387904) (w : World) : (Op.stringOp .add (bs (enc 1)) (bs (encS d.data.toList))).run P w = .ok (.string (bs (slotEnc true d.data.toList))) w := by
  have h1 := enc_len 1
  have h2 := enc_len (d.size : Int)
  have e : d.data.toList.length = d.size := Array.length_toList
  rw [run_string_add_sum w _ _ (by rw [bs_size, bs_size]; unfold encS; simp only [List.length_append]; rw [e]; omega)]
  rw [show slotEnc true d.data.toList = enc 1 ++ encS d.data.toList from rfl, bs_append]
set_option maxRecDepth 100000 in
set_option maxHeartbeats 4000000 in
theorem slot_any (u : Bool) (d : ByteArray) (hd : d.size ≤ 4611686018427387904) (w : World) :
    Calls Try.prog 23 #[.agg #[.bool u, .string d]] w fun r w' => r = .returned (.string (bs (slotEnc u d.data.toList))) ∧ Below w.heap.size w w' := by
  cases u
  case false =>
    go_enter Try.func23, Try.ntmps23
    go_wp2_with (go_at_call 22; (with_reducible refine (nibInt_any 0 _ (by omega) (by omega)).mono ?_); rintro e w1 ⟨rfl, g1⟩)
    go_ret
    exact ⟨rfl, bup (bnew _ _) g1⟩
  case true =>
    have hadd := fun w => slot_add (P := Try.prog) d hd w
    go_enter Try.func23, Try.ntmps23
    go_wp2_with fail
    generalize hw1 : World.alloc w _ = w1
    have H1 : Has w1 w.heap.size (.cells #[.bool true, .string d] 25) := by rw [← hw1]; exact Has.new _ _
    have g1 : Below w.heap.size w w1 := by rw [← hw1]; exact bnew _ _
    clear hw1
    have a1 := cell_regrown (H1.cell 1 (.string d) rfl)
    have c1 := fun x os => Calls.regrown_of (nibInt_any 1 (grow (redrawn w1 x) os) (by omega) (by omega))
    have c2 := fun x os => Calls.regrown_of (nibStr_any d (grow (redrawn w1 x) os) (by omega))
    refine wp_region_quiet_below (by kernel_rfl) (by kernel_rfl) ?_
    repeat (quiet_step (first | exact c1 _ _ | exact c2 _ _))
    refine wpQuiet_nil ?_
    intro _ hw4
    obtain ⟨⟨dq, osq⟩, hw5⟩ := hw4
    subst hw5
    go_wp2_with fail
    go_ret
    exact ⟨rfl, bup g1 (below_regrown _ _ _)⟩
end Go.Proofs.Yteknaeemjgpgbaa
