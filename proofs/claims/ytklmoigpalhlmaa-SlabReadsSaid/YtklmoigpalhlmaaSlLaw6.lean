/-
  The walk of a statement of layer 3: the image of every bytes.
-/
import Derived.Test.YtklmoigpalhlmaaSlRdec
import Derived.Test.YtklmoigpalhlmaaSlJ
import Derived.Test.YtklmoigpalhlmaaSlLaw0
namespace Go.Proofs.Ytklmoigpalhlmaa
open Go.RowKit
set_option linter.unusedVariables false
set_option linter.unusedSimpArgs false

set_option maxRecDepth 100000 in
set_option maxHeartbeats 8000000 in
theorem SlabReads_walk (s : ByteArray) (hs : s.size ≤ 140737488351232) (w : World) :
    Calls Try.prog 10 #[.string s] w fun e w' => e = .returned (.bool true) ∧ Below w.heap.size w w' := by
  have CA := Lib.hid (fun w => slabAwake_any w)
  have C1 := fun w => pdec_any s (by omega) w
  have C2 := fun w => rdec_any s (by omega) w
  obtain ⟨R, hR⟩ : ∃ R, pgDecR (pgDec s.data.toList) = R := ⟨_, rfl⟩
  rw [hR] at C1 C2
  clear hR
  obtain ⟨r1, r2, r3⟩ := R
  have C3 := Lib.hid (fun A1 n1 c1 A2 n2 c2 w h1 h2 => psame_any r1 A1 n1 c1 r2 r1 A2 n2 c2 r2 w h1 h2)
  rw [(pgSame_iff r1 r1 r2 r2).2 ⟨rfl, rfl⟩] at C3
  replace C1 := Lib.hid C1
  replace C2 := Lib.hid C2
  go_enter Try.func10, Try.ntmps10
  go_wp2_with fail
  refine (CA.out _).mono ?_
  rintro e w0 ⟨rfl, b0⟩
  replace b0 := Lib.hid b0
  go_wp2_with fail
  refine (C1.out _).mono ?_
  rintro e w1 ⟨A1, n1, c1, rfl, I1, b1⟩
  have P1 := Lib.hid (Has.new w1 (.cells #[.int .i64 r1, .slice A1 n1 c1] 24))
  have I1' := Lib.hid (I1.alloc (.cells #[.int .i64 r1, .slice A1 n1 c1] 24))
  have B1 := Lib.hid (bup (bup b0.out b1) (bnew w1 (.cells #[.int .i64 r1, .slice A1 n1 c1] 24)))
  clear b1 b0 I1
  go_upto_region 4 with (fail)
  generalize hw2 : World.alloc w1 _ = w2
  rw [hw2] at P1 I1' B1
  clear hw2
  go_wp2_with fail
  refine (C2.out _).mono ?_
  rintro e w3 ⟨A3, n3, c3, rfl, I3, b3⟩
  have P3 := Lib.hid ((P1.out.below b3).alloc (.cells #[.int .i64 r1, .slice A3 n3 c3] 24))
  have Q3 := Lib.hid (Has.new w3 (.cells #[.int .i64 r1, .slice A3 n3 c3] 24))
  have I3' := Lib.hid (I3.alloc (.cells #[.int .i64 r1, .slice A3 n3 c3] 24))
  have J3 := Lib.hid ((I1'.out.below b3).alloc (.cells #[.int .i64 r1, .slice A3 n3 c3] 24))
  have B3 := Lib.hid (bup (bup B1.out b3) (bnew w3 (.cells #[.int .i64 r1, .slice A3 n3 c3] 24)))
  clear b3 I3 P1 I1' B1
  go_upto_region 5 with (fail)
  generalize hw4 : World.alloc w3 _ = w4
  rw [hw4] at P3 Q3 I3' J3 B3
  clear hw4
  have p0 := P3.out.cell 0 _ rfl
  have p1 := P3.out.cell 1 _ rfl
  have q0 := Q3.out.cell 0 _ rfl
  have q1 := Q3.out.cell 1 _ rfl
  go_wp2_with fail
  refine (C3.out _ _ _ _ _ _ _ J3.out I3'.out).mono ?_
  rintro e w5 ⟨rfl, b5⟩
  go_wp2_with fail
  go_ret
  refine ⟨?_, bup B3.out b5⟩
  exact congrArg (fun b => Ending.returned (.bool b)) (by simp)
end Go.Proofs.Ytklmoigpalhlmaa
