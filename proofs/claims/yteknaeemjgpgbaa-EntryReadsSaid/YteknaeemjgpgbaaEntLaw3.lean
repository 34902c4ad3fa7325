/-
  The walk of a statement of layer 4: what every bytes begin with.
-/
import Derived.Test.YteknaeemjgpgbaaEntAwake
import Derived.Test.YteknaeemjgpgbaaEntRdec
namespace Go.Proofs.Yteknaeemjgpgbaa
open Go.RowKit Go.Sort NibPure
set_option linter.unusedVariables false
set_option linter.unusedSimpArgs false

theorem decERes_form (o : Option (Ent × List UInt8)) : ∃ e s n, decERes o = .tuple #[Ent.val e, .string s, .int .i64 n] := by
  cases o with
  | none => exact ⟨_, _, _, rfl⟩
  | some p => exact ⟨_, _, _, rfl⟩
set_option maxRecDepth 100000 in
set_option maxHeartbeats 8000000 in
theorem EntryReads_walk (s : ByteArray) (hs : s.size ≤ 140737488351232) (w : World) :
    Calls Try.prog 4 #[.string s] w fun e w' => e = .returned (.bool true) ∧ Below w.heap.size w w' := by
  have CA := Lib.hid entAwake_any
  have C1 := fun w => decode_any s (by omega) w
  have C2 := fun w => rdecode_any s (by omega) w
  obtain ⟨x, b, n, hD⟩ := decERes_form (decE s.data.toList)
  rw [hD] at C1 C2
  clear hD
  have CE := fun w => entEqBin x x w
  rw [(eqB_iff x x).2 rfl] at CE
  obtain ⟨k, c, e, m, l, p, pg, sl, wu, wd, iu, ix, nx⟩ := x
  simp only [Ent.val, Ent.row] at C1 C2 CE
  replace C1 := Lib.hid C1
  replace C2 := Lib.hid C2
  go_enter Try.func4, Try.ntmps4
  go_wp2_with fail
  refine (CA.out _).mono ?_
  rintro e w0 ⟨rfl, b0⟩
  replace b0 := Lib.hid b0
  go_wp2_with fail
  refine (C1.out _).mono ?_
  rintro e w1 ⟨rfl, b1⟩
  have X1 := Lib.hid (Has.new w1 (.cells #[.int .i64 k, .int .i64 c, .int .i64 e, .int .i64 m, .int .i64 l, .int .i64 p, .int .i64 pg, .int .i64 sl, .bool wu, .string wd, .bool iu, .string ix, .int .i64 nx] 27))
  have B1 := Lib.hid (bup (bup b0.out b1) (bnew w1 (.cells #[.int .i64 k, .int .i64 c, .int .i64 e, .int .i64 m, .int .i64 l, .int .i64 p, .int .i64 pg, .int .i64 sl, .bool wu, .string wd, .bool iu, .string ix, .int .i64 nx] 27)))
  clear b1 b0
  go_upto_region 4 with (fail)
  generalize hw2 : World.alloc w1 _ = w2
  rw [hw2] at X1 B1
  clear hw2
  go_wp2_with fail
  refine (C2.out _).mono ?_
  rintro e w3 ⟨rfl, b3⟩
  have X3 := Lib.hid ((X1.out.below b3).alloc (.cells #[.int .i64 k, .int .i64 c, .int .i64 e, .int .i64 m, .int .i64 l, .int .i64 p, .int .i64 pg, .int .i64 sl, .bool wu, .string wd, .bool iu, .string ix, .int .i64 nx] 27))
  have Y3 := Lib.hid (Has.new w3 (.cells #[.int .i64 k, .int .i64 c, .int .i64 e, .int .i64 m, .int .i64 l, .int .i64 p, .int .i64 pg, .int .i64 sl, .bool wu, .string wd, .bool iu, .string ix, .int .i64 nx] 27))
  have B3 := Lib.hid (bup (bup B1.out b3) (bnew w3 (.cells #[.int .i64 k, .int .i64 c, .int .i64 e, .int .i64 m, .int .i64 l, .int .i64 p, .int .i64 pg, .int .i64 sl, .bool wu, .string wd, .bool iu, .string ix, .int .i64 nx] 27)))
  clear b3 X1 B1
  go_upto_region 5 with (fail)
  generalize hw4 : World.alloc w3 _ = w4
  rw [hw4] at X3 Y3 B3
  clear hw4
  obtain ⟨x0, x1, x2, x3, x4, x5, x6, x7, x8, x9, x10, x11, x12⟩ := EntAt.of X3.out
  obtain ⟨y0, y1, y2, y3, y4, y5, y6, y7, y8, y9, y10, y11, y12⟩ := EntAt.of Y3.out
  go_wp2_with fail
  go_ret
  refine ⟨?_, B3.out⟩
  exact congrArg (fun b => Ending.returned (.bool b)) (by simp)
end Go.Proofs.Yteknaeemjgpgbaa
