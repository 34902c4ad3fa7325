/-
  The answers that the document fixes by number.
-/
import Derived.Test.YtpgeiopknjfdmaaPaG
import Derived.Test.YtpgeiopknjfdmaaPaD
namespace Go.Proofs.Ytpgeiopknjfdmaa
open Go.RowKit Go.Sort
set_option linter.unusedVariables false
set_option linter.unusedSimpArgs false

def paX : Ent := ⟨1, 1, 1, 1, 5, 0, 0, 0, false, ⟨#[]⟩, true, ⟨#[97]⟩, 0⟩
def paY : Ent := ⟨2, 1, 1, 1, 6, 5, 0, 0, true, ⟨#[97]⟩, false, ⟨#[]⟩, 0⟩
def paS : Sl := ⟨true, ⟨#[97]⟩⟩
theorem pa_redo1 : redoR 0 [] paX = (5, [paS], true, 0) := by kernel_rfl
theorem pa_redo2 : redoR 5 [paS] paX = (5, [paS], false, 0) := by kernel_rfl
theorem pa_turn : turnR paX 6 5 = (paY, 0) := by kernel_rfl
theorem pa_all : allR 5 [paS] 0 [paX, paY] = (6, [], 0) := by kernel_rfl
theorem insert_any (w : World) : Calls Try.prog 19 #[] w fun e w' => e = .returned (.agg #[.int .i64 1, .int .i64 1, .int .i64 1, .int .i64 1, .int .i64 5, .int .i64 0, .int .i64 0, .int .i64 0, .bool false, .string ⟨#[]⟩, .bool true, .string ⟨#[97]⟩, .int .i64 0]) ∧ Below w.heap.size w w' := by
  obtain ⟨fs, hu⟩ := entUnd
  go_enter Try.func19, Try.ntmps19
  go_wp2_with ((with_reducible refine at_store rfl ?_); refine wpList_put_row rfl _ _ _ rfl rfl w.heap.size _ rfl rfl _ _ (Has.new w _) (by kernel_rfl) rfl (by first | kernel_rfl | simp [Value.oneCell']) ?_; intro w9 Z9 B9)
  (try simp only [Exit.inBlock, Exit.then])
  refine bodyPost_ret (v := .agg #[.int .i64 1, .int .i64 1, .int .i64 1, .int .i64 1, .int .i64 5, .int .i64 0, .int .i64 0, .int .i64 0, .bool false, .string ⟨#[]⟩, .bool true, .string ⟨#[97]⟩, .int .i64 0]) ?_ rfl ⟨rfl, ?_⟩
  case _ => exact results_cell_row rfl _ _ w.heap.size _ _ _ _ rfl Z9 hu rfl (by kernel_rfl)
  exact (bnew w _).trans (B9.below (Nat.le_refl _) (bnew w _).size)
theorem two_ents (w : World) : IsEnts (w.alloc (.cells (paX.row ++ paY.row) 30)) (some ⟨w.heap.size, 0, none⟩) 2 2 [paX, paY] := by
  refine ⟨rfl, by omega, by omega, ?_, fun _ => ⟨w.heap.size, 0, rfl, by simp, fun i x hx j v hv => ?_⟩⟩
  · intro x hx
    simp at hx
    rcases hx with rfl | rfl <;> decide
  · have hj : j < 13 := (Array.getElem?_eq_some_iff.1 hv).1
    refine (Has.new w _).cell (0 + i * 13 + j) v ?_
    match i, hx with
    | 0, hx =>
      simp at hx
      subst hx
      rw [Array.getElem?_append_left (by show 0 + 0 * 13 + j < 13; omega), show 0 + 0 * 13 + j = j by omega]
      exact hv
    | 1, hx =>
      simp at hx
      subst hx
      rw [Array.getElem?_append_right (by show 13 ≤ 0 + 1 * 13 + j; omega), show 0 + 1 * 13 + j - paX.row.size = j by show 0 + 1 * 13 + j - 13 = j; omega]
      exact hv
    | i + 2, hx => simp at hx
set_option maxRecDepth 100000 in
set_option maxHeartbeats 8000000 in
theorem paAwake_any (w : World) : Calls Try.prog 9 #[] w fun e w' => e = .returned (.bool true) ∧ Below w.heap.size w w' := by
  have CI := Lib.hid insert_any
  have C1 := fun w => redo_any 0 none 0 0 [] paX w (IsSlots.nil w) (by omega) (by decide) (by decide)
  rw [pa_redo1] at C1
  have C2 := fun A n c w h hn => redo_any 5 A n c [paS] paX w h hn (by decide) (by decide)
  rw [pa_redo2] at C2
  have C3 := fun w => turn_any paX 6 5 w (by decide) (by decide)
  rw [pa_turn] at C3
  have C4 := fun A n c B m d w h h2 => all_any 5 A n c [paS] 0 B m d [paX, paY] w h h2
  rw [pa_all] at C4
  simp only [paX, paY, Ent.val, Ent.row] at C1 C2 C3
  replace C1 := Lib.hid C1
  replace C2 := Lib.hid C2
  replace C3 := Lib.hid C3
  replace C4 := Lib.hid C4
  go_enter Try.func9, Try.ntmps9
  go_wp2_with fail
  refine (CI.out _).mono ?_
  rintro e w0 ⟨rfl, b0⟩
  have X1 := Lib.hid (Has.new w0 (.cells #[.int .i64 1, .int .i64 1, .int .i64 1, .int .i64 1, .int .i64 5, .int .i64 0, .int .i64 0, .int .i64 0, .bool false, .string ⟨#[]⟩, .bool true, .string ⟨#[97]⟩, .int .i64 0] 30))
  have B1 := Lib.hid (bup b0 (bnew w0 (.cells #[.int .i64 1, .int .i64 1, .int .i64 1, .int .i64 1, .int .i64 5, .int .i64 0, .int .i64 0, .int .i64 0, .bool false, .string ⟨#[]⟩, .bool true, .string ⟨#[97]⟩, .int .i64 0] 30)))
  clear b0
  go_upto_region 2 with (fail)
  generalize hw1 : World.alloc w0 _ = w1
  rw [hw1] at X1 B1
  clear hw1
  obtain ⟨x0, x1, x2, x3, x4, x5, x6, x7, x8, x9, x10, x11, x12⟩ := EntAt.of X1.out
  go_wp2_with fail
  refine (C1.out _).mono ?_
  rintro e w2 ⟨A, n, c, rfl, I2, b2⟩
  obtain rfl : n = 1 := I2.len.symm
  have X3 := Lib.hid ((X1.out.below b2).alloc (.cells #[.int .i64 5, .slice A 1 c] 24))
  have P3 := Lib.hid (Has.new w2 (.cells #[.int .i64 5, .slice A 1 c] 24))
  have I3 := Lib.hid (I2.alloc (.cells #[.int .i64 5, .slice A 1 c] 24))
  have B3 := Lib.hid (bup (bup B1.out b2) (bnew w2 (.cells #[.int .i64 5, .slice A 1 c] 24)))
  clear b2 I2 X1 B1 x0 x1 x2 x3 x4 x5 x6 x7 x8 x9 x10 x11 x12
  go_upto_region 3 with (fail)
  generalize hw3 : World.alloc w2 _ = w3
  rw [hw3] at X3 P3 I3 B3
  clear hw3
  obtain ⟨x0, x1, x2, x3, x4, x5, x6, x7, x8, x9, x10, x11, x12⟩ := EntAt.of X3.out
  have p0 := P3.out.cell 0 _ rfl
  have p1 := P3.out.cell 1 _ rfl
  go_wp2_with fail
  refine (C2.out _ _ _ _ I3.out (by omega)).mono ?_
  rintro e w4 ⟨A4, n4, c4, rfl, I4, b4⟩
  have X5 := Lib.hid ((X3.out.below b4).alloc (.cells #[.int .i64 5, .slice A4 n4 c4] 24))
  have P5 := Lib.hid ((P3.out.below b4).alloc (.cells #[.int .i64 5, .slice A4 n4 c4] 24))
  have I5 := Lib.hid ((I3.out.below b4).alloc (.cells #[.int .i64 5, .slice A4 n4 c4] 24))
  have B5 := Lib.hid (bup (bup B3.out b4) (bnew w4 (.cells #[.int .i64 5, .slice A4 n4 c4] 24)))
  clear b4 I4 X3 P3 I3 B3 p0 p1 x0 x1 x2 x3 x4 x5 x6 x7 x8 x9 x10 x11 x12
  go_upto_region 4 with (fail)
  generalize hw5 : World.alloc w4 _ = w5
  rw [hw5] at X5 P5 I5 B5
  clear hw5
  obtain ⟨x0, x1, x2, x3, x4, x5, x6, x7, x8, x9, x10, x11, x12⟩ := EntAt.of X5.out
  go_wp2_with fail
  refine (C3.out _).mono ?_
  rintro e w6 ⟨rfl, b6⟩
  have X7 := Lib.hid ((X5.out.below b6).alloc (.cells #[.int .i64 2, .int .i64 1, .int .i64 1, .int .i64 1, .int .i64 6, .int .i64 5, .int .i64 0, .int .i64 0, .bool true, .string ⟨#[97]⟩, .bool false, .string ⟨#[]⟩, .int .i64 0] 30))
  have Y7 := Lib.hid (Has.new w6 (.cells #[.int .i64 2, .int .i64 1, .int .i64 1, .int .i64 1, .int .i64 6, .int .i64 5, .int .i64 0, .int .i64 0, .bool true, .string ⟨#[97]⟩, .bool false, .string ⟨#[]⟩, .int .i64 0] 30))
  have P7 := Lib.hid ((P5.out.below b6).alloc (.cells #[.int .i64 2, .int .i64 1, .int .i64 1, .int .i64 1, .int .i64 6, .int .i64 5, .int .i64 0, .int .i64 0, .bool true, .string ⟨#[97]⟩, .bool false, .string ⟨#[]⟩, .int .i64 0] 30))
  have I7 := Lib.hid ((I5.out.below b6).alloc (.cells #[.int .i64 2, .int .i64 1, .int .i64 1, .int .i64 1, .int .i64 6, .int .i64 5, .int .i64 0, .int .i64 0, .bool true, .string ⟨#[97]⟩, .bool false, .string ⟨#[]⟩, .int .i64 0] 30))
  have B7 := Lib.hid (bup (bup B5.out b6) (bnew w6 (.cells #[.int .i64 2, .int .i64 1, .int .i64 1, .int .i64 1, .int .i64 6, .int .i64 5, .int .i64 0, .int .i64 0, .bool true, .string ⟨#[97]⟩, .bool false, .string ⟨#[]⟩, .int .i64 0] 30)))
  clear b6 X5 P5 I5 B5 x0 x1 x2 x3 x4 x5 x6 x7 x8 x9 x10 x11 x12
  go_upto_region 5 with (fail)
  generalize hw7 : World.alloc w6 _ = w7
  rw [hw7] at X7 Y7 P7 I7 B7
  clear hw7
  obtain ⟨x0, x1, x2, x3, x4, x5, x6, x7, x8, x9, x10, x11, x12⟩ := EntAt.of X7.out
  obtain ⟨y0, y1, y2, y3, y4, y5, y6, y7, y8, y9, y10, y11, y12⟩ := EntAt.of Y7.out
  have p0 := P7.out.cell 0 _ rfl
  have p1 := P7.out.cell 1 _ rfl
  go_wp2_with fail
  refine (C4.out _ _ _ _ _ _ _ (I7.out.alloc _) (two_ents w7)).mono ?_
  rintro e w8 ⟨A8, n8, c8, rfl, I8, b8⟩
  obtain rfl : n8 = 0 := I8.len.symm
  have b8' := bup (bnew w7 (.cells (paX.row ++ paY.row) 30)) b8
  have Y9 := Lib.hid ((Y7.out.below b8').alloc (.cells #[.int .i64 6, .slice A8 0 c8] 24))
  have P9 := Lib.hid ((P7.out.below b8').alloc (.cells #[.int .i64 6, .slice A8 0 c8] 24))
  have I9 := Lib.hid ((I7.out.below b8').alloc (.cells #[.int .i64 6, .slice A8 0 c8] 24))
  have Q9 := Lib.hid (Has.new w8 (.cells #[.int .i64 6, .slice A8 0 c8] 24))
  have B9 := Lib.hid (bup (bup B7.out b8') (bnew w8 (.cells #[.int .i64 6, .slice A8 0 c8] 24)))
  clear b8 b8' I8 X7 Y7 P7 I7 B7 p0 p1 x0 x1 x2 x3 x4 x5 x6 x7 x8 x9 x10 x11 x12 y0 y1 y2 y3 y4 y5 y6 y7 y8 y9 y10 y11 y12
  go_upto_region 6 with (fail)
  generalize hw9 : World.alloc w8 _ = w9
  rw [hw9] at Y9 P9 I9 Q9 B9
  clear hw9
  obtain ⟨b, off, x, rfl, hx, hbl, h1, h2, hs⟩ := I9.out.at (show 0 < 1 by omega)
  obtain rfl : x = paS := by simpa using hx.symm
  have u2 : w9.cell? ⟨b, off + 1, none⟩ = some (.string ⟨#[97]⟩) := by simpa [paS] using h2
  clear h1 h2 hs hx
  have y0 := Y9.out.cell 0 _ rfl
  have p0 := P9.out.cell 0 _ rfl
  have p1 := P9.out.cell 1 _ rfl
  have q0 := Q9.out.cell 0 _ rfl
  have q1 := Q9.out.cell 1 _ rfl
  have ht : (⟨#[97]⟩ : ByteArray).toList = [97] := by decide +kernel
  go_wp2_with fail
  go_ret
  exact ⟨rfl, B9.out⟩
end Go.Proofs.Ytpgeiopknjfdmaa
