/-
  The answers that the document fixes by number; what is more than is asked.
-/
import Derived.Test.YteknaeemjgpgbaaEntLawA
import Derived.Test.YteknaeemjgpgbaaEntDec
import Derived.Test.YteknaeemjgpgbaaEntCost
namespace Go.Proofs.Yteknaeemjgpgbaa
open Go.RowKit Go.Sort NibPure
set_option linter.unusedVariables false
set_option linter.unusedSimpArgs false

def Ent.great (x : Ent) : Bool := decide (4096 < x.wd.size) || decide (4096 < x.ix.size)
theorem entGreat_any (x : Ent) (hw : x.wd.size ≤ 9223372036854775807) (hi : x.ix.size ≤ 9223372036854775807) (w : World) :
    Calls Try.prog 10 #[x.val] w fun r w' => r = .returned (.bool x.great) ∧ Below w.heap.size w w' := by
  obtain ⟨k, c, e, n, l, p, pg, sl, wu, wd, iu, ix, nx⟩ := x
  simp only [Ent.great, Ent.val, Ent.row] at hw hi ⊢
  by_cases h1 : 4096 < wd.size <;> by_cases h2 : 4096 < ix.size <;>
  · go_enter Try.func10, Try.ntmps10
    go_wp2_with fail
    go_ret
    refine ⟨?_, bnew _ _⟩
    first | (simp [h1, h2]; done) | (simp [h1, h2]; omega)
theorem great_small {x : Ent} (h : x.great = false) : x.wd.size ≤ 4096 ∧ x.ix.size ≤ 4096 := by
  simp [Ent.great] at h; omega
def awX : Ent := ⟨3, 1, 1, 1, 5, 4, 0, 0, false, ⟨#[]⟩, false, ⟨#[]⟩, 0⟩
theorem awX_enc : awX.encRes = .tuple #[.string ⟨#[6, 2, 2, 2, 10, 8]⟩, .int .i64 0] := by kernel_rfl
theorem awZ_enc : Ent.zero.encRes = .tuple #[.string ⟨#[]⟩, .int .i64 1] := by kernel_rfl
theorem aw_dec : decERes (decE [6, 2, 2, 2, 10, 8, 122]) = .tuple #[awX.val, .string ⟨#[122]⟩, .int .i64 0] := by kernel_rfl
theorem aw_cost : awX.cost = 2 := by kernel_rfl
theorem aw_good : awX.good = true := by kernel_rfl
theorem aw_known : knownB 1 1 1 = true := by kernel_rfl
theorem aw_same : awX.eqB awX = true := by kernel_rfl
set_option maxRecDepth 100000 in
set_option maxHeartbeats 8000000 in
theorem entAwake_any (w : World) : Calls Try.prog 9 #[] w fun e w' => e = .returned (.bool true) ∧ Below w.heap.size w w' := by
  have C1 := fun w => encode_any awX (by decide) (by decide) w
  have C2 := fun w => decode_any (⟨#[6, 2, 2, 2, 10, 8]⟩ ++ ⟨#[122]⟩) (by decide) w
  have C3 := fun w => encode_any Ent.zero (by decide) (by decide) w
  have C4 := fun w => cost_any awX (by decide) (by decide) w
  have C5 := fun w => good_any awX (by decide) (by decide) w
  have C6 := fun w => known_any 1 1 1 w
  have C7 := fun w => entEqBin awX awX w
  rw [awX_enc] at C1
  rw [show ((⟨#[6, 2, 2, 2, 10, 8]⟩ ++ ⟨#[122]⟩ : ByteArray)).data.toList = [6, 2, 2, 2, 10, 8, 122] by decide +kernel, aw_dec] at C2
  rw [awZ_enc] at C3
  rw [aw_cost] at C4
  rw [aw_good] at C5
  rw [aw_known] at C6
  rw [aw_same] at C7
  simp only [awX, Ent.zero, Ent.val, Ent.row] at C1 C2 C3 C4 C5 C7
  replace C1 := Lib.hid C1
  replace C2 := Lib.hid C2
  replace C3 := Lib.hid C3
  replace C4 := Lib.hid C4
  replace C5 := Lib.hid C5
  replace C6 := Lib.hid C6
  go_enter Try.func9, Try.ntmps9
  go_wp2_with fail
  refine (C1.out _).mono ?_
  rintro e w1 ⟨rfl, b1⟩
  have X1 := Lib.hid ((Has.new w _).below b1)
  have B1 := Lib.hid (bup (bnew w _) b1)
  clear b1
  go_wp2_with fail
  refine (C2.out _).mono ?_
  rintro e w2 ⟨rfl, b2⟩
  have X2 := Lib.hid ((X1.out.below b2).alloc (.cells awX.row 27))
  have Y2 := Lib.hid (Has.new w2 (.cells awX.row 27))
  have B2 := Lib.hid (bup (bup B1.out b2) (bnew w2 (.cells awX.row 27)))
  simp only [awX, Ent.row] at X2 Y2 B2
  clear b2 X1 B1
  go_upto_region 4 with (fail)
  generalize hw3 : World.alloc w2 _ = w3
  rw [hw3] at X2 Y2 B2
  clear hw3
  go_wp2_with fail
  refine (C3.out _).mono ?_
  rintro e w4 ⟨rfl, b4⟩
  have X4 := Lib.hid (X2.out.below b4)
  have Y4 := Lib.hid (Y2.out.below b4)
  have B4 := Lib.hid (bup B2.out b4)
  clear b4 X2 Y2 B2
  obtain ⟨x0, x1, x2, x3, x4, x5, x6, x7, x8, x9, x10, x11, x12⟩ := EntAt.of X4.out
  obtain ⟨y0, y1, y2, y3, y4, y5, y6, y7, y8, y9, y10, y11, y12⟩ := EntAt.of Y4.out
  go_wp2_with fail
  refine (C4.out _).mono ?_
  rintro e w5 ⟨rfl, b5⟩
  have X5 := Lib.hid (X4.out.below b5)
  have B5 := Lib.hid (bup B4.out b5)
  clear b5 X4 Y4 B4 x0 x1 x2 x3 x4 x5 x6 x7 x8 x9 x10 x11 x12 y0 y1 y2 y3 y4 y5 y6 y7 y8 y9 y10 y11 y12
  obtain ⟨x0, x1, x2, x3, x4, x5, x6, x7, x8, x9, x10, x11, x12⟩ := EntAt.of X5.out
  go_wp2_with fail
  refine (C5.out _).mono ?_
  rintro e w6 ⟨rfl, b6⟩
  have X6 := Lib.hid (X5.out.below b6)
  have B6 := Lib.hid (bup B5.out b6)
  clear b6 X5 B5 x0 x1 x2 x3 x4 x5 x6 x7 x8 x9 x10 x11 x12
  obtain ⟨x0, x1, x2, x3, x4, x5, x6, x7, x8, x9, x10, x11, x12⟩ := EntAt.of X6.out
  go_wp2_with fail
  refine (C6.out _).mono ?_
  rintro e w7 ⟨rfl, b7⟩
  go_wp2_with fail
  go_ret
  exact ⟨rfl, bup B6.out b7⟩
end Go.Proofs.Yteknaeemjgpgbaa
