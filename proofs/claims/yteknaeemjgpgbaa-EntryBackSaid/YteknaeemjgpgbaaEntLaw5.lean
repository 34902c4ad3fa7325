/-
  The walk of a statement of layer 4: there and back.
-/
import Derived.Test.YteknaeemjgpgbaaEntLaw4
namespace Go.Proofs.Yteknaeemjgpgbaa
open Go.RowKit Go.Sort NibPure
set_option linter.unusedVariables false
set_option linter.unusedSimpArgs false

set_option maxRecDepth 100000 in
set_option maxHeartbeats 8000000 in
theorem EntryBack_walk (x : Ent) (hw : x.wd.size ≤ 140737488351232) (hi : x.ix.size ≤ 140737488351232) (y : Ent) (hw' : y.wd.size ≤ 140737488351232) (hi' : y.ix.size ≤ 140737488351232) (behind : ByteArray) (hbe : behind.size ≤ 140737488351232) (w : World) :
    Calls Try.prog 5 #[x.val, y.val, .string behind] w fun e w' => e = .returned (.bool true) ∧ Below w.heap.size w w' := by
  have CA := Lib.hid entAwake_any
  have CG1 := fun w => entGreat_any x (by omega) (by omega) w
  have CG2 := fun w => entGreat_any y (by omega) (by omega) w
  have C1 := fun w => encode_any x (by omega) (by omega) w
  have C2 := fun w => encode_any y (by omega) (by omega) w
  have C3 := fun w => good_any x (by omega) (by omega) w
  obtain ⟨R, rfl⟩ : ∃ R, behind = bs R := ⟨behind.data.toList, rfl⟩
  have hRs : (bs R).size = R.length := bs_size R
  obtain ⟨G1, hG1⟩ : ∃ G, x.great = G := ⟨_, rfl⟩
  obtain ⟨G2, hG2⟩ : ∃ G, y.great = G := ⟨_, rfl⟩
  rw [hG1] at CG1
  rw [hG2] at CG2
  clear hG1 hG2
  have CE := fun w => entEqBin x x w
  rw [(eqB_iff x x).2 rfl] at CE
  have CE2 := fun w => entEqBin x y w
  have PX : (x.good = false ∧ x.cost = 0 ∧ x.encRes = .tuple #[.string (bs []), .int .i64 1]) ∨ (x.good = true ∧ ∃ X, X.length ≤ 540 ∧ x.encRes = .tuple #[.string (bs X), .int .i64 0] ∧ decE (X ++ R) = some (x, R) ∧ (y.good = false ∨ (y.good = true ∧ ∃ Y, Y.length ≤ 540 ∧ y.encRes = .tuple #[.string (bs Y), .int .i64 0] ∧ ∀ n, n = min X.length Y.length → ((X.take n == Y.take n) = x.eqB y)))) := by
    cases hg : x.good with
    | false => exact .inl ⟨rfl, by simp [Ent.cost, hg], by simp [Ent.encRes, hg]⟩
    | true =>
      refine .inr ⟨rfl, x.bytes, bytes_len x hg, by simp [Ent.encRes, hg], decE_bytes x hg R, ?_⟩
      cases hy : y.good with
      | false => exact .inl rfl
      | true =>
        refine .inr ⟨rfl, y.bytes, bytes_len y hy, by simp [Ent.encRes, hy], fun n hn => ?_⟩
        rw [Bool.eq_iff_iff, eqB_iff, beq_iff_eq]
        exact take_bytes_iff hg hy hn
  have PY : y.good = false → y.encRes = .tuple #[.string (bs []), .int .i64 1] := fun h => by simp [Ent.encRes, h]
  have C4 := fun w => cost_any x (by omega) (by omega) w
  have CD := fun X (h : (bs (X ++ R)).size ≤ 9223372036854775807) w => decode_any (bs (X ++ R)) h w
  have hg1 : (R.length : Int) ≤ 4096 ∨ 4096 < (R.length : Int) := by omega
  have hbt := fun l => bs_toList l
  have hemp : (⟨#[]⟩ : ByteArray).toList = [] := by decide +kernel
  cases G1 with
  | true =>
    clear PX PY C1 C2 C3 C4 CD CE CE2 CG2
    obtain ⟨k, c, e, n, l, p, pg, sl, wu, wd, iu, ix, nx⟩ := x
    obtain ⟨k', c', e', n', l', p', pg', sl', wu', wd', iu', ix', nx'⟩ := y
    simp only [Ent.val, Ent.row] at CG1 ⊢
    replace CG1 := Lib.hid CG1
    go_enter Try.func5, Try.ntmps5
    go_wp2_with fail
    refine (CA.out _).mono ?_
    rintro e0 w0 ⟨rfl, b0⟩
    have X0 := Lib.hid (((Has.new w (.cells #[.int .i64 k, .int .i64 c, .int .i64 e, .int .i64 n, .int .i64 l, .int .i64 p, .int .i64 pg, .int .i64 sl, .bool wu, .string wd, .bool iu, .string ix, .int .i64 nx] 27)).alloc (.cells #[.int .i64 k', .int .i64 c', .int .i64 e', .int .i64 n', .int .i64 l', .int .i64 p', .int .i64 pg', .int .i64 sl', .bool wu', .string wd', .bool iu', .string ix', .int .i64 nx'] 27)).below b0)
    have Y0 := Lib.hid ((Has.new1 w (.cells #[.int .i64 k, .int .i64 c, .int .i64 e, .int .i64 n, .int .i64 l, .int .i64 p, .int .i64 pg, .int .i64 sl, .bool wu, .string wd, .bool iu, .string ix, .int .i64 nx] 27) (.cells #[.int .i64 k', .int .i64 c', .int .i64 e', .int .i64 n', .int .i64 l', .int .i64 p', .int .i64 pg', .int .i64 sl', .bool wu', .string wd', .bool iu', .string ix', .int .i64 nx'] 27)).below b0)
    have B0 := Lib.hid (bup (bup (bnew w _) (bnew _ _)) b0)
    clear b0
    obtain ⟨x0, x1, x2, x3, x4, x5, x6, x7, x8, x9, x10, x11, x12⟩ := EntAt.of X0.out
    obtain ⟨y0, y1, y2, y3, y4, y5, y6, y7, y8, y9, y10, y11, y12⟩ := EntAt.of Y0.out
    go_wp2_with fail
    refine (CG1.out _).mono ?_
    rintro e0 w1 ⟨rfl, b1⟩
    have X1 := Lib.hid (X0.out.below b1)
    have Y1 := Lib.hid (Y0.out.below b1)
    have B1 := Lib.hid (bup B0.out b1)
    clear b1 X0 Y0 B0 x0 x1 x2 x3 x4 x5 x6 x7 x8 x9 x10 x11 x12 y0 y1 y2 y3 y4 y5 y6 y7 y8 y9 y10 y11 y12
    obtain ⟨x0, x1, x2, x3, x4, x5, x6, x7, x8, x9, x10, x11, x12⟩ := EntAt.of X1.out
    obtain ⟨y0, y1, y2, y3, y4, y5, y6, y7, y8, y9, y10, y11, y12⟩ := EntAt.of Y1.out
    go_wp2_with fail
    go_ret
    exact ⟨rfl, B1.out⟩
  | false =>
  cases G2 with
  | true =>
    clear PX PY C1 C2 C3 C4 CD CE CE2
    obtain ⟨k, c, e, n, l, p, pg, sl, wu, wd, iu, ix, nx⟩ := x
    obtain ⟨k', c', e', n', l', p', pg', sl', wu', wd', iu', ix', nx'⟩ := y
    simp only [Ent.val, Ent.row] at CG1 CG2 ⊢
    replace CG1 := Lib.hid CG1
    replace CG2 := Lib.hid CG2
    go_enter Try.func5, Try.ntmps5
    go_wp2_with fail
    refine (CA.out _).mono ?_
    rintro e0 w0 ⟨rfl, b0⟩
    have X0 := Lib.hid (((Has.new w (.cells #[.int .i64 k, .int .i64 c, .int .i64 e, .int .i64 n, .int .i64 l, .int .i64 p, .int .i64 pg, .int .i64 sl, .bool wu, .string wd, .bool iu, .string ix, .int .i64 nx] 27)).alloc (.cells #[.int .i64 k', .int .i64 c', .int .i64 e', .int .i64 n', .int .i64 l', .int .i64 p', .int .i64 pg', .int .i64 sl', .bool wu', .string wd', .bool iu', .string ix', .int .i64 nx'] 27)).below b0)
    have Y0 := Lib.hid ((Has.new1 w (.cells #[.int .i64 k, .int .i64 c, .int .i64 e, .int .i64 n, .int .i64 l, .int .i64 p, .int .i64 pg, .int .i64 sl, .bool wu, .string wd, .bool iu, .string ix, .int .i64 nx] 27) (.cells #[.int .i64 k', .int .i64 c', .int .i64 e', .int .i64 n', .int .i64 l', .int .i64 p', .int .i64 pg', .int .i64 sl', .bool wu', .string wd', .bool iu', .string ix', .int .i64 nx'] 27)).below b0)
    have B0 := Lib.hid (bup (bup (bnew w _) (bnew _ _)) b0)
    clear b0
    obtain ⟨x0, x1, x2, x3, x4, x5, x6, x7, x8, x9, x10, x11, x12⟩ := EntAt.of X0.out
    obtain ⟨y0, y1, y2, y3, y4, y5, y6, y7, y8, y9, y10, y11, y12⟩ := EntAt.of Y0.out
    go_wp2_with fail
    refine (CG1.out _).mono ?_
    rintro e0 w1 ⟨rfl, b1⟩
    have X1 := Lib.hid (X0.out.below b1)
    have Y1 := Lib.hid (Y0.out.below b1)
    have B1 := Lib.hid (bup B0.out b1)
    clear b1 X0 Y0 B0 x0 x1 x2 x3 x4 x5 x6 x7 x8 x9 x10 x11 x12 y0 y1 y2 y3 y4 y5 y6 y7 y8 y9 y10 y11 y12
    obtain ⟨x0, x1, x2, x3, x4, x5, x6, x7, x8, x9, x10, x11, x12⟩ := EntAt.of X1.out
    obtain ⟨y0, y1, y2, y3, y4, y5, y6, y7, y8, y9, y10, y11, y12⟩ := EntAt.of Y1.out
    go_wp2_with fail
    refine (CG2.out _).mono ?_
    rintro e0 w2 ⟨rfl, b2⟩
    have X2 := Lib.hid (X1.out.below b2)
    have Y2 := Lib.hid (Y1.out.below b2)
    have B2 := Lib.hid (bup B1.out b2)
    clear b2 X1 Y1 B1 x0 x1 x2 x3 x4 x5 x6 x7 x8 x9 x10 x11 x12 y0 y1 y2 y3 y4 y5 y6 y7 y8 y9 y10 y11 y12
    obtain ⟨x0, x1, x2, x3, x4, x5, x6, x7, x8, x9, x10, x11, x12⟩ := EntAt.of X2.out
    obtain ⟨y0, y1, y2, y3, y4, y5, y6, y7, y8, y9, y10, y11, y12⟩ := EntAt.of Y2.out
    go_wp2_with fail
    go_ret
    exact ⟨rfl, B2.out⟩
  | false =>
  rcases hg1 with hR | hR
  case inr =>
    clear PX PY C1 C2 C3 C4 CD CE CE2
    obtain ⟨k, c, e, n, l, p, pg, sl, wu, wd, iu, ix, nx⟩ := x
    obtain ⟨k', c', e', n', l', p', pg', sl', wu', wd', iu', ix', nx'⟩ := y
    simp only [Ent.val, Ent.row] at CG1 CG2 ⊢
    replace CG1 := Lib.hid CG1
    replace CG2 := Lib.hid CG2
    go_enter Try.func5, Try.ntmps5
    go_wp2_with fail
    refine (CA.out _).mono ?_
    rintro e0 w0 ⟨rfl, b0⟩
    have X0 := Lib.hid (((Has.new w (.cells #[.int .i64 k, .int .i64 c, .int .i64 e, .int .i64 n, .int .i64 l, .int .i64 p, .int .i64 pg, .int .i64 sl, .bool wu, .string wd, .bool iu, .string ix, .int .i64 nx] 27)).alloc (.cells #[.int .i64 k', .int .i64 c', .int .i64 e', .int .i64 n', .int .i64 l', .int .i64 p', .int .i64 pg', .int .i64 sl', .bool wu', .string wd', .bool iu', .string ix', .int .i64 nx'] 27)).below b0)
    have Y0 := Lib.hid ((Has.new1 w (.cells #[.int .i64 k, .int .i64 c, .int .i64 e, .int .i64 n, .int .i64 l, .int .i64 p, .int .i64 pg, .int .i64 sl, .bool wu, .string wd, .bool iu, .string ix, .int .i64 nx] 27) (.cells #[.int .i64 k', .int .i64 c', .int .i64 e', .int .i64 n', .int .i64 l', .int .i64 p', .int .i64 pg', .int .i64 sl', .bool wu', .string wd', .bool iu', .string ix', .int .i64 nx'] 27)).below b0)
    have B0 := Lib.hid (bup (bup (bnew w _) (bnew _ _)) b0)
    clear b0
    obtain ⟨x0, x1, x2, x3, x4, x5, x6, x7, x8, x9, x10, x11, x12⟩ := EntAt.of X0.out
    obtain ⟨y0, y1, y2, y3, y4, y5, y6, y7, y8, y9, y10, y11, y12⟩ := EntAt.of Y0.out
    go_wp2_with fail
    refine (CG1.out _).mono ?_
    rintro e0 w1 ⟨rfl, b1⟩
    have X1 := Lib.hid (X0.out.below b1)
    have Y1 := Lib.hid (Y0.out.below b1)
    have B1 := Lib.hid (bup B0.out b1)
    clear b1 X0 Y0 B0 x0 x1 x2 x3 x4 x5 x6 x7 x8 x9 x10 x11 x12 y0 y1 y2 y3 y4 y5 y6 y7 y8 y9 y10 y11 y12
    obtain ⟨x0, x1, x2, x3, x4, x5, x6, x7, x8, x9, x10, x11, x12⟩ := EntAt.of X1.out
    obtain ⟨y0, y1, y2, y3, y4, y5, y6, y7, y8, y9, y10, y11, y12⟩ := EntAt.of Y1.out
    go_wp2_with fail
    refine (CG2.out _).mono ?_
    rintro e0 w2 ⟨rfl, b2⟩
    have X2 := Lib.hid (X1.out.below b2)
    have Y2 := Lib.hid (Y1.out.below b2)
    have B2 := Lib.hid (bup B1.out b2)
    clear b2 X1 Y1 B1 x0 x1 x2 x3 x4 x5 x6 x7 x8 x9 x10 x11 x12 y0 y1 y2 y3 y4 y5 y6 y7 y8 y9 y10 y11 y12
    obtain ⟨x0, x1, x2, x3, x4, x5, x6, x7, x8, x9, x10, x11, x12⟩ := EntAt.of X2.out
    obtain ⟨y0, y1, y2, y3, y4, y5, y6, y7, y8, y9, y10, y11, y12⟩ := EntAt.of Y2.out
    go_wp2_with fail
    go_ret
    exact ⟨rfl, B2.out⟩
  rcases PX with ⟨g, hc, hx⟩ | ⟨g, X, hXl, hx, hdx, hy⟩
  · rw [hx] at C1
    rw [g] at C3
    rw [hc] at C4
    clear g hc hx CD CE CE2 C2 PY
    obtain ⟨k, c, e, n, l, p, pg, sl, wu, wd, iu, ix, nx⟩ := x
    obtain ⟨k', c', e', n', l', p', pg', sl', wu', wd', iu', ix', nx'⟩ := y
    simp only [Ent.val, Ent.row] at CG1 CG2 C1 C3 C4 ⊢
    replace CG1 := Lib.hid CG1
    replace CG2 := Lib.hid CG2
    replace C1 := Lib.hid C1
    replace C3 := Lib.hid C3
    replace C4 := Lib.hid C4
    go_enter Try.func5, Try.ntmps5
    go_wp2_with fail
    refine (CA.out _).mono ?_
    rintro e0 w0 ⟨rfl, b0⟩
    have X0 := Lib.hid (((Has.new w (.cells #[.int .i64 k, .int .i64 c, .int .i64 e, .int .i64 n, .int .i64 l, .int .i64 p, .int .i64 pg, .int .i64 sl, .bool wu, .string wd, .bool iu, .string ix, .int .i64 nx] 27)).alloc (.cells #[.int .i64 k', .int .i64 c', .int .i64 e', .int .i64 n', .int .i64 l', .int .i64 p', .int .i64 pg', .int .i64 sl', .bool wu', .string wd', .bool iu', .string ix', .int .i64 nx'] 27)).below b0)
    have Y0 := Lib.hid ((Has.new1 w (.cells #[.int .i64 k, .int .i64 c, .int .i64 e, .int .i64 n, .int .i64 l, .int .i64 p, .int .i64 pg, .int .i64 sl, .bool wu, .string wd, .bool iu, .string ix, .int .i64 nx] 27) (.cells #[.int .i64 k', .int .i64 c', .int .i64 e', .int .i64 n', .int .i64 l', .int .i64 p', .int .i64 pg', .int .i64 sl', .bool wu', .string wd', .bool iu', .string ix', .int .i64 nx'] 27)).below b0)
    have B0 := Lib.hid (bup (bup (bnew w _) (bnew _ _)) b0)
    clear b0
    obtain ⟨x0, x1, x2, x3, x4, x5, x6, x7, x8, x9, x10, x11, x12⟩ := EntAt.of X0.out
    obtain ⟨y0, y1, y2, y3, y4, y5, y6, y7, y8, y9, y10, y11, y12⟩ := EntAt.of Y0.out
    go_wp2_with fail
    refine (CG1.out _).mono ?_
    rintro e0 w1 ⟨rfl, b1⟩
    have X1 := Lib.hid (X0.out.below b1)
    have Y1 := Lib.hid (Y0.out.below b1)
    have B1 := Lib.hid (bup B0.out b1)
    clear b1 X0 Y0 B0 x0 x1 x2 x3 x4 x5 x6 x7 x8 x9 x10 x11 x12 y0 y1 y2 y3 y4 y5 y6 y7 y8 y9 y10 y11 y12
    obtain ⟨x0, x1, x2, x3, x4, x5, x6, x7, x8, x9, x10, x11, x12⟩ := EntAt.of X1.out
    obtain ⟨y0, y1, y2, y3, y4, y5, y6, y7, y8, y9, y10, y11, y12⟩ := EntAt.of Y1.out
    go_wp2_with fail
    refine (CG2.out _).mono ?_
    rintro e0 w2 ⟨rfl, b2⟩
    have X2 := Lib.hid (X1.out.below b2)
    have Y2 := Lib.hid (Y1.out.below b2)
    have B2 := Lib.hid (bup B1.out b2)
    clear b2 X1 Y1 B1 x0 x1 x2 x3 x4 x5 x6 x7 x8 x9 x10 x11 x12 y0 y1 y2 y3 y4 y5 y6 y7 y8 y9 y10 y11 y12
    obtain ⟨x0, x1, x2, x3, x4, x5, x6, x7, x8, x9, x10, x11, x12⟩ := EntAt.of X2.out
    obtain ⟨y0, y1, y2, y3, y4, y5, y6, y7, y8, y9, y10, y11, y12⟩ := EntAt.of Y2.out
    go_wp2_with fail
    refine (C1.out _).mono ?_
    rintro e0 w3 ⟨rfl, b3⟩
    have X3 := Lib.hid (X2.out.below b3)
    have Y3 := Lib.hid (Y2.out.below b3)
    have B3 := Lib.hid (bup B2.out b3)
    clear b3 X2 Y2 B2 x0 x1 x2 x3 x4 x5 x6 x7 x8 x9 x10 x11 x12 y0 y1 y2 y3 y4 y5 y6 y7 y8 y9 y10 y11 y12
    obtain ⟨x0, x1, x2, x3, x4, x5, x6, x7, x8, x9, x10, x11, x12⟩ := EntAt.of X3.out
    obtain ⟨y0, y1, y2, y3, y4, y5, y6, y7, y8, y9, y10, y11, y12⟩ := EntAt.of Y3.out
    go_wp2_with fail
    refine (C3.out _).mono ?_
    rintro e0 w4 ⟨rfl, b4⟩
    have X4 := Lib.hid (X3.out.below b4)
    have Y4 := Lib.hid (Y3.out.below b4)
    have B4 := Lib.hid (bup B3.out b4)
    clear b4 X3 Y3 B3 x0 x1 x2 x3 x4 x5 x6 x7 x8 x9 x10 x11 x12 y0 y1 y2 y3 y4 y5 y6 y7 y8 y9 y10 y11 y12
    obtain ⟨x0, x1, x2, x3, x4, x5, x6, x7, x8, x9, x10, x11, x12⟩ := EntAt.of X4.out
    obtain ⟨y0, y1, y2, y3, y4, y5, y6, y7, y8, y9, y10, y11, y12⟩ := EntAt.of Y4.out
    go_wp2_with fail
    refine (C4.out _).mono ?_
    rintro e0 w5 ⟨rfl, b5⟩
    have X5 := Lib.hid (X4.out.below b5)
    have Y5 := Lib.hid (Y4.out.below b5)
    have B5 := Lib.hid (bup B4.out b5)
    clear b5 X4 Y4 B4 x0 x1 x2 x3 x4 x5 x6 x7 x8 x9 x10 x11 x12 y0 y1 y2 y3 y4 y5 y6 y7 y8 y9 y10 y11 y12
    obtain ⟨x0, x1, x2, x3, x4, x5, x6, x7, x8, x9, x10, x11, x12⟩ := EntAt.of X5.out
    obtain ⟨y0, y1, y2, y3, y4, y5, y6, y7, y8, y9, y10, y11, y12⟩ := EntAt.of Y5.out
    go_wp2_with fail
    go_ret
    exact ⟨rfl, B5.out⟩
  rw [hx] at C1
  rw [g] at C3
  have CD1 := CD X (by rw [bs_size, List.length_append]; omega)
  rw [bs_data, hdx] at CD1
  simp only [decERes] at CD1
  have hadd := fun w => add_lists' (P := Try.prog) X R (by omega) w
  have hXs : (bs X).size = X.length := bs_size X
  have hX9 : X.length ≤ 9223372036854775807 := by omega
  clear g hx hdx CD C4
  rcases hy with hy | ⟨hy, Y, hYl, hye, heq⟩
  · rw [PY hy] at C2
    clear PY hy CE2
    obtain ⟨k, c, e, n, l, p, pg, sl, wu, wd, iu, ix, nx⟩ := x
    obtain ⟨k', c', e', n', l', p', pg', sl', wu', wd', iu', ix', nx'⟩ := y
    simp only [Ent.val, Ent.row] at CG1 CG2 C1 C2 C3 CD1 CE ⊢
    replace CG1 := Lib.hid CG1
    replace CG2 := Lib.hid CG2
    replace C1 := Lib.hid C1
    replace C2 := Lib.hid C2
    replace C3 := Lib.hid C3
    replace CD1 := Lib.hid CD1
    go_enter Try.func5, Try.ntmps5
    go_wp2_with fail
    refine (CA.out _).mono ?_
    rintro e0 w0 ⟨rfl, b0⟩
    have X0 := Lib.hid (((Has.new w (.cells #[.int .i64 k, .int .i64 c, .int .i64 e, .int .i64 n, .int .i64 l, .int .i64 p, .int .i64 pg, .int .i64 sl, .bool wu, .string wd, .bool iu, .string ix, .int .i64 nx] 27)).alloc (.cells #[.int .i64 k', .int .i64 c', .int .i64 e', .int .i64 n', .int .i64 l', .int .i64 p', .int .i64 pg', .int .i64 sl', .bool wu', .string wd', .bool iu', .string ix', .int .i64 nx'] 27)).below b0)
    have Y0 := Lib.hid ((Has.new1 w (.cells #[.int .i64 k, .int .i64 c, .int .i64 e, .int .i64 n, .int .i64 l, .int .i64 p, .int .i64 pg, .int .i64 sl, .bool wu, .string wd, .bool iu, .string ix, .int .i64 nx] 27) (.cells #[.int .i64 k', .int .i64 c', .int .i64 e', .int .i64 n', .int .i64 l', .int .i64 p', .int .i64 pg', .int .i64 sl', .bool wu', .string wd', .bool iu', .string ix', .int .i64 nx'] 27)).below b0)
    have B0 := Lib.hid (bup (bup (bnew w _) (bnew _ _)) b0)
    clear b0
    obtain ⟨x0, x1, x2, x3, x4, x5, x6, x7, x8, x9, x10, x11, x12⟩ := EntAt.of X0.out
    obtain ⟨y0, y1, y2, y3, y4, y5, y6, y7, y8, y9, y10, y11, y12⟩ := EntAt.of Y0.out
    go_wp2_with fail
    refine (CG1.out _).mono ?_
    rintro e0 w1 ⟨rfl, b1⟩
    have X1 := Lib.hid (X0.out.below b1)
    have Y1 := Lib.hid (Y0.out.below b1)
    have B1 := Lib.hid (bup B0.out b1)
    clear b1 X0 Y0 B0 x0 x1 x2 x3 x4 x5 x6 x7 x8 x9 x10 x11 x12 y0 y1 y2 y3 y4 y5 y6 y7 y8 y9 y10 y11 y12
    obtain ⟨x0, x1, x2, x3, x4, x5, x6, x7, x8, x9, x10, x11, x12⟩ := EntAt.of X1.out
    obtain ⟨y0, y1, y2, y3, y4, y5, y6, y7, y8, y9, y10, y11, y12⟩ := EntAt.of Y1.out
    go_wp2_with fail
    refine (CG2.out _).mono ?_
    rintro e0 w2 ⟨rfl, b2⟩
    have X2 := Lib.hid (X1.out.below b2)
    have Y2 := Lib.hid (Y1.out.below b2)
    have B2 := Lib.hid (bup B1.out b2)
    clear b2 X1 Y1 B1 x0 x1 x2 x3 x4 x5 x6 x7 x8 x9 x10 x11 x12 y0 y1 y2 y3 y4 y5 y6 y7 y8 y9 y10 y11 y12
    obtain ⟨x0, x1, x2, x3, x4, x5, x6, x7, x8, x9, x10, x11, x12⟩ := EntAt.of X2.out
    obtain ⟨y0, y1, y2, y3, y4, y5, y6, y7, y8, y9, y10, y11, y12⟩ := EntAt.of Y2.out
    go_wp2_with fail
    refine (C1.out _).mono ?_
    rintro e0 w3 ⟨rfl, b3⟩
    have X3 := Lib.hid (X2.out.below b3)
    have Y3 := Lib.hid (Y2.out.below b3)
    have B3 := Lib.hid (bup B2.out b3)
    clear b3 X2 Y2 B2 x0 x1 x2 x3 x4 x5 x6 x7 x8 x9 x10 x11 x12 y0 y1 y2 y3 y4 y5 y6 y7 y8 y9 y10 y11 y12
    obtain ⟨x0, x1, x2, x3, x4, x5, x6, x7, x8, x9, x10, x11, x12⟩ := EntAt.of X3.out
    obtain ⟨y0, y1, y2, y3, y4, y5, y6, y7, y8, y9, y10, y11, y12⟩ := EntAt.of Y3.out
    go_wp2_with fail
    refine (C3.out _).mono ?_
    rintro e0 w4 ⟨rfl, b4⟩
    have X4 := Lib.hid (X3.out.below b4)
    have Y4 := Lib.hid (Y3.out.below b4)
    have B4 := Lib.hid (bup B3.out b4)
    clear b4 X3 Y3 B3 x0 x1 x2 x3 x4 x5 x6 x7 x8 x9 x10 x11 x12 y0 y1 y2 y3 y4 y5 y6 y7 y8 y9 y10 y11 y12
    obtain ⟨x0, x1, x2, x3, x4, x5, x6, x7, x8, x9, x10, x11, x12⟩ := EntAt.of X4.out
    obtain ⟨y0, y1, y2, y3, y4, y5, y6, y7, y8, y9, y10, y11, y12⟩ := EntAt.of Y4.out
    go_wp2_with fail
    refine (CD1.out _).mono ?_
    rintro e0 w5 ⟨rfl, b5⟩
    have X5 := Lib.hid ((X4.out.below b5).alloc (.cells #[.int .i64 k, .int .i64 c, .int .i64 e, .int .i64 n, .int .i64 l, .int .i64 p, .int .i64 pg, .int .i64 sl, .bool wu, .string wd, .bool iu, .string ix, .int .i64 nx] 27))
    have Y5 := Lib.hid ((Y4.out.below b5).alloc (.cells #[.int .i64 k, .int .i64 c, .int .i64 e, .int .i64 n, .int .i64 l, .int .i64 p, .int .i64 pg, .int .i64 sl, .bool wu, .string wd, .bool iu, .string ix, .int .i64 nx] 27))
    have Z5 := Lib.hid (Has.new w5 (.cells #[.int .i64 k, .int .i64 c, .int .i64 e, .int .i64 n, .int .i64 l, .int .i64 p, .int .i64 pg, .int .i64 sl, .bool wu, .string wd, .bool iu, .string ix, .int .i64 nx] 27))
    have B5 := Lib.hid (bup (bup B4.out b5) (bnew w5 (.cells #[.int .i64 k, .int .i64 c, .int .i64 e, .int .i64 n, .int .i64 l, .int .i64 p, .int .i64 pg, .int .i64 sl, .bool wu, .string wd, .bool iu, .string ix, .int .i64 nx] 27)))
    clear b5 X4 Y4 B4 x0 x1 x2 x3 x4 x5 x6 x7 x8 x9 x10 x11 x12 y0 y1 y2 y3 y4 y5 y6 y7 y8 y9 y10 y11 y12
    go_upto_region 11 with (fail)
    generalize hw6 : World.alloc w5 _ = w6
    rw [hw6] at X5 Y5 Z5 B5
    clear hw6
    obtain ⟨x0, x1, x2, x3, x4, x5, x6, x7, x8, x9, x10, x11, x12⟩ := EntAt.of X5.out
    obtain ⟨y0, y1, y2, y3, y4, y5, y6, y7, y8, y9, y10, y11, y12⟩ := EntAt.of Y5.out
    go_wp2_with fail
    refine (C2.out _).mono ?_
    rintro e0 w7 ⟨rfl, b7⟩
    have X7 := Lib.hid (X5.out.below b7)
    have Y7 := Lib.hid (Y5.out.below b7)
    have Z7 := Lib.hid (Z5.out.below b7)
    have B7 := Lib.hid (bup B5.out b7)
    clear b7 X5 Y5 Z5 B5 x0 x1 x2 x3 x4 x5 x6 x7 x8 x9 x10 x11 x12 y0 y1 y2 y3 y4 y5 y6 y7 y8 y9 y10 y11 y12
    go_upto_region 13 with (fail)
    have x0 := X7.out.cell 0 _ rfl
    have x1 := X7.out.cell 1 _ rfl
    have x2 := X7.out.cell 2 _ rfl
    have x3 := X7.out.cell 3 _ rfl
    have x4 := X7.out.cell 4 _ rfl
    have x5 := X7.out.cell 5 _ rfl
    have x6 := X7.out.cell 6 _ rfl
    have x7 := X7.out.cell 7 _ rfl
    have x8 := X7.out.cell 8 _ rfl
    have x9 := X7.out.cell 9 _ rfl
    have x10 := X7.out.cell 10 _ rfl
    have x11 := X7.out.cell 11 _ rfl
    have x12 := X7.out.cell 12 _ rfl
    have z0 := Z7.out.cell 0 _ rfl
    have z1 := Z7.out.cell 1 _ rfl
    have z2 := Z7.out.cell 2 _ rfl
    have z3 := Z7.out.cell 3 _ rfl
    have z4 := Z7.out.cell 4 _ rfl
    have z5 := Z7.out.cell 5 _ rfl
    have z6 := Z7.out.cell 6 _ rfl
    have z7 := Z7.out.cell 7 _ rfl
    have z8 := Z7.out.cell 8 _ rfl
    have z9 := Z7.out.cell 9 _ rfl
    have z10 := Z7.out.cell 10 _ rfl
    have z11 := Z7.out.cell 11 _ rfl
    have z12 := Z7.out.cell 12 _ rfl
    generalize hmm : (if (bs []).size < X.length then ((bs []).size : Int) else (X.length : Int)) = mm
    clear hmm
    go_quiet (fail)
    go_wp2_with fail
    go_ret
    exact ⟨congrArg (fun b => Ending.returned (.bool b)) (by simp), bup B7.out (draws_below _ _)⟩
  · rw [hye] at C2
    have hYs : (bs Y).size = Y.length := bs_size Y
    obtain ⟨m, hm⟩ : ∃ m, min X.length Y.length = m := ⟨_, rfl⟩
    have heq := heq m hm.symm
    have hmin : (if Y.length < X.length then (Y.length : Int) else (X.length : Int)) = (m : Int) := by split <;> omega
    have hmX : m ≤ X.length := by omega
    have hmY : m ≤ Y.length := by omega
    have hcX := fun n => ent_take X n
    have hcY := fun n => ent_take Y n
    obtain ⟨E, hE⟩ : ∃ E, x.eqB y = E := ⟨_, rfl⟩
    rw [hE] at heq CE2
    clear PY hy hye hm hE
    obtain ⟨k, c, e, n, l, p, pg, sl, wu, wd, iu, ix, nx⟩ := x
    obtain ⟨k', c', e', n', l', p', pg', sl', wu', wd', iu', ix', nx'⟩ := y
    simp only [Ent.val, Ent.row] at CG1 CG2 C1 C2 C3 CD1 CE CE2 ⊢
    replace CG1 := Lib.hid CG1
    replace CG2 := Lib.hid CG2
    replace C1 := Lib.hid C1
    replace C2 := Lib.hid C2
    replace C3 := Lib.hid C3
    replace CD1 := Lib.hid CD1
    go_enter Try.func5, Try.ntmps5
    go_wp2_with fail
    refine (CA.out _).mono ?_
    rintro e0 w0 ⟨rfl, b0⟩
    have X0 := Lib.hid (((Has.new w (.cells #[.int .i64 k, .int .i64 c, .int .i64 e, .int .i64 n, .int .i64 l, .int .i64 p, .int .i64 pg, .int .i64 sl, .bool wu, .string wd, .bool iu, .string ix, .int .i64 nx] 27)).alloc (.cells #[.int .i64 k', .int .i64 c', .int .i64 e', .int .i64 n', .int .i64 l', .int .i64 p', .int .i64 pg', .int .i64 sl', .bool wu', .string wd', .bool iu', .string ix', .int .i64 nx'] 27)).below b0)
    have Y0 := Lib.hid ((Has.new1 w (.cells #[.int .i64 k, .int .i64 c, .int .i64 e, .int .i64 n, .int .i64 l, .int .i64 p, .int .i64 pg, .int .i64 sl, .bool wu, .string wd, .bool iu, .string ix, .int .i64 nx] 27) (.cells #[.int .i64 k', .int .i64 c', .int .i64 e', .int .i64 n', .int .i64 l', .int .i64 p', .int .i64 pg', .int .i64 sl', .bool wu', .string wd', .bool iu', .string ix', .int .i64 nx'] 27)).below b0)
    have B0 := Lib.hid (bup (bup (bnew w _) (bnew _ _)) b0)
    clear b0
    obtain ⟨x0, x1, x2, x3, x4, x5, x6, x7, x8, x9, x10, x11, x12⟩ := EntAt.of X0.out
    obtain ⟨y0, y1, y2, y3, y4, y5, y6, y7, y8, y9, y10, y11, y12⟩ := EntAt.of Y0.out
    go_wp2_with fail
    refine (CG1.out _).mono ?_
    rintro e0 w1 ⟨rfl, b1⟩
    have X1 := Lib.hid (X0.out.below b1)
    have Y1 := Lib.hid (Y0.out.below b1)
    have B1 := Lib.hid (bup B0.out b1)
    clear b1 X0 Y0 B0 x0 x1 x2 x3 x4 x5 x6 x7 x8 x9 x10 x11 x12 y0 y1 y2 y3 y4 y5 y6 y7 y8 y9 y10 y11 y12
    obtain ⟨x0, x1, x2, x3, x4, x5, x6, x7, x8, x9, x10, x11, x12⟩ := EntAt.of X1.out
    obtain ⟨y0, y1, y2, y3, y4, y5, y6, y7, y8, y9, y10, y11, y12⟩ := EntAt.of Y1.out
    go_wp2_with fail
    refine (CG2.out _).mono ?_
    rintro e0 w2 ⟨rfl, b2⟩
    have X2 := Lib.hid (X1.out.below b2)
    have Y2 := Lib.hid (Y1.out.below b2)
    have B2 := Lib.hid (bup B1.out b2)
    clear b2 X1 Y1 B1 x0 x1 x2 x3 x4 x5 x6 x7 x8 x9 x10 x11 x12 y0 y1 y2 y3 y4 y5 y6 y7 y8 y9 y10 y11 y12
    obtain ⟨x0, x1, x2, x3, x4, x5, x6, x7, x8, x9, x10, x11, x12⟩ := EntAt.of X2.out
    obtain ⟨y0, y1, y2, y3, y4, y5, y6, y7, y8, y9, y10, y11, y12⟩ := EntAt.of Y2.out
    go_wp2_with fail
    refine (C1.out _).mono ?_
    rintro e0 w3 ⟨rfl, b3⟩
    have X3 := Lib.hid (X2.out.below b3)
    have Y3 := Lib.hid (Y2.out.below b3)
    have B3 := Lib.hid (bup B2.out b3)
    clear b3 X2 Y2 B2 x0 x1 x2 x3 x4 x5 x6 x7 x8 x9 x10 x11 x12 y0 y1 y2 y3 y4 y5 y6 y7 y8 y9 y10 y11 y12
    obtain ⟨x0, x1, x2, x3, x4, x5, x6, x7, x8, x9, x10, x11, x12⟩ := EntAt.of X3.out
    obtain ⟨y0, y1, y2, y3, y4, y5, y6, y7, y8, y9, y10, y11, y12⟩ := EntAt.of Y3.out
    go_wp2_with fail
    refine (C3.out _).mono ?_
    rintro e0 w4 ⟨rfl, b4⟩
    have X4 := Lib.hid (X3.out.below b4)
    have Y4 := Lib.hid (Y3.out.below b4)
    have B4 := Lib.hid (bup B3.out b4)
    clear b4 X3 Y3 B3 x0 x1 x2 x3 x4 x5 x6 x7 x8 x9 x10 x11 x12 y0 y1 y2 y3 y4 y5 y6 y7 y8 y9 y10 y11 y12
    obtain ⟨x0, x1, x2, x3, x4, x5, x6, x7, x8, x9, x10, x11, x12⟩ := EntAt.of X4.out
    obtain ⟨y0, y1, y2, y3, y4, y5, y6, y7, y8, y9, y10, y11, y12⟩ := EntAt.of Y4.out
    go_wp2_with fail
    refine (CD1.out _).mono ?_
    rintro e0 w5 ⟨rfl, b5⟩
    have X5 := Lib.hid ((X4.out.below b5).alloc (.cells #[.int .i64 k, .int .i64 c, .int .i64 e, .int .i64 n, .int .i64 l, .int .i64 p, .int .i64 pg, .int .i64 sl, .bool wu, .string wd, .bool iu, .string ix, .int .i64 nx] 27))
    have Y5 := Lib.hid ((Y4.out.below b5).alloc (.cells #[.int .i64 k, .int .i64 c, .int .i64 e, .int .i64 n, .int .i64 l, .int .i64 p, .int .i64 pg, .int .i64 sl, .bool wu, .string wd, .bool iu, .string ix, .int .i64 nx] 27))
    have Z5 := Lib.hid (Has.new w5 (.cells #[.int .i64 k, .int .i64 c, .int .i64 e, .int .i64 n, .int .i64 l, .int .i64 p, .int .i64 pg, .int .i64 sl, .bool wu, .string wd, .bool iu, .string ix, .int .i64 nx] 27))
    have B5 := Lib.hid (bup (bup B4.out b5) (bnew w5 (.cells #[.int .i64 k, .int .i64 c, .int .i64 e, .int .i64 n, .int .i64 l, .int .i64 p, .int .i64 pg, .int .i64 sl, .bool wu, .string wd, .bool iu, .string ix, .int .i64 nx] 27)))
    clear b5 X4 Y4 B4 x0 x1 x2 x3 x4 x5 x6 x7 x8 x9 x10 x11 x12 y0 y1 y2 y3 y4 y5 y6 y7 y8 y9 y10 y11 y12
    go_upto_region 11 with (fail)
    generalize hw6 : World.alloc w5 _ = w6
    rw [hw6] at X5 Y5 Z5 B5
    clear hw6
    obtain ⟨x0, x1, x2, x3, x4, x5, x6, x7, x8, x9, x10, x11, x12⟩ := EntAt.of X5.out
    obtain ⟨y0, y1, y2, y3, y4, y5, y6, y7, y8, y9, y10, y11, y12⟩ := EntAt.of Y5.out
    go_wp2_with fail
    refine (C2.out _).mono ?_
    rintro e0 w7 ⟨rfl, b7⟩
    have X7 := Lib.hid (X5.out.below b7)
    have Y7 := Lib.hid (Y5.out.below b7)
    have Z7 := Lib.hid (Z5.out.below b7)
    have B7 := Lib.hid (bup B5.out b7)
    clear b7 X5 Y5 Z5 B5 x0 x1 x2 x3 x4 x5 x6 x7 x8 x9 x10 x11 x12 y0 y1 y2 y3 y4 y5 y6 y7 y8 y9 y10 y11 y12
    go_upto_region 13 with (fail)
    have x0 := X7.out.cell 0 _ rfl
    have x1 := X7.out.cell 1 _ rfl
    have x2 := X7.out.cell 2 _ rfl
    have x3 := X7.out.cell 3 _ rfl
    have x4 := X7.out.cell 4 _ rfl
    have x5 := X7.out.cell 5 _ rfl
    have x6 := X7.out.cell 6 _ rfl
    have x7 := X7.out.cell 7 _ rfl
    have x8 := X7.out.cell 8 _ rfl
    have x9 := X7.out.cell 9 _ rfl
    have x10 := X7.out.cell 10 _ rfl
    have x11 := X7.out.cell 11 _ rfl
    have x12 := X7.out.cell 12 _ rfl
    have z0 := Z7.out.cell 0 _ rfl
    have z1 := Z7.out.cell 1 _ rfl
    have z2 := Z7.out.cell 2 _ rfl
    have z3 := Z7.out.cell 3 _ rfl
    have z4 := Z7.out.cell 4 _ rfl
    have z5 := Z7.out.cell 5 _ rfl
    have z6 := Z7.out.cell 6 _ rfl
    have z7 := Z7.out.cell 7 _ rfl
    have z8 := Z7.out.cell 8 _ rfl
    have z9 := Z7.out.cell 9 _ rfl
    have z10 := Z7.out.cell 10 _ rfl
    have z11 := Z7.out.cell 11 _ rfl
    have z12 := Z7.out.cell 12 _ rfl
    have y0 := Y7.out.cell 0 _ rfl
    have y1 := Y7.out.cell 1 _ rfl
    have y2 := Y7.out.cell 2 _ rfl
    have y3 := Y7.out.cell 3 _ rfl
    have y4 := Y7.out.cell 4 _ rfl
    have y5 := Y7.out.cell 5 _ rfl
    have y6 := Y7.out.cell 6 _ rfl
    have y7 := Y7.out.cell 7 _ rfl
    have y8 := Y7.out.cell 8 _ rfl
    have y9 := Y7.out.cell 9 _ rfl
    have y10 := Y7.out.cell 10 _ rfl
    have y11 := Y7.out.cell 11 _ rfl
    have y12 := Y7.out.cell 12 _ rfl
    go_quiet (fail)
    go_wp2_with fail
    go_ret
    exact ⟨congrArg (fun b => Ending.returned (.bool b)) (by simp), bup B7.out (draws_below _ _)⟩
end Go.Proofs.Yteknaeemjgpgbaa
