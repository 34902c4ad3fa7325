/-
  The walk of a statement of layer 4: what entries cost.
-/
import Derived.Test.YteknaeemjgpgbaaEntAwake
namespace Go.Proofs.Yteknaeemjgpgbaa
open Go.RowKit Go.Sort NibPure
set_option linter.unusedVariables false
set_option linter.unusedSimpArgs false

set_option maxRecDepth 100000 in
set_option maxHeartbeats 8000000 in
theorem EntryCosts_walk (x : Ent) (hw : x.wd.size ≤ 140737488351232) (hi : x.ix.size ≤ 140737488351232) (w : World) :
    Calls Try.prog 7 #[x.val] w fun e w' => e = .returned (.bool true) ∧ Below w.heap.size w w' := by
  have CA := Lib.hid entAwake_any
  have CG := fun w => entGreat_any x (by omega) (by omega) w
  have C1 := fun w => good_any x (by omega) (by omega) w
  have C2 := fun w => cost_any x (by omega) (by omega) w
  have C3 := fun w => good_any x.undo (by simp only [Ent.undo]; omega) (by simp only [Ent.undo]; omega) w
  have C4 := fun w => cost_any x.undo (by simp only [Ent.undo]; omega) (by simp only [Ent.undo]; omega) w
  obtain ⟨G, hG⟩ : ∃ G, x.great = G := ⟨_, rfl⟩
  obtain ⟨O, hO⟩ : ∃ G, x.good = G := ⟨_, rfl⟩
  obtain ⟨O2, hO2⟩ : ∃ G, x.undo.good = G := ⟨_, rfl⟩
  obtain ⟨N, hN⟩ : ∃ G, x.cost = G := ⟨_, rfl⟩
  obtain ⟨N2, hN2⟩ : ∃ G, x.undo.cost = G := ⟨_, rfl⟩
  have F1 : O = true → 2 ≤ N ∧ N ≤ 3 := fun h => by subst hN; exact cost_bounds x (hO.trans h)
  have F2 : O2 = true → 2 ≤ N2 ∧ N2 ≤ 3 := fun h => by subst hN2; exact cost_bounds x.undo (hO2.trans h)
  have F3 : O = true → x.kind = 1 → x.lsn ≠ 1099511627776 → O2 = true := fun h h1 h2 => by subst hO2; exact undo_good x (hO.trans h) h1 h2
  have F4 : O = true → 1 ≤ x.lsn ∧ x.lsn ≤ 1099511627776 := fun h => by
    have := (good_facts x (hO.trans h)).1 4 (by omega)
    have h2 := hO.trans h
    simp only [Ent.good, Bool.and_eq_true, Ent.lsnB, decide_eq_true_eq] at h2
    exact h2.1.2.1
  rw [hG] at CG
  rw [hO] at C1
  rw [hN] at C2
  rw [hO2] at C3
  rw [hN2] at C4
  clear hG hO hO2 hN hN2
  obtain ⟨k, c, e, n, l, p, pg, sl, wu, wd, iu, ix, nx⟩ := x
  simp only [Ent.val, Ent.row, Ent.undo] at CG C1 C2 C3 C4 F3 F4 ⊢
  replace CG := Lib.hid CG
  replace C1 := Lib.hid C1
  replace C2 := Lib.hid C2
  replace C3 := Lib.hid C3
  replace C4 := Lib.hid C4
  cases G with
  | true =>
    clear F1 F2 F3 F4
    go_enter Try.func7, Try.ntmps7
    go_wp2_with fail
    refine (CA.out _).mono ?_
    rintro e w1 ⟨rfl, b1⟩
    have X1 := Lib.hid ((Has.new w _).below b1)
    have B1 := Lib.hid (bup (bnew w _) b1)
    clear b1
    obtain ⟨x0, x1, x2, x3, x4, x5, x6, x7, x8, x9, x10, x11, x12⟩ := EntAt.of X1.out
    go_wp2_with fail
    refine (CG.out _).mono ?_
    rintro e w2 ⟨rfl, b2⟩
    have X2 := Lib.hid (X1.out.below b2)
    have B2 := Lib.hid (bup B1.out b2)
    clear b2 X1 B1 x0 x1 x2 x3 x4 x5 x6 x7 x8 x9 x10 x11 x12
    obtain ⟨x0, x1, x2, x3, x4, x5, x6, x7, x8, x9, x10, x11, x12⟩ := EntAt.of X2.out
    go_wp2_with fail
    go_ret
    exact ⟨rfl, B2.out⟩
  | false =>
  cases O with
  | false =>
    clear F1 F2 F3 F4
    go_enter Try.func7, Try.ntmps7
    go_wp2_with fail
    refine (CA.out _).mono ?_
    rintro e w1 ⟨rfl, b1⟩
    have X1 := Lib.hid ((Has.new w _).below b1)
    have B1 := Lib.hid (bup (bnew w _) b1)
    clear b1
    obtain ⟨x0, x1, x2, x3, x4, x5, x6, x7, x8, x9, x10, x11, x12⟩ := EntAt.of X1.out
    go_wp2_with fail
    refine (CG.out _).mono ?_
    rintro e w2 ⟨rfl, b2⟩
    have X2 := Lib.hid (X1.out.below b2)
    have B2 := Lib.hid (bup B1.out b2)
    clear b2 X1 B1 x0 x1 x2 x3 x4 x5 x6 x7 x8 x9 x10 x11 x12
    obtain ⟨x0, x1, x2, x3, x4, x5, x6, x7, x8, x9, x10, x11, x12⟩ := EntAt.of X2.out
    go_wp2_with fail
    refine (C1.out _).mono ?_
    rintro e w3 ⟨rfl, b3⟩
    have X3 := Lib.hid (X2.out.below b3)
    have B3 := Lib.hid (bup B2.out b3)
    clear b3 X2 B2 x0 x1 x2 x3 x4 x5 x6 x7 x8 x9 x10 x11 x12
    obtain ⟨x0, x1, x2, x3, x4, x5, x6, x7, x8, x9, x10, x11, x12⟩ := EntAt.of X3.out
    go_wp2_with fail
    go_ret
    exact ⟨rfl, B3.out⟩
  | true =>
  obtain ⟨f1, f2⟩ := F1 rfl
  obtain ⟨f3, f4⟩ := F4 rfl
  replace F3 := F3 rfl
  clear F1 F4
  have hk : (k != 1) = true ∨ k = 1 := by simp; omega
  rcases hk with hk | rfl
  · clear F2 F3
    go_enter Try.func7, Try.ntmps7
    go_wp2_with fail
    refine (CA.out _).mono ?_
    rintro e w1 ⟨rfl, b1⟩
    have X1 := Lib.hid ((Has.new w _).below b1)
    have B1 := Lib.hid (bup (bnew w _) b1)
    clear b1
    obtain ⟨x0, x1, x2, x3, x4, x5, x6, x7, x8, x9, x10, x11, x12⟩ := EntAt.of X1.out
    go_wp2_with fail
    refine (CG.out _).mono ?_
    rintro e w2 ⟨rfl, b2⟩
    have X2 := Lib.hid (X1.out.below b2)
    have B2 := Lib.hid (bup B1.out b2)
    clear b2 X1 B1 x0 x1 x2 x3 x4 x5 x6 x7 x8 x9 x10 x11 x12
    obtain ⟨x0, x1, x2, x3, x4, x5, x6, x7, x8, x9, x10, x11, x12⟩ := EntAt.of X2.out
    go_wp2_with fail
    refine (C1.out _).mono ?_
    rintro e w3 ⟨rfl, b3⟩
    have X3 := Lib.hid (X2.out.below b3)
    have B3 := Lib.hid (bup B2.out b3)
    clear b3 X2 B2 x0 x1 x2 x3 x4 x5 x6 x7 x8 x9 x10 x11 x12
    obtain ⟨x0, x1, x2, x3, x4, x5, x6, x7, x8, x9, x10, x11, x12⟩ := EntAt.of X3.out
    go_wp2_with fail
    refine (C2.out _).mono ?_
    rintro e w4 ⟨rfl, b4⟩
    have X4 := Lib.hid (X3.out.below b4)
    have B4 := Lib.hid (bup B3.out b4)
    clear b4 X3 B3 x0 x1 x2 x3 x4 x5 x6 x7 x8 x9 x10 x11 x12
    obtain ⟨x0, x1, x2, x3, x4, x5, x6, x7, x8, x9, x10, x11, x12⟩ := EntAt.of X4.out
    go_wp2_with fail
    go_ret
    exact ⟨rfl, B4.out⟩
  have hl : (l == 1099511627776) = true ∨ ((l == 1099511627776) = false ∧ l < 1099511627776) := by
    by_cases h : l = 1099511627776
    · exact .inl (by simp [h])
    · exact .inr ⟨by simp [h], by omega⟩
  rcases hl with hl | ⟨hl, hl2⟩
  · clear F2 F3
    go_enter Try.func7, Try.ntmps7
    go_wp2_with fail
    refine (CA.out _).mono ?_
    rintro e w1 ⟨rfl, b1⟩
    have X1 := Lib.hid ((Has.new w _).below b1)
    have B1 := Lib.hid (bup (bnew w _) b1)
    clear b1
    obtain ⟨x0, x1, x2, x3, x4, x5, x6, x7, x8, x9, x10, x11, x12⟩ := EntAt.of X1.out
    go_wp2_with fail
    refine (CG.out _).mono ?_
    rintro e w2 ⟨rfl, b2⟩
    have X2 := Lib.hid (X1.out.below b2)
    have B2 := Lib.hid (bup B1.out b2)
    clear b2 X1 B1 x0 x1 x2 x3 x4 x5 x6 x7 x8 x9 x10 x11 x12
    obtain ⟨x0, x1, x2, x3, x4, x5, x6, x7, x8, x9, x10, x11, x12⟩ := EntAt.of X2.out
    go_wp2_with fail
    refine (C1.out _).mono ?_
    rintro e w3 ⟨rfl, b3⟩
    have X3 := Lib.hid (X2.out.below b3)
    have B3 := Lib.hid (bup B2.out b3)
    clear b3 X2 B2 x0 x1 x2 x3 x4 x5 x6 x7 x8 x9 x10 x11 x12
    obtain ⟨x0, x1, x2, x3, x4, x5, x6, x7, x8, x9, x10, x11, x12⟩ := EntAt.of X3.out
    go_wp2_with fail
    refine (C2.out _).mono ?_
    rintro e w4 ⟨rfl, b4⟩
    have X4 := Lib.hid (X3.out.below b4)
    have B4 := Lib.hid (bup B3.out b4)
    clear b4 X3 B3 x0 x1 x2 x3 x4 x5 x6 x7 x8 x9 x10 x11 x12
    obtain ⟨x0, x1, x2, x3, x4, x5, x6, x7, x8, x9, x10, x11, x12⟩ := EntAt.of X4.out
    go_wp2_with fail
    go_ret
    exact ⟨rfl, B4.out⟩
  have F3 := F3 rfl (by omega)
  subst F3
  obtain ⟨f5, f6⟩ := F2 rfl
  clear F2
  go_enter Try.func7, Try.ntmps7
  go_wp2_with fail
  refine (CA.out _).mono ?_
  rintro e w1 ⟨rfl, b1⟩
  have X1 := Lib.hid ((Has.new w _).below b1)
  have B1 := Lib.hid (bup (bnew w _) b1)
  clear b1
  obtain ⟨x0, x1, x2, x3, x4, x5, x6, x7, x8, x9, x10, x11, x12⟩ := EntAt.of X1.out
  go_wp2_with fail
  refine (CG.out _).mono ?_
  rintro e w2 ⟨rfl, b2⟩
  have X2 := Lib.hid (X1.out.below b2)
  have B2 := Lib.hid (bup B1.out b2)
  clear b2 X1 B1 x0 x1 x2 x3 x4 x5 x6 x7 x8 x9 x10 x11 x12
  obtain ⟨x0, x1, x2, x3, x4, x5, x6, x7, x8, x9, x10, x11, x12⟩ := EntAt.of X2.out
  go_wp2_with fail
  refine (C1.out _).mono ?_
  rintro e w3 ⟨rfl, b3⟩
  have X3 := Lib.hid (X2.out.below b3)
  have B3 := Lib.hid (bup B2.out b3)
  clear b3 X2 B2 x0 x1 x2 x3 x4 x5 x6 x7 x8 x9 x10 x11 x12
  obtain ⟨x0, x1, x2, x3, x4, x5, x6, x7, x8, x9, x10, x11, x12⟩ := EntAt.of X3.out
  go_wp2_with fail
  refine (C2.out _).mono ?_
  rintro e w4 ⟨rfl, b4⟩
  have X4 := Lib.hid (X3.out.below b4)
  have B4 := Lib.hid (bup B3.out b4)
  clear b4 X3 B3 x0 x1 x2 x3 x4 x5 x6 x7 x8 x9 x10 x11 x12
  obtain ⟨x0, x1, x2, x3, x4, x5, x6, x7, x8, x9, x10, x11, x12⟩ := EntAt.of X4.out
  have hlt := X4.out.lt
  go_upto_region 11 with (fail)
  generalize hw5 : World.alloc w4 _ = w5
  have X5 := Lib.hid (X4.out.below (show Below w4.heap.size w4 w5 by rw [← hw5]; exact bnew _ _))
  have Y5 : Has w5 w4.heap.size (.cells #[.int .i64 1, .int .i64 c, .int .i64 e, .int .i64 n, .int .i64 l, .int .i64 p, .int .i64 pg, .int .i64 sl, .bool wu, .string wd, .bool iu, .string ix, .int .i64 nx] 27) := by rw [← hw5]; exact Has.new _ _
  have B5 := Lib.hid (bup B4.out (show Below w4.heap.size w4 w5 by rw [← hw5]; exact bnew _ _))
  clear hw5 x0 x1 x2 x3 x4 x5 x6 x7 x8 x9 x10 x11 x12 X4
  obtain ⟨x0, x1, x2, x3, x4, x5, x6, x7, x8, x9, x10, x11, x12⟩ := EntAt.of X5.out
  have f0 := Y5.free 0
  have f4 := Y5.free 4
  have f5' := Y5.free 5
  have f8 := Y5.free 8
  have f9 := Y5.free 9
  have f10 := Y5.free 10
  have f11 := Y5.free 11
  have f12 := Y5.free 12
  have hne : w.heap.size ≠ w4.heap.size := by omega
  clear x0 x1 x2 x3 x6 x7 x12
  obtain ⟨y0, y1, y2, y3, y4, y5, y6, y7, y8, y9, y10, y11, y12⟩ := EntAt.of Y5
  clear y1 y2 y3 y6 y7
  go_upto_region 17 with (fail)
  have Y6 := ((((((((Y5.set 0 (.int .i64 2)).set 8 (.bool iu)).set 9 (.string ix)).set 10 (.bool wu)).set 11 (.string wd)).set 4 (.int .i64 (l + 1))).set 5 (.int .i64 l)).set 12 (.int .i64 p))
  have hle : w.heap.size ≤ w4.heap.size := by omega
  have B6 := (((((((B5.out.setCell (p := ⟨w4.heap.size, 0, none⟩) hle (.int .i64 2)).setCell (p := ⟨w4.heap.size, 8, none⟩) hle (.bool iu)).setCell (p := ⟨w4.heap.size, 9, none⟩) hle (.string ix)).setCell (p := ⟨w4.heap.size, 10, none⟩) hle (.bool wu)).setCell (p := ⟨w4.heap.size, 11, none⟩) hle (.string wd)).setCell (p := ⟨w4.heap.size, 4, none⟩) hle (.int .i64 (l + 1))).setCell (p := ⟨w4.heap.size, 5, none⟩) hle (.int .i64 l)).setCell (p := ⟨w4.heap.size, 12, none⟩) hle (.int .i64 p)
  clear x4 x5 x8 x9 x10 x11 y0 y4 y5 y8 y9 y10 y11 y12 f0 f4 f5' f8 f9 f10 f11 f12 Y5 X5 B5
  generalize hw6 : World.setCell _ _ _ = w6
  rw [hw6] at Y6 B6
  simp only [List.setIfInBounds_toArray, List.set_cons_succ, List.set_cons_zero] at Y6
  replace Y6 := Lib.hid Y6
  replace B6 := Lib.hid B6
  clear hw6
  obtain ⟨y0, y1, y2, y3, y4, y5, y6, y7, y8, y9, y10, y11, y12⟩ := EntAt.of Y6.out
  go_wp2_with fail
  refine (C4.out _).mono ?_
  rintro e w7 ⟨rfl, b7⟩
  have Y7 := Lib.hid (Y6.out.below b7)
  have B7 := Lib.hid (bup B6.out b7)
  clear b7 Y6 B6 y0 y1 y2 y3 y4 y5 y6 y7 y8 y9 y10 y11 y12
  obtain ⟨y0, y1, y2, y3, y4, y5, y6, y7, y8, y9, y10, y11, y12⟩ := EntAt.of Y7.out
  go_wp2_with fail
  refine (C3.out _).mono ?_
  rintro e w8 ⟨rfl, b8⟩
  go_wp2_with fail
  go_ret
  refine ⟨?_, bup B7.out b8⟩
  exact congrArg (fun b => Ending.returned (.bool b)) (by first | rfl | (simp; omega))
end Go.Proofs.Yteknaeemjgpgbaa
