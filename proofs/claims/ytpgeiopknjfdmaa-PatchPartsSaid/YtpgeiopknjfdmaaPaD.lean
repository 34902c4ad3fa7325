/-
  The entry that undoes another one: both answers.
-/
import Derived.Test.YtpgeiopknjfdmaaPaA
import Derived.StillTailTactics
import Derived.Deep.RegionHeld3
namespace Go.Proofs.Ytpgeiopknjfdmaa
open Go.RowKit Go.Sort
set_option linter.unusedVariables false
set_option linter.unusedSimpArgs false

theorem zero_row : Ent.zero.row = #[.int .i64 0, .int .i64 0, .int .i64 0, .int .i64 0, .int .i64 0, .int .i64 0, .int .i64 0, .int .i64 0, .bool false, .string ⟨#[]⟩, .bool false, .string ⟨#[]⟩, .int .i64 0] := rfl
set_option maxRecDepth 100000 in
set_option maxHeartbeats 8000000 in
theorem turn_any (x : Ent) (a b : Int) (w : World) (hw : x.wd.size ≤ 140737488351232) (hi : x.ix.size ≤ 140737488351232) :
    Calls Try.prog 13 #[x.val, .int .i64 a, .int .i64 b] w fun e w' => e = .returned (.tuple #[(turnR x a b).1.val, .int .i64 (turnR x a b).2]) ∧ Below w.heap.size w w' := by
  obtain ⟨R, hR⟩ : ∃ R, turnR x a b = R := ⟨_, rfl⟩
  rw [hR]
  unfold turnR at hR
  have C1 := fun w => good_any x (by omega) (by omega) w
  have C2 := fun w => good_any (x.turn a b) (by simp only [Ent.turn]; omega) (by simp only [Ent.turn]; omega) w
  obtain ⟨b1, h1⟩ : ∃ b, x.good = b := ⟨_, rfl⟩
  obtain ⟨b3, h3⟩ : ∃ c, (x.turn a b).good = c := ⟨_, rfl⟩
  rw [h1] at C1 hR
  rw [h3] at C2 hR
  obtain ⟨fs, hu⟩ := entUnd
  have Hu := Lib.hid hu
  clear hu h1 h3
  obtain ⟨k, cl, ep, m, ls, pv, pg, sl, wu, wd, iu, ix, nx⟩ := x
  simp only [Ent.val, Ent.row, Ent.turn] at C1 C2 hR ⊢
  replace C1 := Lib.hid C1
  replace C2 := Lib.hid C2
  go_enter Try.func13, Try.ntmps13
  go_upto_region 2 with (fail)
  generalize hw0 : World.alloc (World.alloc (World.alloc w _) _) _ = w0
  have X0 : Has w0 w.heap.size (.cells #[.int .i64 k, .int .i64 cl, .int .i64 ep, .int .i64 m, .int .i64 ls, .int .i64 pv, .int .i64 pg, .int .i64 sl, .bool wu, .string wd, .bool iu, .string ix, .int .i64 nx] 30) := by rw [← hw0]; exact ((Has.new w _).alloc _).alloc _
  have Z0 : Has w0 (w.heap.size + 1) (.cells #[.int .i64 0, .int .i64 0, .int .i64 0, .int .i64 0, .int .i64 0, .int .i64 0, .int .i64 0, .int .i64 0, .bool false, .string ⟨#[]⟩, .bool false, .string ⟨#[]⟩, .int .i64 0] 30) := by rw [← hw0]; exact (Has.new1 w _ _).alloc _
  have Y0 : Has w0 (w.heap.size + 1 + 1) (.cells #[.int .i64 k, .int .i64 cl, .int .i64 ep, .int .i64 m, .int .i64 ls, .int .i64 pv, .int .i64 pg, .int .i64 sl, .bool wu, .string wd, .bool iu, .string ix, .int .i64 nx] 30) := by rw [← hw0]; exact Has.new2 w _ _ _
  have B0 : Below w.heap.size w w0 := by rw [← hw0]; exact bup (bup (bnew w _) (bnew _ _)) (bnew _ _)
  clear hw0
  have x5 := X0.cell 5 _ rfl
  have y0 := Y0.cell 0 _ rfl
  have y4 := Y0.cell 4 _ rfl
  have y5 := Y0.cell 5 _ rfl
  have y12 := Y0.cell 12 _ rfl
  have f0 := Y0.free 0
  have f4 := Y0.free 4
  have f5 := Y0.free 5
  have f12 := Y0.free 12
  go_region
  have Y1 := ((((Y0.set 0 (.int .i64 2)).set 4 (.int .i64 a)).set 5 (.int .i64 b)).set 12 (.int .i64 pv)).drew
  have X1 := ((((X0.setOther (show w.heap.size ≠ w.heap.size + 1 + 1 by omega) 0 (.int .i64 2)).setOther (show w.heap.size ≠ w.heap.size + 1 + 1 by omega) 4 (.int .i64 a)).setOther (show w.heap.size ≠ w.heap.size + 1 + 1 by omega) 5 (.int .i64 b)).setOther (show w.heap.size ≠ w.heap.size + 1 + 1 by omega) 12 (.int .i64 pv)).drew
  have Z1 := ((((Z0.setOther (show w.heap.size + 1 ≠ w.heap.size + 1 + 1 by omega) 0 (.int .i64 2)).setOther (show w.heap.size + 1 ≠ w.heap.size + 1 + 1 by omega) 4 (.int .i64 a)).setOther (show w.heap.size + 1 ≠ w.heap.size + 1 + 1 by omega) 5 (.int .i64 b)).setOther (show w.heap.size + 1 ≠ w.heap.size + 1 + 1 by omega) 12 (.int .i64 pv)).drew
  have B1 := ((((B0.setCell (p := ⟨w.heap.size + 1 + 1, 0, none⟩) (show w.heap.size ≤ w.heap.size + 1 + 1 by omega) (.int .i64 2)).setCell (p := ⟨w.heap.size + 1 + 1, 4, none⟩) (show w.heap.size ≤ w.heap.size + 1 + 1 by omega) (.int .i64 a)).setCell (p := ⟨w.heap.size + 1 + 1, 5, none⟩) (show w.heap.size ≤ w.heap.size + 1 + 1 by omega) (.int .i64 b)).setCell (p := ⟨w.heap.size + 1 + 1, 12, none⟩) (show w.heap.size ≤ w.heap.size + 1 + 1 by omega) (.int .i64 pv)).drew
  generalize hw1 : World.drew _ = w1
  rw [hw1] at X1 Y1 Z1 B1
  simp only [List.setIfInBounds_toArray, List.set_cons_succ, List.set_cons_zero] at Y1
  clear hw1 x5 y0 y4 y5 y12 f0 f4 f5 f12 X0 Y0 Z0 B0
  have x8 := X1.cell 8 _ rfl
  have y8 := Y1.cell 8 _ rfl
  have f8 := Y1.free 8
  have x9 := X1.cell 9 _ rfl
  have y9 := Y1.cell 9 _ rfl
  have f9 := Y1.free 9
  have x10 := X1.cell 10 _ rfl
  have y10 := Y1.cell 10 _ rfl
  have f10 := Y1.free 10
  have x11 := X1.cell 11 _ rfl
  have y11 := Y1.cell 11 _ rfl
  have f11 := Y1.free 11
  go_upto_region 3 with (fail)
  go_region
  have Y2 := ((((Y1.set 8 (.bool iu)).set 9 (.string ix)).set 10 (.bool wu)).set 11 (.string wd)).drew
  have X2 := ((((X1.setOther (show w.heap.size ≠ w.heap.size + 1 + 1 by omega) 8 (.bool iu)).setOther (show w.heap.size ≠ w.heap.size + 1 + 1 by omega) 9 (.string ix)).setOther (show w.heap.size ≠ w.heap.size + 1 + 1 by omega) 10 (.bool wu)).setOther (show w.heap.size ≠ w.heap.size + 1 + 1 by omega) 11 (.string wd)).drew
  have Z2 := ((((Z1.setOther (show w.heap.size + 1 ≠ w.heap.size + 1 + 1 by omega) 8 (.bool iu)).setOther (show w.heap.size + 1 ≠ w.heap.size + 1 + 1 by omega) 9 (.string ix)).setOther (show w.heap.size + 1 ≠ w.heap.size + 1 + 1 by omega) 10 (.bool wu)).setOther (show w.heap.size + 1 ≠ w.heap.size + 1 + 1 by omega) 11 (.string wd)).drew
  have B2 := ((((B1.setCell (p := ⟨w.heap.size + 1 + 1, 8, none⟩) (show w.heap.size ≤ w.heap.size + 1 + 1 by omega) (.bool iu)).setCell (p := ⟨w.heap.size + 1 + 1, 9, none⟩) (show w.heap.size ≤ w.heap.size + 1 + 1 by omega) (.string ix)).setCell (p := ⟨w.heap.size + 1 + 1, 10, none⟩) (show w.heap.size ≤ w.heap.size + 1 + 1 by omega) (.bool wu)).setCell (p := ⟨w.heap.size + 1 + 1, 11, none⟩) (show w.heap.size ≤ w.heap.size + 1 + 1 by omega) (.string wd)).drew
  generalize hw2 : World.drew _ = w2
  rw [hw2] at X2 Y2 Z2 B2
  simp only [List.setIfInBounds_toArray, List.set_cons_succ, List.set_cons_zero] at Y2
  clear hw2 x8 x9 x10 x11 y8 y9 y10 y11 f8 f9 f10 f11 X1 Y1 Z1 B1
  replace Y2 : Hid (Has w2 (w.heap.size + 1 + 1) (.cells #[.int .i64 2, .int .i64 cl, .int .i64 ep, .int .i64 m, .int .i64 a, .int .i64 b, .int .i64 pg, .int .i64 sl, .bool iu, .string ix, .bool wu, .string wd, .int .i64 pv] 30)) := Lib.hid Y2
  replace X2 := Lib.hid X2
  replace Z2 := Lib.hid Z2
  replace B2 := Lib.hid B2
  have hzz : w.heap.size + 1 + 1 < w2.heap.size := Y2.out.lt
  have hk : (k == 1) = true ∨ (k == 1) = false := by cases (k == 1) <;> simp
  cases b1 with
  | false =>
    simp only [Bool.false_and, Bool.false_eq_true, if_false] at hR
    obtain ⟨x0, x1, x2, x3, x4, x5, x6, x7, x8, x9, x10, x11, x12⟩ := EntAt.of X2.out
    obtain ⟨y0, y1, y2, y3, y4, y5, y6, y7, y8, y9, y10, y11, y12⟩ := EntAt.of Y2.out
    go_wp2_with fail
    refine (C1.out _).mono ?_
    rintro e w3 ⟨rfl, b3⟩
    have X3 := Lib.hid (X2.out.below b3)
    have Y3 := Lib.hid (Y2.out.below b3)
    have Z3 := Lib.hid (Z2.out.below b3)
    have B3 := Lib.hid (bup B2.out b3)
    clear b3 X2 Y2 Z2 B2 x0 x1 x2 x3 x4 x5 x6 x7 x8 x9 x10 x11 x12 y0 y1 y2 y3 y4 y5 y6 y7 y8 y9 y10 y11 y12
    obtain ⟨x0, x1, x2, x3, x4, x5, x6, x7, x8, x9, x10, x11, x12⟩ := EntAt.of X3.out
    obtain ⟨y0, y1, y2, y3, y4, y5, y6, y7, y8, y9, y10, y11, y12⟩ := EntAt.of Y3.out
    go_wp2_with ((with_reducible refine at_store rfl ?_); refine wpList_put_row rfl _ _ _ rfl rfl (w.heap.size + 1) _ rfl rfl _ _ Z3.out (by kernel_rfl) rfl (by first | kernel_rfl | simp [Value.oneCell']) ?_; intro w9 Z9 B9)
    (try simp only [Exit.inBlock, Exit.then])
    refine bodyPost_ret (v := .tuple #[.agg Ent.zero.row, .int .i64 1]) ?_ rfl ⟨by first | (rw [← hR]; done) | (rw [← hR]; rfl), ?_⟩
    · refine Eq.trans (results_cell_one (p := 6) (u := 7) ?_ _ _ (w.heap.size + 1) _ _ _ fs ?_ Z9 Hu.out (by kernel_rfl)) ?_
      all_goals rfl
    · exact B3.out.trans (B9.below (by omega) B3.out.size)
  | true =>
  rcases hk with hk | hk
  case inr =>
    rw [hk] at hR
    simp only [Bool.and_false, Bool.false_and, Bool.false_eq_true, if_false] at hR
    have hk' : ((k : Int) != 1) = true := by simp [bne, hk]
    obtain ⟨x0, x1, x2, x3, x4, x5, x6, x7, x8, x9, x10, x11, x12⟩ := EntAt.of X2.out
    obtain ⟨y0, y1, y2, y3, y4, y5, y6, y7, y8, y9, y10, y11, y12⟩ := EntAt.of Y2.out
    go_wp2_with fail
    refine (C1.out _).mono ?_
    rintro e w3 ⟨rfl, b3⟩
    have X3 := Lib.hid (X2.out.below b3)
    have Y3 := Lib.hid (Y2.out.below b3)
    have Z3 := Lib.hid (Z2.out.below b3)
    have B3 := Lib.hid (bup B2.out b3)
    clear b3 X2 Y2 Z2 B2 x0 x1 x2 x3 x4 x5 x6 x7 x8 x9 x10 x11 x12 y0 y1 y2 y3 y4 y5 y6 y7 y8 y9 y10 y11 y12
    obtain ⟨x0, x1, x2, x3, x4, x5, x6, x7, x8, x9, x10, x11, x12⟩ := EntAt.of X3.out
    obtain ⟨y0, y1, y2, y3, y4, y5, y6, y7, y8, y9, y10, y11, y12⟩ := EntAt.of Y3.out
    go_wp2_with ((with_reducible refine at_store rfl ?_); refine wpList_put_row rfl _ _ _ rfl rfl (w.heap.size + 1) _ rfl rfl _ _ Z3.out (by kernel_rfl) rfl (by first | kernel_rfl | simp [Value.oneCell']) ?_; intro w9 Z9 B9)
    (try simp only [Exit.inBlock, Exit.then])
    refine bodyPost_ret (v := .tuple #[.agg Ent.zero.row, .int .i64 1]) ?_ rfl ⟨by first | (rw [← hR]; done) | (rw [← hR]; rfl), ?_⟩
    · refine Eq.trans (results_cell_one (p := 6) (u := 7) ?_ _ _ (w.heap.size + 1) _ _ _ fs ?_ Z9 Hu.out (by kernel_rfl)) ?_
      all_goals rfl
    · exact B3.out.trans (B9.below (by omega) B3.out.size)
  rw [hk] at hR
  have hk' : ((k : Int) != 1) = false := by simp [bne, hk]
  cases b3 with
  | false =>
    simp only [Bool.and_false, Bool.false_eq_true, if_false] at hR
    obtain ⟨x0, x1, x2, x3, x4, x5, x6, x7, x8, x9, x10, x11, x12⟩ := EntAt.of X2.out
    obtain ⟨y0, y1, y2, y3, y4, y5, y6, y7, y8, y9, y10, y11, y12⟩ := EntAt.of Y2.out
    go_wp2_with fail
    refine (C1.out _).mono ?_
    rintro e w3 ⟨rfl, b3⟩
    have X3 := Lib.hid (X2.out.below b3)
    have Y3 := Lib.hid (Y2.out.below b3)
    have Z3 := Lib.hid (Z2.out.below b3)
    have B3 := Lib.hid (bup B2.out b3)
    clear b3 X2 Y2 Z2 B2 x0 x1 x2 x3 x4 x5 x6 x7 x8 x9 x10 x11 x12 y0 y1 y2 y3 y4 y5 y6 y7 y8 y9 y10 y11 y12
    obtain ⟨x0, x1, x2, x3, x4, x5, x6, x7, x8, x9, x10, x11, x12⟩ := EntAt.of X3.out
    obtain ⟨y0, y1, y2, y3, y4, y5, y6, y7, y8, y9, y10, y11, y12⟩ := EntAt.of Y3.out
    go_wp2_with fail
    refine (C2.out _).mono ?_
    rintro e w4 ⟨rfl, b4⟩
    have X4 := Lib.hid (X3.out.below b4)
    have Y4 := Lib.hid (Y3.out.below b4)
    have Z4 := Lib.hid (Z3.out.below b4)
    have B4 := Lib.hid (bup B3.out b4)
    clear b4 X3 Y3 Z3 B3 x0 x1 x2 x3 x4 x5 x6 x7 x8 x9 x10 x11 x12 y0 y1 y2 y3 y4 y5 y6 y7 y8 y9 y10 y11 y12
    obtain ⟨x0, x1, x2, x3, x4, x5, x6, x7, x8, x9, x10, x11, x12⟩ := EntAt.of X4.out
    obtain ⟨y0, y1, y2, y3, y4, y5, y6, y7, y8, y9, y10, y11, y12⟩ := EntAt.of Y4.out
    go_wp2_with ((with_reducible refine at_store rfl ?_); refine wpList_put_row rfl _ _ _ rfl rfl (w.heap.size + 1) _ rfl rfl _ _ Z4.out (by kernel_rfl) rfl (by first | kernel_rfl | simp [Value.oneCell']) ?_; intro w9 Z9 B9)
    (try simp only [Exit.inBlock, Exit.then])
    refine bodyPost_ret (v := .tuple #[.agg Ent.zero.row, .int .i64 1]) ?_ rfl ⟨by first | (rw [← hR]; done) | (rw [← hR]; rfl), ?_⟩
    · refine Eq.trans (results_cell_one (p := 6) (u := 7) ?_ _ _ (w.heap.size + 1) _ _ _ fs ?_ Z9 Hu.out (by kernel_rfl)) ?_
      all_goals rfl
    · exact B4.out.trans (B9.below (by omega) B4.out.size)
  | true =>
    simp only [Bool.and_true, if_true] at hR
    obtain ⟨x0, x1, x2, x3, x4, x5, x6, x7, x8, x9, x10, x11, x12⟩ := EntAt.of X2.out
    obtain ⟨y0, y1, y2, y3, y4, y5, y6, y7, y8, y9, y10, y11, y12⟩ := EntAt.of Y2.out
    go_wp2_with fail
    refine (C1.out _).mono ?_
    rintro e w3 ⟨rfl, b3⟩
    have X3 := Lib.hid (X2.out.below b3)
    have Y3 := Lib.hid (Y2.out.below b3)
    have Z3 := Lib.hid (Z2.out.below b3)
    have B3 := Lib.hid (bup B2.out b3)
    clear b3 X2 Y2 Z2 B2 x0 x1 x2 x3 x4 x5 x6 x7 x8 x9 x10 x11 x12 y0 y1 y2 y3 y4 y5 y6 y7 y8 y9 y10 y11 y12
    obtain ⟨x0, x1, x2, x3, x4, x5, x6, x7, x8, x9, x10, x11, x12⟩ := EntAt.of X3.out
    obtain ⟨y0, y1, y2, y3, y4, y5, y6, y7, y8, y9, y10, y11, y12⟩ := EntAt.of Y3.out
    go_wp2_with fail
    refine (C2.out _).mono ?_
    rintro e w4 ⟨rfl, b4⟩
    have X4 := Lib.hid (X3.out.below b4)
    have Y4 := Lib.hid (Y3.out.below b4)
    have Z4 := Lib.hid (Z3.out.below b4)
    have B4 := Lib.hid (bup B3.out b4)
    clear b4 X3 Y3 Z3 B3 x0 x1 x2 x3 x4 x5 x6 x7 x8 x9 x10 x11 x12 y0 y1 y2 y3 y4 y5 y6 y7 y8 y9 y10 y11 y12
    obtain ⟨x0, x1, x2, x3, x4, x5, x6, x7, x8, x9, x10, x11, x12⟩ := EntAt.of X4.out
    obtain ⟨y0, y1, y2, y3, y4, y5, y6, y7, y8, y9, y10, y11, y12⟩ := EntAt.of Y4.out
    go_wp2_with ((with_reducible refine at_store rfl ?_); refine wpList_put_row rfl _ _ _ rfl rfl (w.heap.size + 1) _ rfl rfl _ _ Z4.out (by kernel_rfl) rfl (by first | kernel_rfl | simp [Value.oneCell']) ?_; intro w9 Z9 B9)
    (try simp only [Exit.inBlock, Exit.then])
    refine bodyPost_ret (v := .tuple #[.agg #[.int .i64 2, .int .i64 cl, .int .i64 ep, .int .i64 m, .int .i64 a, .int .i64 b, .int .i64 pg, .int .i64 sl, .bool iu, .string ix, .bool wu, .string wd, .int .i64 pv], .int .i64 0]) ?_ rfl ⟨by first | (rw [← hR]; done) | (rw [← hR]; rfl), ?_⟩
    · refine Eq.trans (results_cell_one (p := 6) (u := 7) ?_ _ _ (w.heap.size + 1) _ _ _ fs ?_ Z9 Hu.out (by kernel_rfl)) ?_
      all_goals rfl
    · exact B4.out.trans (B9.below (by omega) B4.out.size)
set_option maxRecDepth 100000 in
set_option maxHeartbeats 8000000 in
theorem rturn_any (x : Ent) (a b : Int) (w : World) (hw : x.wd.size ≤ 140737488351232) (hi : x.ix.size ≤ 140737488351232) :
    Calls Try.prog 14 #[x.val, .int .i64 a, .int .i64 b] w fun e w' => e = .returned (.tuple #[(turnR x a b).1.val, .int .i64 (turnR x a b).2]) ∧ Below w.heap.size w w' := by
  obtain ⟨R, hR⟩ : ∃ R, turnR x a b = R := ⟨_, rfl⟩
  rw [hR]
  unfold turnR at hR
  have C1 := fun w => rgood04_any x (by omega) (by omega) w
  have C2 := fun w => rgood04_any (x.turn a b) (by simp only [Ent.turn]; omega) (by simp only [Ent.turn]; omega) w
  obtain ⟨b1, h1⟩ : ∃ b, x.good = b := ⟨_, rfl⟩
  obtain ⟨b3, h3⟩ : ∃ c, (x.turn a b).good = c := ⟨_, rfl⟩
  rw [h1] at C1 hR
  rw [h3] at C2 hR
  obtain ⟨fs, hu⟩ := entUnd
  have Hu := Lib.hid hu
  clear hu h1 h3
  obtain ⟨k, cl, ep, m, ls, pv, pg, sl, wu, wd, iu, ix, nx⟩ := x
  simp only [Ent.val, Ent.row, Ent.turn] at C1 C2 hR ⊢
  replace C1 := Lib.hid C1
  replace C2 := Lib.hid C2
  go_enter Try.func14, Try.ntmps14
  go_upto_region 1 with (fail)
  generalize hw0 : World.alloc (World.alloc w _) _ = w0
  have X0 : Hid (Has w0 w.heap.size (.cells #[.int .i64 k, .int .i64 cl, .int .i64 ep, .int .i64 m, .int .i64 ls, .int .i64 pv, .int .i64 pg, .int .i64 sl, .bool wu, .string wd, .bool iu, .string ix, .int .i64 nx] 30)) := Lib.hid (by rw [← hw0]; exact (Has.new w _).alloc _)
  have Z0 : Hid (Has w0 (w.heap.size + 1) (.cells #[.int .i64 0, .int .i64 0, .int .i64 0, .int .i64 0, .int .i64 0, .int .i64 0, .int .i64 0, .int .i64 0, .bool false, .string ⟨#[]⟩, .bool false, .string ⟨#[]⟩, .int .i64 0] 30)) := Lib.hid (by rw [← hw0]; exact Has.new1 w _ _)
  have B0 : Hid (Below w.heap.size w w0) := Lib.hid (by rw [← hw0]; exact bup (bnew w _) (bnew _ _))
  clear hw0
  obtain ⟨x0, x1, x2, x3, x4, x5, x6, x7, x8, x9, x10, x11, x12⟩ := EntAt.of X0.out
  have hk : (k == 1) = true ∨ (k == 1) = false := by cases (k == 1) <;> simp
  go_wp2_with fail
  refine (C1.out _).mono ?_
  rintro e w1 ⟨rfl, b1'⟩
  have X1 := Lib.hid (X0.out.below b1')
  have Z1 := Lib.hid (Z0.out.below b1')
  have B1 := Lib.hid (bup B0.out b1')
  clear b1' X0 Z0 B0 x0 x1 x2 x3 x4 x5 x6 x7 x8 x9 x10 x11 x12
  obtain ⟨x0, x1, x2, x3, x4, x5, x6, x7, x8, x9, x10, x11, x12⟩ := EntAt.of X1.out
  cases b1 with
  | false =>
    simp only [Bool.false_and, Bool.false_eq_true, if_false] at hR
    go_wp2_with ((with_reducible refine at_store rfl ?_); refine wpList_put_row rfl _ _ _ rfl rfl (w.heap.size + 1) _ rfl rfl _ _ Z1.out (by kernel_rfl) rfl (by first | kernel_rfl | simp [Value.oneCell']) ?_; intro w9 Z9 B9)
    (try simp only [Exit.inBlock, Exit.then])
    refine bodyPost_ret (v := .tuple #[.agg Ent.zero.row, .int .i64 1]) ?_ rfl ⟨by first | (rw [← hR]; done) | (rw [← hR]; rfl), ?_⟩
    · refine Eq.trans (results_cell_one (p := 6) (u := 7) ?_ _ _ (w.heap.size + 1) _ _ _ fs ?_ Z9 Hu.out (by kernel_rfl)) ?_
      all_goals rfl
    · exact B1.out.trans (B9.below (by omega) B1.out.size)
  | true =>
  rcases hk with hk | hk
  case inr =>
    rw [hk] at hR
    simp only [Bool.and_false, Bool.false_and, Bool.false_eq_true, if_false] at hR
    have hk' : ((k : Int) != 1) = true := by simp [bne, hk]
    go_wp2_with ((with_reducible refine at_store rfl ?_); refine wpList_put_row rfl _ _ _ rfl rfl (w.heap.size + 1) _ rfl rfl _ _ Z1.out (by kernel_rfl) rfl (by first | kernel_rfl | simp [Value.oneCell']) ?_; intro w9 Z9 B9)
    (try simp only [Exit.inBlock, Exit.then])
    refine bodyPost_ret (v := .tuple #[.agg Ent.zero.row, .int .i64 1]) ?_ rfl ⟨by first | (rw [← hR]; done) | (rw [← hR]; rfl), ?_⟩
    · refine Eq.trans (results_cell_one (p := 6) (u := 7) ?_ _ _ (w.heap.size + 1) _ _ _ fs ?_ Z9 Hu.out (by kernel_rfl)) ?_
      all_goals rfl
    · exact B1.out.trans (B9.below (by omega) B1.out.size)
  rw [hk] at hR
  have hk' : ((k : Int) != 1) = false := by simp [bne, hk]
  go_upto_region 4 with (fail)
  generalize hw2 : World.alloc w1 _ = w2
  have Y2 : Hid (Has w2 w1.heap.size (.cells #[.int .i64 2, .int .i64 cl, .int .i64 ep, .int .i64 m, .int .i64 a, .int .i64 b, .int .i64 pg, .int .i64 sl, .bool iu, .string ix, .bool wu, .string wd, .int .i64 pv] 30)) := Lib.hid (by rw [← hw2]; exact Has.new w1 _)
  have Z2 : Hid (Has w2 (w.heap.size + 1) (.cells #[.int .i64 0, .int .i64 0, .int .i64 0, .int .i64 0, .int .i64 0, .int .i64 0, .int .i64 0, .int .i64 0, .bool false, .string ⟨#[]⟩, .bool false, .string ⟨#[]⟩, .int .i64 0] 30)) := Lib.hid (by rw [← hw2]; exact Z1.out.alloc _)
  have B2 : Hid (Below w.heap.size w w2) := Lib.hid (by rw [← hw2]; exact bup B1.out (bnew _ _))
  clear hw2 X1 Z1 B1 x0 x1 x2 x3 x4 x5 x6 x7 x8 x9 x10 x11 x12
  obtain ⟨y0, y1, y2, y3, y4, y5, y6, y7, y8, y9, y10, y11, y12⟩ := EntAt.of Y2.out
  go_wp2_with fail
  refine (C2.out _).mono ?_
  rintro e w3 ⟨rfl, b3'⟩
  have Y3 := Lib.hid (Y2.out.below b3')
  have Z3 := Lib.hid (Z2.out.below b3')
  have B3 := Lib.hid (bup B2.out b3')
  clear b3' Y2 Z2 B2 y0 y1 y2 y3 y4 y5 y6 y7 y8 y9 y10 y11 y12
  obtain ⟨y0, y1, y2, y3, y4, y5, y6, y7, y8, y9, y10, y11, y12⟩ := EntAt.of Y3.out
  cases b3 with
  | false =>
    simp only [Bool.and_false, Bool.false_eq_true, if_false] at hR
    go_wp2_with ((with_reducible refine at_store rfl ?_); refine wpList_put_row rfl _ _ _ rfl rfl (w.heap.size + 1) _ rfl rfl _ _ Z3.out (by kernel_rfl) rfl (by first | kernel_rfl | simp [Value.oneCell']) ?_; intro w9 Z9 B9)
    (try simp only [Exit.inBlock, Exit.then])
    refine bodyPost_ret (v := .tuple #[.agg Ent.zero.row, .int .i64 1]) ?_ rfl ⟨by first | (rw [← hR]; done) | (rw [← hR]; rfl), ?_⟩
    · refine Eq.trans (results_cell_one (p := 6) (u := 7) ?_ _ _ (w.heap.size + 1) _ _ _ fs ?_ Z9 Hu.out (by kernel_rfl)) ?_
      all_goals rfl
    · exact B3.out.trans (B9.below (by omega) B3.out.size)
  | true =>
    simp only [Bool.and_true, if_true] at hR
    go_wp2_with ((with_reducible refine at_store rfl ?_); refine wpList_put_row rfl _ _ _ rfl rfl (w.heap.size + 1) _ rfl rfl _ _ Z3.out (by kernel_rfl) rfl (by first | kernel_rfl | simp [Value.oneCell']) ?_; intro w9 Z9 B9)
    (try simp only [Exit.inBlock, Exit.then])
    refine bodyPost_ret (v := .tuple #[.agg #[.int .i64 2, .int .i64 cl, .int .i64 ep, .int .i64 m, .int .i64 a, .int .i64 b, .int .i64 pg, .int .i64 sl, .bool iu, .string ix, .bool wu, .string wd, .int .i64 pv], .int .i64 0]) ?_ rfl ⟨by first | (rw [← hR]; done) | (rw [← hR]; rfl), ?_⟩
    · refine Eq.trans (results_cell_one (p := 6) (u := 7) ?_ _ _ (w.heap.size + 1) _ _ _ fs ?_ Z9 Hu.out (by kernel_rfl)) ?_
      all_goals rfl
    · exact B3.out.trans (B9.below (by omega) B3.out.size)
end Go.Proofs.Ytpgeiopknjfdmaa
