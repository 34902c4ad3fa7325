/-
  The reference's Redo.
-/
import Derived.Test.YtpgeiopknjfdmaaPaA
import Derived.StillTailTactics
import Derived.Deep.QuietTactic
import Derived.Lib.QuietBelow
namespace Go.Proofs.Ytpgeiopknjfdmaa
open Go.RowKit Go.Sort
set_option linter.unusedVariables false
set_option linter.unusedSimpArgs false
set_option maxRecDepth 100000 in
set_option maxHeartbeats 8000000 in
theorem rredo_any (lsn : Int) (A : Option Addr) (n c : Nat) (l : List Sl) (x : Ent) (w : World) (h : IsSlots w A n c l) (hn : n ≤ 100) (hw : x.wd.size ≤ 140737488351232) (hi : x.ix.size ≤ 140737488351232) :
    Calls Try.prog 12 #[.agg #[.int .i64 lsn, .slice A n c], x.val] w (RedoOut (redoR lsn l x) w) := by
  obtain ⟨R, hR⟩ : ∃ R, redoR lsn l x = R := ⟨_, rfl⟩
  rw [hR]
  unfold redoR at hR
  have CG := fun w h => rgood_any lsn A n c l w h
  have CE := fun w => rgood04_any x (by omega) (by omega) w
  have CA := fun w h => rat_any lsn A n c l x.slot w h
  have CP := fun w h => rput_any lsn A n c l x.slot x.is w h hi
  obtain ⟨Y, hY⟩ : ∃ Y, slAt lsn l x.slot = Y := ⟨_, rfl⟩
  obtain ⟨Q, hQ⟩ : ∃ Q, putRes lsn l x.slot x.is = Q := ⟨_, rfl⟩
  obtain ⟨b1, h1⟩ : ∃ b, slGood lsn l = b := ⟨_, rfl⟩
  obtain ⟨b2, h2⟩ : ∃ b, x.good = b := ⟨_, rfl⟩
  obtain ⟨b3, h3⟩ : ∃ b, x.chg = b := ⟨_, rfl⟩
  obtain ⟨E, hE⟩ : ∃ E, slEq Y x.was = E := ⟨_, rfl⟩
  have CN := fun w => slNeqBin Y x.was w
  rw [hY] at CA hR
  rw [hQ] at CP hR
  rw [h1] at CG hR
  rw [h2] at CE hR
  rw [h3] at hR
  rw [hE] at CN hR
  have hk : b2 = true → (b3 = true ∧ x.kind ≤ 2) ∨ (b3 = false ∧ 2 < x.kind) := by
    intro e
    rw [e] at h2
    have hk1 : 1 ≤ x.kind ∧ x.kind ≤ 4 := by
      simp only [Ent.good, Bool.and_eq_true] at h2
      have h4 := h2.2
      split at h4
      · omega
      · split at h4
        · omega
        · split at h4
          · omega
          · cases h4
    by_cases hk2 : x.kind ≤ 2
    · refine .inl ⟨?_, hk2⟩
      rw [← h3]; simp [Ent.chg]; omega
    · refine .inr ⟨?_, by omega⟩
      rw [← h3]; simp [Ent.chg]; omega
  have T0 := Lib.hid (Three.start h lsn x)
  obtain ⟨fs, hu⟩ := pageUnd
  have Hu := Lib.hid hu
  clear hu hY hQ h1 h2 h3 hE h
  obtain ⟨k, cl, ep, m, ls, pv, pg, sl, wu, wd, iu, ix, nx⟩ := x
  obtain ⟨yu, yd⟩ := Y
  obtain ⟨q1, q2, q3⟩ := Q
  simp only [Ent.val, Ent.row, Ent.was, Ent.is] at hR CE CA CP CN T0 hw hi hk ⊢
  replace CG := Lib.hid CG
  replace CE := Lib.hid CE
  replace CA := Lib.hid CA
  replace CP := Lib.hid CP
  cases b1 with
  | false =>
    have HR : Hid (R = (0, [], false, 1)) := Lib.hid (by rw [← hR, if_pos (by simp)])
    clear hR
    go_enter Try.func12, Try.ntmps12
    go_upto_region 1 with (fail)
    generalize hw0 : World.alloc (World.alloc (World.alloc w _) _) _ = w0
    rw [hw0] at T0
    clear hw0
    have p0 := T0.out.1.cell 0 _ rfl
    have p1 := T0.out.1.cell 1 _ rfl
    obtain ⟨x0, x1, x2, x3, x4, x5, x6, x7, x8, x9, x10, x11, x12⟩ := EntAt.of T0.out.2.1
    go_wp2_with fail
    refine (CG.out _ T0.out.2.2.2.1).mono ?_
    rintro e w1 ⟨rfl, b1⟩
    have T1 := Lib.hid (T0.out.go b1)
    clear b1 T0 p0 p1 x0 x1 x2 x3 x4 x5 x6 x7 x8 x9 x10 x11 x12
    have p0 := T1.out.1.cell 0 _ rfl
    have p1 := T1.out.1.cell 1 _ rfl
    obtain ⟨x0, x1, x2, x3, x4, x5, x6, x7, x8, x9, x10, x11, x12⟩ := EntAt.of T1.out.2.1
    go_wp2_with ((with_reducible refine at_store rfl ?_); refine wpList_put_row rfl _ _ _ rfl rfl (w.heap.size + 1 + 1) _ rfl rfl _ _ T1.out.2.2.1 (by kernel_rfl) rfl (by first | kernel_rfl | simp [Value.oneCell']) ?_; intro w8 Z8 B8)
    (try simp only [Exit.inBlock, Exit.then])
    refine bodyPost_ret (v := .tuple #[.agg #[.int .i64 0, .slice none 0 0], .bool false, .int .i64 1]) ?_ rfl ⟨none, 0, 0, by rw [HR.out], by rw [HR.out]; exact IsSlots.nil _, ?_⟩
    · refine Eq.trans (results_cell_two (p := 4) (u := 5) (v := 6) ?_ _ _ (w.heap.size + 1 + 1) _ _ _ fs ?_ Z8 Hu.out (by kernel_rfl)) ?_
      all_goals rfl
    · exact T1.out.2.2.2.2.trans (B8.below (by omega) T1.out.2.2.2.2.size)
  | true =>
  cases b2 with
  | false =>
    have HR : Hid (R = (0, [], false, 1)) := Lib.hid (by rw [← hR, if_pos (by simp)])
    clear hR
    go_enter Try.func12, Try.ntmps12
    go_upto_region 1 with (fail)
    generalize hw0 : World.alloc (World.alloc (World.alloc w _) _) _ = w0
    rw [hw0] at T0
    clear hw0
    have p0 := T0.out.1.cell 0 _ rfl
    have p1 := T0.out.1.cell 1 _ rfl
    obtain ⟨x0, x1, x2, x3, x4, x5, x6, x7, x8, x9, x10, x11, x12⟩ := EntAt.of T0.out.2.1
    go_wp2_with fail
    refine (CG.out _ T0.out.2.2.2.1).mono ?_
    rintro e w1 ⟨rfl, b1⟩
    have T1 := Lib.hid (T0.out.go b1)
    clear b1 T0 p0 p1 x0 x1 x2 x3 x4 x5 x6 x7 x8 x9 x10 x11 x12
    have p0 := T1.out.1.cell 0 _ rfl
    have p1 := T1.out.1.cell 1 _ rfl
    obtain ⟨x0, x1, x2, x3, x4, x5, x6, x7, x8, x9, x10, x11, x12⟩ := EntAt.of T1.out.2.1
    go_wp2_with fail
    refine (CE.out _).mono ?_
    rintro e w2 ⟨rfl, b2⟩
    have T2 := Lib.hid (T1.out.go b2)
    clear b2 T1 p0 p1 x0 x1 x2 x3 x4 x5 x6 x7 x8 x9 x10 x11 x12
    have p0 := T2.out.1.cell 0 _ rfl
    have p1 := T2.out.1.cell 1 _ rfl
    obtain ⟨x0, x1, x2, x3, x4, x5, x6, x7, x8, x9, x10, x11, x12⟩ := EntAt.of T2.out.2.1
    go_wp2_with ((with_reducible refine at_store rfl ?_); refine wpList_put_row rfl _ _ _ rfl rfl (w.heap.size + 1 + 1) _ rfl rfl _ _ T2.out.2.2.1 (by kernel_rfl) rfl (by first | kernel_rfl | simp [Value.oneCell']) ?_; intro w8 Z8 B8)
    (try simp only [Exit.inBlock, Exit.then])
    refine bodyPost_ret (v := .tuple #[.agg #[.int .i64 0, .slice none 0 0], .bool false, .int .i64 1]) ?_ rfl ⟨none, 0, 0, by rw [HR.out], by rw [HR.out]; exact IsSlots.nil _, ?_⟩
    · refine Eq.trans (results_cell_two (p := 4) (u := 5) (v := 6) ?_ _ _ (w.heap.size + 1 + 1) _ _ _ fs ?_ Z8 Hu.out (by kernel_rfl)) ?_
      all_goals rfl
    · exact T2.out.2.2.2.2.trans (B8.below (by omega) T2.out.2.2.2.2.size)
  | true =>
  rcases hk rfl with ⟨rfl, hk2⟩ | ⟨rfl, hk2⟩
  case inr =>
    have HR : Hid (R = (0, [], false, 1)) := Lib.hid (by rw [← hR, if_pos (by simp)])
    clear hR
    go_enter Try.func12, Try.ntmps12
    go_upto_region 1 with (fail)
    generalize hw0 : World.alloc (World.alloc (World.alloc w _) _) _ = w0
    rw [hw0] at T0
    clear hw0
    have p0 := T0.out.1.cell 0 _ rfl
    have p1 := T0.out.1.cell 1 _ rfl
    obtain ⟨x0, x1, x2, x3, x4, x5, x6, x7, x8, x9, x10, x11, x12⟩ := EntAt.of T0.out.2.1
    go_wp2_with fail
    refine (CG.out _ T0.out.2.2.2.1).mono ?_
    rintro e w1 ⟨rfl, b1⟩
    have T1 := Lib.hid (T0.out.go b1)
    clear b1 T0 p0 p1 x0 x1 x2 x3 x4 x5 x6 x7 x8 x9 x10 x11 x12
    have p0 := T1.out.1.cell 0 _ rfl
    have p1 := T1.out.1.cell 1 _ rfl
    obtain ⟨x0, x1, x2, x3, x4, x5, x6, x7, x8, x9, x10, x11, x12⟩ := EntAt.of T1.out.2.1
    go_wp2_with fail
    refine (CE.out _).mono ?_
    rintro e w2 ⟨rfl, b2⟩
    have T2 := Lib.hid (T1.out.go b2)
    clear b2 T1 p0 p1 x0 x1 x2 x3 x4 x5 x6 x7 x8 x9 x10 x11 x12
    have p0 := T2.out.1.cell 0 _ rfl
    have p1 := T2.out.1.cell 1 _ rfl
    obtain ⟨x0, x1, x2, x3, x4, x5, x6, x7, x8, x9, x10, x11, x12⟩ := EntAt.of T2.out.2.1
    go_wp2_with ((with_reducible refine at_store rfl ?_); refine wpList_put_row rfl _ _ _ rfl rfl (w.heap.size + 1 + 1) _ rfl rfl _ _ T2.out.2.2.1 (by kernel_rfl) rfl (by first | kernel_rfl | simp [Value.oneCell']) ?_; intro w8 Z8 B8)
    (try simp only [Exit.inBlock, Exit.then])
    refine bodyPost_ret (v := .tuple #[.agg #[.int .i64 0, .slice none 0 0], .bool false, .int .i64 1]) ?_ rfl ⟨none, 0, 0, by rw [HR.out], by rw [HR.out]; exact IsSlots.nil _, ?_⟩
    · refine Eq.trans (results_cell_two (p := 4) (u := 5) (v := 6) ?_ _ _ (w.heap.size + 1 + 1) _ _ _ fs ?_ Z8 Hu.out (by kernel_rfl)) ?_
      all_goals rfl
    · exact T2.out.2.2.2.2.trans (B8.below (by omega) T2.out.2.2.2.2.size)
  rw [if_neg (by simp)] at hR
  by_cases hle : ls ≤ lsn
  · rw [if_pos hle] at hR
    have HR := Lib.hid hR.symm
    clear hR
    go_enter Try.func12, Try.ntmps12
    go_upto_region 1 with (fail)
    generalize hw0 : World.alloc (World.alloc (World.alloc w _) _) _ = w0
    rw [hw0] at T0
    clear hw0
    have p0 := T0.out.1.cell 0 _ rfl
    have p1 := T0.out.1.cell 1 _ rfl
    obtain ⟨x0, x1, x2, x3, x4, x5, x6, x7, x8, x9, x10, x11, x12⟩ := EntAt.of T0.out.2.1
    go_wp2_with fail
    refine (CG.out _ T0.out.2.2.2.1).mono ?_
    rintro e w1 ⟨rfl, b1⟩
    have T1 := Lib.hid (T0.out.go b1)
    clear b1 T0 p0 p1 x0 x1 x2 x3 x4 x5 x6 x7 x8 x9 x10 x11 x12
    have p0 := T1.out.1.cell 0 _ rfl
    have p1 := T1.out.1.cell 1 _ rfl
    obtain ⟨x0, x1, x2, x3, x4, x5, x6, x7, x8, x9, x10, x11, x12⟩ := EntAt.of T1.out.2.1
    go_wp2_with fail
    refine (CE.out _).mono ?_
    rintro e w2 ⟨rfl, b2⟩
    have T2 := Lib.hid (T1.out.go b2)
    clear b2 T1 p0 p1 x0 x1 x2 x3 x4 x5 x6 x7 x8 x9 x10 x11 x12
    have p0 := T2.out.1.cell 0 _ rfl
    have p1 := T2.out.1.cell 1 _ rfl
    obtain ⟨x0, x1, x2, x3, x4, x5, x6, x7, x8, x9, x10, x11, x12⟩ := EntAt.of T2.out.2.1
    have ZF := Lib.hid T2.out.2.2.1
    have BF := Lib.hid T2.out.2.2.2.2
    go_wp2_with ((with_reducible refine at_store rfl ?_); refine wpList_put_row rfl _ _ _ rfl rfl (w.heap.size + 1 + 1) _ rfl rfl _ _ ZF.out (by kernel_rfl) rfl (by first | kernel_rfl | simp [Value.oneCell']) ?_; intro w9 Z9 B9)
    (try simp only [Exit.inBlock, Exit.then])
    refine bodyPost_ret (v := .tuple #[.agg #[.int .i64 lsn, .slice A n c], .bool false, .int .i64 0]) ?_ rfl ⟨A, n, c, by rw [HR.out], by rw [HR.out]; exact T2.out.2.2.2.1.apart T2.out.2.2.1 B9, ?_⟩
    · refine Eq.trans (results_cell_two (p := 4) (u := 5) (v := 6) ?_ _ _ (w.heap.size + 1 + 1) _ _ _ fs ?_ Z9 Hu.out (by kernel_rfl)) ?_
      all_goals rfl
    · exact BF.out.trans (B9.below (by omega) BF.out.size)
  rw [if_neg hle] at hR
  cases E with
  | false =>
    rw [if_pos rfl] at hR
    have HR := Lib.hid hR.symm
    clear hR
    go_enter Try.func12, Try.ntmps12
    go_upto_region 1 with (fail)
    generalize hw0 : World.alloc (World.alloc (World.alloc w _) _) _ = w0
    rw [hw0] at T0
    clear hw0
    have p0 := T0.out.1.cell 0 _ rfl
    have p1 := T0.out.1.cell 1 _ rfl
    obtain ⟨x0, x1, x2, x3, x4, x5, x6, x7, x8, x9, x10, x11, x12⟩ := EntAt.of T0.out.2.1
    go_wp2_with fail
    refine (CG.out _ T0.out.2.2.2.1).mono ?_
    rintro e w1 ⟨rfl, b1⟩
    have T1 := Lib.hid (T0.out.go b1)
    clear b1 T0 p0 p1 x0 x1 x2 x3 x4 x5 x6 x7 x8 x9 x10 x11 x12
    have p0 := T1.out.1.cell 0 _ rfl
    have p1 := T1.out.1.cell 1 _ rfl
    obtain ⟨x0, x1, x2, x3, x4, x5, x6, x7, x8, x9, x10, x11, x12⟩ := EntAt.of T1.out.2.1
    go_wp2_with fail
    refine (CE.out _).mono ?_
    rintro e w2 ⟨rfl, b2⟩
    have T2 := Lib.hid (T1.out.go b2)
    clear b2 T1 p0 p1 x0 x1 x2 x3 x4 x5 x6 x7 x8 x9 x10 x11 x12
    have p0 := T2.out.1.cell 0 _ rfl
    have p1 := T2.out.1.cell 1 _ rfl
    obtain ⟨x0, x1, x2, x3, x4, x5, x6, x7, x8, x9, x10, x11, x12⟩ := EntAt.of T2.out.2.1
    go_upto_region 5 with (fail)
    replace p0 := cell_regrown p0
    replace p1 := cell_regrown p1
    replace x0 := cell_regrown x0
    replace x1 := cell_regrown x1
    replace x2 := cell_regrown x2
    replace x3 := cell_regrown x3
    replace x4 := cell_regrown x4
    replace x5 := cell_regrown x5
    replace x6 := cell_regrown x6
    replace x7 := cell_regrown x7
    replace x8 := cell_regrown x8
    replace x9 := cell_regrown x9
    replace x10 := cell_regrown x10
    replace x11 := cell_regrown x11
    replace x12 := cell_regrown x12
    have h1 := T2.out.2.2.2.1
    have c1 := fun d os => Calls.regrown_of (CA.out (grow (redrawn w2 d) os) (h1.below (below_regrown _ _ _)))
    replace h1 := Lib.hid h1
    refine wp_region_quiet_below (by kernel_rfl) (by kernel_rfl) ?_
    repeat (quiet_step (first | (with_reducible exact c1 _ _)))
    refine wpQuiet_nil ?_
    intro _ hw7
    obtain ⟨⟨dq, osq⟩, hw8⟩ := hw7
    subst hw8
    have T5 := Lib.hid (T2.out.go (below_regrown w2 dq osq))
    generalize grow (redrawn w2 dq) osq = w5 at *
    clear p0 p1 x0 x1 x2 x3 x4 x5 x6 x7 x8 x9 x10 x11 x12 c1 h1 T2
    have p0 := T5.out.1.cell 0 _ rfl
    have p1 := T5.out.1.cell 1 _ rfl
    obtain ⟨x0, x1, x2, x3, x4, x5, x6, x7, x8, x9, x10, x11, x12⟩ := EntAt.of T5.out.2.1
    have ZF := Lib.hid T5.out.2.2.1
    have BF := Lib.hid T5.out.2.2.2.2
    go_wp2_with ((with_reducible refine at_store rfl ?_); refine wpList_put_row rfl _ _ _ rfl rfl (w.heap.size + 1 + 1) _ rfl rfl _ _ ZF.out (by kernel_rfl) rfl (by first | kernel_rfl | simp [Value.oneCell']) ?_; intro w9 Z9 B9)
    (try simp only [Exit.inBlock, Exit.then])
    refine bodyPost_ret (v := .tuple #[.agg #[.int .i64 0, .slice none 0 0], .bool false, .int .i64 21]) ?_ rfl ⟨none, 0, 0, by rw [HR.out], by rw [HR.out]; exact IsSlots.nil _, ?_⟩
    · refine Eq.trans (results_cell_two (p := 4) (u := 5) (v := 6) ?_ _ _ (w.heap.size + 1 + 1) _ _ _ fs ?_ Z9 Hu.out (by kernel_rfl)) ?_
      all_goals rfl
    · exact BF.out.trans (B9.below (by omega) BF.out.size)
  | true =>
  rw [if_neg (by simp)] at hR
  by_cases hq : q3 = 0
  · subst hq
    rw [if_pos rfl] at hR
    have HR := Lib.hid hR.symm
    clear hR
    go_enter Try.func12, Try.ntmps12
    go_upto_region 1 with (fail)
    generalize hw0 : World.alloc (World.alloc (World.alloc w _) _) _ = w0
    rw [hw0] at T0
    clear hw0
    have p0 := T0.out.1.cell 0 _ rfl
    have p1 := T0.out.1.cell 1 _ rfl
    obtain ⟨x0, x1, x2, x3, x4, x5, x6, x7, x8, x9, x10, x11, x12⟩ := EntAt.of T0.out.2.1
    go_wp2_with fail
    refine (CG.out _ T0.out.2.2.2.1).mono ?_
    rintro e w1 ⟨rfl, b1⟩
    have T1 := Lib.hid (T0.out.go b1)
    clear b1 T0 p0 p1 x0 x1 x2 x3 x4 x5 x6 x7 x8 x9 x10 x11 x12
    have p0 := T1.out.1.cell 0 _ rfl
    have p1 := T1.out.1.cell 1 _ rfl
    obtain ⟨x0, x1, x2, x3, x4, x5, x6, x7, x8, x9, x10, x11, x12⟩ := EntAt.of T1.out.2.1
    go_wp2_with fail
    refine (CE.out _).mono ?_
    rintro e w2 ⟨rfl, b2⟩
    have T2 := Lib.hid (T1.out.go b2)
    clear b2 T1 p0 p1 x0 x1 x2 x3 x4 x5 x6 x7 x8 x9 x10 x11 x12
    have p0 := T2.out.1.cell 0 _ rfl
    have p1 := T2.out.1.cell 1 _ rfl
    obtain ⟨x0, x1, x2, x3, x4, x5, x6, x7, x8, x9, x10, x11, x12⟩ := EntAt.of T2.out.2.1
    go_upto_region 5 with (fail)
    replace p0 := cell_regrown p0
    replace p1 := cell_regrown p1
    replace x0 := cell_regrown x0
    replace x1 := cell_regrown x1
    replace x2 := cell_regrown x2
    replace x3 := cell_regrown x3
    replace x4 := cell_regrown x4
    replace x5 := cell_regrown x5
    replace x6 := cell_regrown x6
    replace x7 := cell_regrown x7
    replace x8 := cell_regrown x8
    replace x9 := cell_regrown x9
    replace x10 := cell_regrown x10
    replace x11 := cell_regrown x11
    replace x12 := cell_regrown x12
    have h1 := T2.out.2.2.2.1
    have c1 := fun d os => Calls.regrown_of (CA.out (grow (redrawn w2 d) os) (h1.below (below_regrown _ _ _)))
    replace h1 := Lib.hid h1
    refine wp_region_quiet_below (by kernel_rfl) (by kernel_rfl) ?_
    repeat (quiet_step (first | (with_reducible exact c1 _ _)))
    refine wpQuiet_nil ?_
    intro _ hw7
    obtain ⟨⟨dq, osq⟩, hw8⟩ := hw7
    subst hw8
    have T5 := Lib.hid (T2.out.go (below_regrown w2 dq osq))
    generalize grow (redrawn w2 dq) osq = w5 at *
    clear p0 p1 x0 x1 x2 x3 x4 x5 x6 x7 x8 x9 x10 x11 x12 c1 h1 T2
    have p0 := T5.out.1.cell 0 _ rfl
    have p1 := T5.out.1.cell 1 _ rfl
    obtain ⟨x0, x1, x2, x3, x4, x5, x6, x7, x8, x9, x10, x11, x12⟩ := EntAt.of T5.out.2.1
    go_wp2_with fail
    refine (CP.out _ T5.out.2.2.2.1).mono ?_
    rintro e w6 ⟨A6, n6, c6, rfl, I6, b6⟩
    have T7 := Lib.hid ((T5.out.go b6).go (bnew w6 (.cells #[.int .i64 q1, .slice A6 n6 c6] 24)))
    have Q7 := Lib.hid (Has.new w6 (.cells #[.int .i64 q1, .slice A6 n6 c6] 24))
    have I7 := Lib.hid (I6.alloc (.cells #[.int .i64 q1, .slice A6 n6 c6] 24))
    have hz6 := (T5.out.go b6).2.2.1.lt
    clear b6 I6 T5 p0 p1 x0 x1 x2 x3 x4 x5 x6 x7 x8 x9 x10 x11 x12
    go_upto_region 8 with (fail)
    generalize hw7 : World.alloc w6 _ = w7
    rw [hw7] at T7 Q7 I7
    clear hw7
    have p0 := T7.out.1.cell 0 _ rfl
    have p1 := T7.out.1.cell 1 _ rfl
    obtain ⟨x0, x1, x2, x3, x4, x5, x6, x7, x8, x9, x10, x11, x12⟩ := EntAt.of T7.out.2.1
    have q0 := Q7.out.cell 0 _ rfl
    have qq1 := Q7.out.cell 1 _ rfl
    have qf0 := Q7.out.free 0
    go_upto_region 11 with (fail)
    have hg1 : w.heap.size + 1 + 1 ≠ w6.heap.size := by omega
    have hg2 : w.heap.size ≤ w6.heap.size := by omega
    have Q8 := Lib.hid (Q7.out.set 0 (.int .i64 ls))
    have Z8 := Lib.hid (T7.out.2.2.1.setOther hg1 0 (.int .i64 ls))
    have B8 := Lib.hid (T7.out.2.2.2.2.setCell (p := ⟨w6.heap.size, 0, none⟩) hg2 (.int .i64 ls))
    have I8 := Lib.hid (I7.out.apart Q7.out (But.set w6.heap.size 0 w7 (.int .i64 ls)))
    generalize hw8 : World.setCell _ _ _ = w8
    rw [hw8] at Q8 Z8 B8 I8
    simp only [List.setIfInBounds_toArray, List.set_cons_succ, List.set_cons_zero] at Q8
    clear hw8 T7 Q7 I7 p0 p1 x0 x1 x2 x3 x4 x5 x6 x7 x8 x9 x10 x11 x12 q0 qq1 qf0
    have q0 := Q8.out.cell 0 _ rfl
    have qq1 := Q8.out.cell 1 _ rfl
    go_wp2_with ((with_reducible refine at_store rfl ?_); refine wpList_put_row rfl _ _ _ rfl rfl (w.heap.size + 1 + 1) _ rfl rfl _ _ Z8.out (by kernel_rfl) rfl (by first | kernel_rfl | simp [Value.oneCell']) ?_; intro w9 Z9 B9)
    (try simp only [Exit.inBlock, Exit.then])
    refine bodyPost_ret (v := .tuple #[.agg #[.int .i64 ls, .slice A6 n6 c6], .bool true, .int .i64 0]) ?_ rfl ⟨A6, n6, c6, by rw [HR.out], by rw [HR.out]; exact I8.out.apart Z8.out B9, ?_⟩
    · refine Eq.trans (results_cell_two (p := 4) (u := 5) (v := 6) ?_ _ _ (w.heap.size + 1 + 1) _ _ _ fs ?_ Z9 Hu.out (by kernel_rfl)) ?_
      all_goals rfl
    · exact B8.out.trans (B9.below (by omega) B8.out.size)
  · rw [if_neg hq] at hR
    have HR := Lib.hid hR.symm
    have hqb : ((q3 : Int) != 0) = true := by simp [hq]
    clear hR hq
    go_enter Try.func12, Try.ntmps12
    go_upto_region 1 with (fail)
    generalize hw0 : World.alloc (World.alloc (World.alloc w _) _) _ = w0
    rw [hw0] at T0
    clear hw0
    have p0 := T0.out.1.cell 0 _ rfl
    have p1 := T0.out.1.cell 1 _ rfl
    obtain ⟨x0, x1, x2, x3, x4, x5, x6, x7, x8, x9, x10, x11, x12⟩ := EntAt.of T0.out.2.1
    go_wp2_with fail
    refine (CG.out _ T0.out.2.2.2.1).mono ?_
    rintro e w1 ⟨rfl, b1⟩
    have T1 := Lib.hid (T0.out.go b1)
    clear b1 T0 p0 p1 x0 x1 x2 x3 x4 x5 x6 x7 x8 x9 x10 x11 x12
    have p0 := T1.out.1.cell 0 _ rfl
    have p1 := T1.out.1.cell 1 _ rfl
    obtain ⟨x0, x1, x2, x3, x4, x5, x6, x7, x8, x9, x10, x11, x12⟩ := EntAt.of T1.out.2.1
    go_wp2_with fail
    refine (CE.out _).mono ?_
    rintro e w2 ⟨rfl, b2⟩
    have T2 := Lib.hid (T1.out.go b2)
    clear b2 T1 p0 p1 x0 x1 x2 x3 x4 x5 x6 x7 x8 x9 x10 x11 x12
    have p0 := T2.out.1.cell 0 _ rfl
    have p1 := T2.out.1.cell 1 _ rfl
    obtain ⟨x0, x1, x2, x3, x4, x5, x6, x7, x8, x9, x10, x11, x12⟩ := EntAt.of T2.out.2.1
    go_upto_region 5 with (fail)
    replace p0 := cell_regrown p0
    replace p1 := cell_regrown p1
    replace x0 := cell_regrown x0
    replace x1 := cell_regrown x1
    replace x2 := cell_regrown x2
    replace x3 := cell_regrown x3
    replace x4 := cell_regrown x4
    replace x5 := cell_regrown x5
    replace x6 := cell_regrown x6
    replace x7 := cell_regrown x7
    replace x8 := cell_regrown x8
    replace x9 := cell_regrown x9
    replace x10 := cell_regrown x10
    replace x11 := cell_regrown x11
    replace x12 := cell_regrown x12
    have h1 := T2.out.2.2.2.1
    have c1 := fun d os => Calls.regrown_of (CA.out (grow (redrawn w2 d) os) (h1.below (below_regrown _ _ _)))
    replace h1 := Lib.hid h1
    refine wp_region_quiet_below (by kernel_rfl) (by kernel_rfl) ?_
    repeat (quiet_step (first | (with_reducible exact c1 _ _)))
    refine wpQuiet_nil ?_
    intro _ hw7
    obtain ⟨⟨dq, osq⟩, hw8⟩ := hw7
    subst hw8
    have T5 := Lib.hid (T2.out.go (below_regrown w2 dq osq))
    generalize grow (redrawn w2 dq) osq = w5 at *
    clear p0 p1 x0 x1 x2 x3 x4 x5 x6 x7 x8 x9 x10 x11 x12 c1 h1 T2
    have p0 := T5.out.1.cell 0 _ rfl
    have p1 := T5.out.1.cell 1 _ rfl
    obtain ⟨x0, x1, x2, x3, x4, x5, x6, x7, x8, x9, x10, x11, x12⟩ := EntAt.of T5.out.2.1
    go_wp2_with fail
    refine (CP.out _ T5.out.2.2.2.1).mono ?_
    rintro e w6 ⟨A6, n6, c6, rfl, I6, b6⟩
    have T7 := Lib.hid ((T5.out.go b6).go (bnew w6 (.cells #[.int .i64 q1, .slice A6 n6 c6] 24)))
    have Q7 := Lib.hid (Has.new w6 (.cells #[.int .i64 q1, .slice A6 n6 c6] 24))
    have I7 := Lib.hid (I6.alloc (.cells #[.int .i64 q1, .slice A6 n6 c6] 24))
    have hz6 := (T5.out.go b6).2.2.1.lt
    clear b6 I6 T5 p0 p1 x0 x1 x2 x3 x4 x5 x6 x7 x8 x9 x10 x11 x12
    go_upto_region 8 with (fail)
    generalize hw7 : World.alloc w6 _ = w7
    rw [hw7] at T7 Q7 I7
    clear hw7
    have p0 := T7.out.1.cell 0 _ rfl
    have p1 := T7.out.1.cell 1 _ rfl
    obtain ⟨x0, x1, x2, x3, x4, x5, x6, x7, x8, x9, x10, x11, x12⟩ := EntAt.of T7.out.2.1
    have q0 := Q7.out.cell 0 _ rfl
    have qq1 := Q7.out.cell 1 _ rfl
    have qf0 := Q7.out.free 0
    have ZF := Lib.hid T7.out.2.2.1
    have BF := Lib.hid T7.out.2.2.2.2
    go_wp2_with ((with_reducible refine at_store rfl ?_); refine wpList_put_row rfl _ _ _ rfl rfl (w.heap.size + 1 + 1) _ rfl rfl _ _ ZF.out (by kernel_rfl) rfl (by first | kernel_rfl | simp [Value.oneCell']) ?_; intro w9 Z9 B9)
    (try simp only [Exit.inBlock, Exit.then])
    refine bodyPost_ret (v := .tuple #[.agg #[.int .i64 0, .slice none 0 0], .bool false, .int .i64 q3]) ?_ rfl ⟨none, 0, 0, by rw [HR.out], by rw [HR.out]; exact IsSlots.nil _, ?_⟩
    · refine Eq.trans (results_cell_two (p := 4) (u := 5) (v := 6) ?_ _ _ (w.heap.size + 1 + 1) _ _ _ fs ?_ Z9 Hu.out (by kernel_rfl)) ?_
      all_goals rfl
    · exact BF.out.trans (B9.below (by omega) BF.out.size)
end Go.Proofs.Ytpgeiopknjfdmaa
