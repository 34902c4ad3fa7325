/-
  The walk of a statement of layer 4: which entries can be, their bytes.
-/
import Derived.Test.YteknaeemjgpgbaaEntAwake
import Derived.Test.YteknaeemjgpgbaaEntRenc
namespace Go.Proofs.Yteknaeemjgpgbaa
open Go.RowKit Go.Sort NibPure
set_option linter.unusedVariables false
set_option linter.unusedSimpArgs false

theorem encRes_form (x : Ent) : ∃ s n, x.encRes = .tuple #[.string s, .int .i64 n] := by
  unfold Ent.encRes
  split
  · exact ⟨_, _, rfl⟩
  · exact ⟨_, _, rfl⟩
set_option maxRecDepth 100000 in
set_option maxHeartbeats 8000000 in
theorem EntryWrites_walk (x : Ent) (hw : x.wd.size ≤ 140737488351232) (hi : x.ix.size ≤ 140737488351232) (w : World) :
    Calls Try.prog 3 #[x.val] w fun e w' => e = .returned (.bool true) ∧ Below w.heap.size w w' := by
  have CA := Lib.hid entAwake_any
  have CG := fun w => entGreat_any x (by omega) (by omega) w
  have C1 := fun w => encode_any x (by omega) (by omega) w
  have C2 := fun w => rencode_any x (by omega) (by omega) w
  have C3 := fun w => good_any x (by omega) (by omega) w
  have C4 := fun w => rgood04_any x (by omega) (by omega) w
  have C5 := fun w => cost_any x (by omega) (by omega) w
  have C6 := fun w => rcost_any x (by omega) (by omega) w
  have C7 := fun w => known_any x.cl x.ep x.n w
  have C8 := fun w => refKnown_any x.cl x.ep x.n w
  obtain ⟨G, hG⟩ : ∃ G, x.great = G := ⟨_, rfl⟩
  obtain ⟨S1, S2, hS⟩ := encRes_form x
  obtain ⟨O, hO⟩ : ∃ G, x.good = G := ⟨_, rfl⟩
  obtain ⟨N, hN⟩ : ∃ G, x.cost = G := ⟨_, rfl⟩
  obtain ⟨K, hK⟩ : ∃ G, knownB x.cl x.ep x.n = G := ⟨_, rfl⟩
  rw [hG] at CG
  rw [hS] at C1 C2
  rw [hO] at C3 C4
  rw [hN] at C5 C6
  rw [hK] at C7 C8
  clear hG hS hO hN hK
  obtain ⟨k, c, e, n, l, p, pg, sl, wu, wd, iu, ix, nx⟩ := x
  simp only [Ent.val, Ent.row] at CG C1 C2 C3 C4 C5 C6 C7 C8 ⊢
  replace CG := Lib.hid CG
  replace C1 := Lib.hid C1
  replace C2 := Lib.hid C2
  replace C3 := Lib.hid C3
  replace C4 := Lib.hid C4
  replace C5 := Lib.hid C5
  replace C6 := Lib.hid C6
  replace C7 := Lib.hid C7
  replace C8 := Lib.hid C8
  cases G with
  | true =>
    go_enter Try.func3, Try.ntmps3
    go_wp2_with fail
    refine (CA.out _).mono ?_
    rintro e w1 ⟨rfl, b1⟩
    have X1 := Lib.hid ((Has.new w _).below b1)
    have B1 := Lib.hid (bup (bnew w _) b1)
    clear b1
    obtain ⟨x0, x1, x2, x3, x4, x5, x6, x7, x8, x9, x10, x11, x12⟩ := EntAt.of X1.out
    go_wp2_with fail
    refine (CG.out _).mono ?_
    rintro e w2 ⟨rfl, b2⟩
    have X2 := Lib.hid (X1.out.below b2)
    have B2 := Lib.hid (bup B1.out b2)
    clear b2 X1 B1 x0 x1 x2 x3 x4 x5 x6 x7 x8 x9 x10 x11 x12
    obtain ⟨x0, x1, x2, x3, x4, x5, x6, x7, x8, x9, x10, x11, x12⟩ := EntAt.of X2.out
    go_wp2_with fail
    go_ret
    exact ⟨rfl, B2.out⟩
  | false =>
    go_enter Try.func3, Try.ntmps3
    go_wp2_with fail
    refine (CA.out _).mono ?_
    rintro e w1 ⟨rfl, b1⟩
    have X1 := Lib.hid ((Has.new w _).below b1)
    have B1 := Lib.hid (bup (bnew w _) b1)
    clear b1
    obtain ⟨x0, x1, x2, x3, x4, x5, x6, x7, x8, x9, x10, x11, x12⟩ := EntAt.of X1.out
    go_wp2_with fail
    refine (CG.out _).mono ?_
    rintro e w2 ⟨rfl, b2⟩
    have X2 := Lib.hid (X1.out.below b2)
    have B2 := Lib.hid (bup B1.out b2)
    clear b2 X1 B1 x0 x1 x2 x3 x4 x5 x6 x7 x8 x9 x10 x11 x12
    obtain ⟨x0, x1, x2, x3, x4, x5, x6, x7, x8, x9, x10, x11, x12⟩ := EntAt.of X2.out
    go_wp2_with fail
    refine (C1.out _).mono ?_
    rintro e w3 ⟨rfl, b3⟩
    have X3 := Lib.hid (X2.out.below b3)
    have B3 := Lib.hid (bup B2.out b3)
    clear b3 X2 B2 x0 x1 x2 x3 x4 x5 x6 x7 x8 x9 x10 x11 x12
    obtain ⟨x0, x1, x2, x3, x4, x5, x6, x7, x8, x9, x10, x11, x12⟩ := EntAt.of X3.out
    go_wp2_with fail
    refine (C2.out _).mono ?_
    rintro e w4 ⟨rfl, b4⟩
    have X4 := Lib.hid (X3.out.below b4)
    have B4 := Lib.hid (bup B3.out b4)
    clear b4 X3 B3 x0 x1 x2 x3 x4 x5 x6 x7 x8 x9 x10 x11 x12
    obtain ⟨x0, x1, x2, x3, x4, x5, x6, x7, x8, x9, x10, x11, x12⟩ := EntAt.of X4.out
    go_upto_region 7 with (fail)
    replace x0 := cell_regrown x0
    replace x1 := cell_regrown x1
    replace x2 := cell_regrown x2
    replace x3 := cell_regrown x3
    replace x4 := cell_regrown x4
    replace x5 := cell_regrown x5
    replace x6 := cell_regrown x6
    replace x7 := cell_regrown x7
    replace x8 := cell_regrown x8
    replace x9 := cell_regrown x9
    replace x10 := cell_regrown x10
    replace x11 := cell_regrown x11
    replace x12 := cell_regrown x12
    have c3 := fun d os => Calls.regrown_of (C3.out (grow (redrawn w4 d) os))
    have c4 := fun d os => Calls.regrown_of (C4.out (grow (redrawn w4 d) os))
    have c5 := fun d os => Calls.regrown_of (C5.out (grow (redrawn w4 d) os))
    have c6 := fun d os => Calls.regrown_of (C6.out (grow (redrawn w4 d) os))
    have c7 := fun d os => Calls.regrown_of (C7.out (grow (redrawn w4 d) os))
    have c8 := fun d os => Calls.regrown_of (C8.out (grow (redrawn w4 d) os))
    refine wp_region_quiet_below (by kernel_rfl) (by kernel_rfl) ?_
    repeat (quiet_step (first | (with_reducible exact c3 _ _) | (with_reducible exact c4 _ _) | (with_reducible exact c5 _ _) | (with_reducible exact c6 _ _) | (with_reducible exact c7 _ _) | (with_reducible exact c8 _ _)))
    refine wpQuiet_nil ?_
    intro _ hw7
    obtain ⟨⟨dq, osq⟩, hw8⟩ := hw7
    subst hw8
    go_wp2_with fail
    go_ret
    exact ⟨by simp, bup B4.out (below_regrown _ _ _)⟩
end Go.Proofs.Yteknaeemjgpgbaa
