/-
  Every message can be or can't, and has the bytes, as the document says.
-/
import Derived.Test.YtakdagmkkelnfaaNoR4
import Derived.Test.YtakdagmkkelnfaaNoM
import Derived.Lib.QuietBelow
namespace Go.Proofs.Ytakdagmkkelnfaa
open Go.RowKit Go.Sort NibPure SumPure
set_option linter.unusedVariables false
set_option linter.unusedSimpArgs false

set_option maxHeartbeats 64000000 in
set_option maxRecDepth 100000 in
theorem NoteWrites_walk (m : Ms) (A : Option Addr) (sn sc : Nat) (B : Option Addr) (en ec : Nat) (w : World) (hS : IsSlots w A sn sc m.sl) (hE : IsEnts w B en ec m.en) :
    Calls Try.prog 5 #[.agg (m.row A sn sc B en ec)] w fun r w' => r = .returned (.bool true) ∧ Below w.heap.size w w' := by
  have CA := Lib.hid (fun w => awake_any w)
  have CG := Lib.hid (fun w h1 h2 => great_any m A sn sc B en ec w h1 h2)
  have CE := Lib.hid (fun w h1 h2 => nencode_any m A sn sc B en ec w h1 h2)
  have CR := Lib.hid (fun w h1 h2 => rmencode_any m A sn sc B en ec w h1 h2)
  have C3 := Lib.hid (fun w h1 h2 => ngood_any m A sn sc B en ec w h1 h2)
  have C4 := Lib.hid (fun w h1 h2 => rmgood_any m A sn sc B en ec w h1 h2)
  obtain ⟨g, hg⟩ : ∃ g, greatB m = g := ⟨_, rfl⟩
  rw [hg] at CG
  obtain ⟨gd, hgd⟩ : ∃ g, m.good = g := ⟨_, rfl⟩
  rw [hgd] at C3 C4
  obtain ⟨U, z, hU, hz⟩ : ∃ U z, bs m.encM.1 = U ∧ m.encM.2 = z := ⟨_, _, rfl, rfl⟩
  rw [hU, hz] at CE CR
  clear hU hz hg hgd
  have HS := Lib.hid hS
  have HE := Lib.hid hE
  clear hS hE
  obtain ⟨k, pg, x, need, n, tc, te, tn, lsn, sl, el⟩ := m
  simp only [Ms.row, msgC] at CG CE CR C3 C4 HS HE ⊢
  go_enter Try.func5, Try.ntmps5
  go_upto_region 1 with (fail)
  have X := Lib.hid (Has.new w (.cells #[.int .i64 k, .int .i64 pg, .bool x, .bool need, .int .i64 n, .int .i64 tc, .int .i64 te, .int .i64 tn, .int .i64 lsn, .slice A sn sc, .slice B en ec] 32))
  have BW := Lib.hid (bnew w (.cells #[.int .i64 k, .int .i64 pg, .bool x, .bool need, .int .i64 n, .int .i64 tc, .int .i64 te, .int .i64 tn, .int .i64 lsn, .slice A sn sc, .slice B en ec] 32))
  generalize World.alloc w _ = wa at X BW ⊢
  go_wp2_with fail
  refine (CA.out _).mono ?_
  rintro e w1 ⟨rfl, b1⟩
  have X := Lib.hid (X.out.below b1)
  have BW := Lib.hid (bup BW.out b1)
  clear b1 CA
  have x0 := X.out.cell 0 _ rfl
  have x1 := X.out.cell 1 _ rfl
  have x2 := X.out.cell 2 _ rfl
  have x3 := X.out.cell 3 _ rfl
  have x4 := X.out.cell 4 _ rfl
  have x5 := X.out.cell 5 _ rfl
  have x6 := X.out.cell 6 _ rfl
  have x7 := X.out.cell 7 _ rfl
  have x8 := X.out.cell 8 _ rfl
  have x9 := X.out.cell 9 _ rfl
  have x10 := X.out.cell 10 _ rfl
  go_wp2_with fail
  refine (CG.out _ (HS.out.below BW.out) (HE.out.below BW.out)).mono ?_
  rintro e w2 ⟨rfl, b2⟩
  have X := Lib.hid (X.out.below b2)
  have BW := Lib.hid (bup BW.out b2)
  clear b2 CG x0 x1 x2 x3 x4 x5 x6 x7 x8 x9 x10
  cases g with
  | true =>
    go_wp2_with fail
    go_ret
    exact ⟨rfl, BW.out⟩
  | false =>
    have x0 := X.out.cell 0 _ rfl
    have x1 := X.out.cell 1 _ rfl
    have x2 := X.out.cell 2 _ rfl
    have x3 := X.out.cell 3 _ rfl
    have x4 := X.out.cell 4 _ rfl
    have x5 := X.out.cell 5 _ rfl
    have x6 := X.out.cell 6 _ rfl
    have x7 := X.out.cell 7 _ rfl
    have x8 := X.out.cell 8 _ rfl
    have x9 := X.out.cell 9 _ rfl
    have x10 := X.out.cell 10 _ rfl
    go_wp2_with fail
    refine (CE.out _ (HS.out.below BW.out) (HE.out.below BW.out)).mono ?_
    rintro e w3 ⟨rfl, b3⟩
    have X := Lib.hid (X.out.below b3)
    have BW := Lib.hid (bup BW.out b3)
    clear b3 CE x0 x1 x2 x3 x4 x5 x6 x7 x8 x9 x10
    have x0 := X.out.cell 0 _ rfl
    have x1 := X.out.cell 1 _ rfl
    have x2 := X.out.cell 2 _ rfl
    have x3 := X.out.cell 3 _ rfl
    have x4 := X.out.cell 4 _ rfl
    have x5 := X.out.cell 5 _ rfl
    have x6 := X.out.cell 6 _ rfl
    have x7 := X.out.cell 7 _ rfl
    have x8 := X.out.cell 8 _ rfl
    have x9 := X.out.cell 9 _ rfl
    have x10 := X.out.cell 10 _ rfl
    go_wp2_with fail
    refine (CR.out _ (HS.out.below BW.out) (HE.out.below BW.out)).mono ?_
    rintro e w4 ⟨rfl, b3⟩
    have X := Lib.hid (X.out.below b3)
    have BW := Lib.hid (bup BW.out b3)
    clear b3 CR x0 x1 x2 x3 x4 x5 x6 x7 x8 x9 x10
    have c1 := fun d os => Calls.regrown_of (C3.out (grow (redrawn w4 d) os) ((HS.out.below BW.out).below (below_regrown w4 d os)) ((HE.out.below BW.out).below (below_regrown w4 d os)))
    have c2 := fun d os => Calls.regrown_of (C4.out (grow (redrawn w4 d) os) ((HS.out.below BW.out).below (below_regrown w4 d os)) ((HE.out.below BW.out).below (below_regrown w4 d os)))
    clear C3 C4
    have x0 := cell_regrown (X.out.cell 0 _ rfl)
    have x1 := cell_regrown (X.out.cell 1 _ rfl)
    have x2 := cell_regrown (X.out.cell 2 _ rfl)
    have x3 := cell_regrown (X.out.cell 3 _ rfl)
    have x4 := cell_regrown (X.out.cell 4 _ rfl)
    have x5 := cell_regrown (X.out.cell 5 _ rfl)
    have x6 := cell_regrown (X.out.cell 6 _ rfl)
    have x7 := cell_regrown (X.out.cell 7 _ rfl)
    have x8 := cell_regrown (X.out.cell 8 _ rfl)
    have x9 := cell_regrown (X.out.cell 9 _ rfl)
    have x10 := cell_regrown (X.out.cell 10 _ rfl)
    cases gd <;>
    · go_upto_region 7 with (fail)
      refine wp_region_quiet_below (by kernel_rfl) (by kernel_rfl) ?_
      repeat (quiet_step (first | (with_reducible exact c1 _ _) | (with_reducible exact c2 _ _)))
      refine wpQuiet_nil ?_
      intro _ hw4
      obtain ⟨⟨dq, osq⟩, hw5⟩ := hw4
      subst hw5
      have b1 := below_regrown w4 dq osq
      go_wp2_with fail
      go_ret
      exact ⟨rfl, bup BW.out b1⟩
end Go.Proofs.Ytakdagmkkelnfaa
