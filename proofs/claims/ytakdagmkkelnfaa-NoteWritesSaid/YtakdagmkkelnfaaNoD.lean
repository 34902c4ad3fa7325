/-
  Whether a message can be.
-/
import Derived.Test.YtakdagmkkelnfaaNoB
import Derived.Test.YtakdagmkkelnfaaNoC
namespace Go.Proofs.Ytakdagmkkelnfaa
open Go.RowKit Go.Sort
set_option linter.unusedVariables false
set_option linter.unusedSimpArgs false
def Ms.row (m : Ms) (A : Option Addr) (sn sc : Nat) (B : Option Addr) (en ec : Nat) : Array Value := msgC m.kind m.page m.x m.need m.n m.tc m.te m.tn m.lsn A sn sc B en ec
/-- Which of the tests there are: five of the fields, six ways. -/
theorem five (k : Int) (need : Bool) : (kP k = true ∧ kT k = false ∧ kC k = false ∧ kI k need = false ∧ kE k = false) ∨ (kP k = true ∧ kT k = false ∧ kC k = false ∧ kI k need = true ∧ kE k = false) ∨
    (kP k = false ∧ kT k = true ∧ kC k = false ∧ kI k need = false ∧ kE k = false) ∨ (kP k = false ∧ kT k = false ∧ kC k = true ∧ kI k need = false ∧ kE k = false) ∨
    (kP k = false ∧ kT k = false ∧ kC k = false ∧ kI k need = false ∧ kE k = true) ∨ (kP k = false ∧ kT k = false ∧ kC k = false ∧ kI k need = false ∧ kE k = false) := by
  have key : k = 1 ∨ k = 2 ∨ k = 3 ∨ k = 4 ∨ k = 5 ∨ k = 6 ∨ k = 7 ∨ k = 8 ∨ k = 9 ∨ k = 10 ∨ k = 11 ∨ k = 12 ∨ k = 13 ∨ (k < 1 ∨ 13 < k) := by omega
  rcases key with rfl | rfl | rfl | rfl | rfl | rfl | rfl | rfl | rfl | rfl | rfl | rfl | rfl | hk
  iterate 13 (cases need <;> decide)
  have h1 : (k == 1) = false := by simp; omega
  have h2 : (k == 2) = false := by simp; omega
  have h3 : (k == 3) = false := by simp; omega
  have h4 : (k == 4) = false := by simp; omega
  have h5 : (k == 5) = false := by simp; omega
  have h6 : (k == 6) = false := by simp; omega
  have h7 : (k == 7) = false := by simp; omega
  have h8 : (k == 8) = false := by simp; omega
  have h9 : (k == 9) = false := by simp; omega
  have h10 : (k == 10) = false := by simp; omega
  have h11 : (k == 11) = false := by simp; omega
  have h13 : (k == 13) = false := by simp; omega
  unfold kP kT kC kI kE
  simp [h1, h2, h3, h4, h5, h6, h7, h8, h9, h10, h11, h13]
theorem bareB_eq (m : Ms) (sn en : Nat) (h1 : m.sl.length = sn) (h2 : m.en.length = en) : m.bareB = bareC m.kind m.page m.x m.need m.n m.tc m.te m.tn m.lsn sn en := by
  subst h1 h2
  have e1 : m.sl.isEmpty = (m.sl.length == 0) := by cases m.sl <;> rfl
  have e2 : m.en.isEmpty = (m.en.length == 0) := by cases m.en <;> rfl
  unfold Ms.bareB bareC
  rw [e1, e2]
  simp
set_option maxRecDepth 100000 in
set_option maxHeartbeats 16000000 in
theorem ngood_core (k pg : Int) (x need : Bool) (n tc te tn lsn : Int) (A : Option Addr) (sn sc : Nat) (B : Option Addr) (en ec : Nat) (sl : List Sl) (el : List Ent) (w : World) (hS : IsSlots w A sn sc sl) (hE : IsEnts w B en ec el)
    (R : Bool) (hR : (kIs k && (bareC k pg x need n tc te tn lsn sn en && ((!kP k || decide (0 ≤ pg ∧ pg ≤ 1023)) && ((!kT k || knownB tc te tn) && ((!kC k || decide (0 ≤ n ∧ n ≤ 1048576)) &&
    ((!kI k need || slGood lsn sl) && ((!kE k || decide (1 ≤ (en : Int) ∧ (en : Int) ≤ 16)) && !(el.any Ent.badB)))))))) = R) :
    Calls Try.prog 13 #[.agg #[.int .i64 k, .int .i64 pg, .bool x, .bool need, .int .i64 n, .int .i64 tc, .int .i64 te, .int .i64 tn, .int .i64 lsn, .slice A sn sc, .slice B en ec]] w fun r w' => r = .returned (.bool R) ∧ Below w.heap.size w w' := by
  have C1 := Lib.hid (fun w => shapeOf_any k pg x need n tc te tn lsn A sn sc B en ec w)
  have C2 := Lib.hid (fun (h : kIs k = true) w => bare_any k pg x need n tc te tn lsn A sn sc B en ec w h)
  have C3 := Lib.hid (fun w => nwithin_is (n := pg) (a := 0) (b := 1023) rfl w)
  have C4 := Lib.hid (fun w => known_any tc te tn w)
  have C5 := Lib.hid (fun w => nwithin_is (n := n) (a := 0) (b := 1048576) rfl w)
  have C6 := Lib.hid (fun w h => pgood_any lsn A sn sc sl w h)
  have C7 := Lib.hid (fun w => nwithin_is (n := (en : Int)) (a := 1) (b := 16) rfl w)
  have C8 := Lib.hid (fun w h => hasBad_any B en ec el w h)
  have HS := Lib.hid hS
  have HE := Lib.hid hE
  have hcap := hE.cap
  have hmost := hE.most
  have F5 := five k need
  have HIS := Lib.hid (rfl : kIs k = kIs k)
  obtain ⟨bis, h0⟩ : ∃ b, kIs k = b := ⟨_, rfl⟩
  obtain ⟨bb, h1⟩ : ∃ b, bareC k pg x need n tc te tn lsn sn en = b := ⟨_, rfl⟩
  obtain ⟨wp, h2⟩ : ∃ b, decide (0 ≤ pg ∧ pg ≤ 1023) = b := ⟨_, rfl⟩
  obtain ⟨kn, h3⟩ : ∃ b, knownB tc te tn = b := ⟨_, rfl⟩
  obtain ⟨wn, h4⟩ : ∃ b, decide (0 ≤ n ∧ n ≤ 1048576) = b := ⟨_, rfl⟩
  obtain ⟨gi, h5⟩ : ∃ b, slGood lsn sl = b := ⟨_, rfl⟩
  obtain ⟨we, h6⟩ : ∃ b, decide (1 ≤ (en : Int) ∧ (en : Int) ≤ 16) = b := ⟨_, rfl⟩
  obtain ⟨bad, h7⟩ : ∃ b, el.any Ent.badB = b := ⟨_, rfl⟩
  obtain ⟨fp, g0⟩ : ∃ b, kP k = b := ⟨_, rfl⟩
  obtain ⟨fx, g1⟩ : ∃ b, kX k = b := ⟨_, rfl⟩
  obtain ⟨fn, g2⟩ : ∃ b, kN k = b := ⟨_, rfl⟩
  obtain ⟨ft, g3⟩ : ∃ b, kT k = b := ⟨_, rfl⟩
  obtain ⟨fc, g4⟩ : ∃ b, kC k = b := ⟨_, rfl⟩
  obtain ⟨fi, g5⟩ : ∃ b, kI k need = b := ⟨_, rfl⟩
  obtain ⟨fe, g6⟩ : ∃ b, kE k = b := ⟨_, rfl⟩
  simp only [msgC, shC] at C1 C2
  rw [h0, g0, g1, g2, g3, g4, g5, g6] at C1
  rw [h0, h1, g0, g1, g2, g3, g4, g5, g6] at C2
  rw [h2] at C3
  rw [h3] at C4
  rw [h4] at C5
  rw [h5] at C6
  rw [h6] at C7
  rw [h7] at C8
  rw [g0, g3, g4, g5, g6] at F5
  rw [h0, h1, h2, h3, h4, h5, h6, h7, g0, g3, g4, g5, g6] at hR
  clear h0 h1 h2 h3 h4 h5 h6 h7 g0 g1 g2 g3 g4 g5 g6 hS hE HIS
  cases bis with
  | false =>
    obtain rfl : R = false := by rw [← hR]; simp
    clear hR F5 C2 C3 C4 C5 C6 C7 C8
    go_enter Try.func13, Try.ntmps13
    go_wp2_with fail
    refine (C1.out _).mono ?_
    rintro e w1 ⟨rfl, b1⟩
    have X1 := Lib.hid ((Has.new w _).below b1)
    have B1 := Lib.hid (bup (bnew w _) b1)
    clear b1 C1
    go_upto_region 2 with (fail)
    have Y := Lib.hid (Has.new w1 (.cells #[.bool fp, .bool fx, .bool fn, .bool ft, .bool fc, .bool fi, .bool fe] 55))
    have X := Lib.hid (X1.out.alloc (.cells #[.bool fp, .bool fx, .bool fn, .bool ft, .bool fc, .bool fi, .bool fe] 55))
    have BW := Lib.hid (bup B1.out (bnew w1 (.cells #[.bool fp, .bool fx, .bool fn, .bool ft, .bool fc, .bool fi, .bool fe] 55)))
    generalize World.alloc w1 _ = wa at X Y BW ⊢
    clear X1 B1
    have x0 := X.out.cell 0 _ rfl
    have x1 := X.out.cell 1 _ rfl
    have x2 := X.out.cell 2 _ rfl
    have x3 := X.out.cell 3 _ rfl
    have x4 := X.out.cell 4 _ rfl
    have x5 := X.out.cell 5 _ rfl
    have x6 := X.out.cell 6 _ rfl
    have x7 := X.out.cell 7 _ rfl
    have x8 := X.out.cell 8 _ rfl
    have x9 := X.out.cell 9 _ rfl
    have x10 := X.out.cell 10 _ rfl
    have y0 := Y.out.cell 0 _ rfl
    have y1 := Y.out.cell 1 _ rfl
    have y2 := Y.out.cell 2 _ rfl
    have y3 := Y.out.cell 3 _ rfl
    have y4 := Y.out.cell 4 _ rfl
    have y5 := Y.out.cell 5 _ rfl
    have y6 := Y.out.cell 6 _ rfl
    go_wp2_with fail
    go_ret
    exact ⟨rfl, BW.out⟩
  | true =>
  replace C2 := Lib.hid (fun w => C2.out rfl w)
  cases bb with
  | false =>
    obtain rfl : R = false := by rw [← hR]; simp
    clear hR F5 C3 C4 C5 C6 C7 C8
    go_enter Try.func13, Try.ntmps13
    go_wp2_with fail
    refine (C1.out _).mono ?_
    rintro e w1 ⟨rfl, b1⟩
    have X1 := Lib.hid ((Has.new w _).below b1)
    have B1 := Lib.hid (bup (bnew w _) b1)
    clear b1 C1
    go_upto_region 2 with (fail)
    have Y := Lib.hid (Has.new w1 (.cells #[.bool fp, .bool fx, .bool fn, .bool ft, .bool fc, .bool fi, .bool fe] 55))
    have X := Lib.hid (X1.out.alloc (.cells #[.bool fp, .bool fx, .bool fn, .bool ft, .bool fc, .bool fi, .bool fe] 55))
    have BW := Lib.hid (bup B1.out (bnew w1 (.cells #[.bool fp, .bool fx, .bool fn, .bool ft, .bool fc, .bool fi, .bool fe] 55)))
    generalize World.alloc w1 _ = wa at X Y BW ⊢
    clear X1 B1
    have x0 := X.out.cell 0 _ rfl
    have x1 := X.out.cell 1 _ rfl
    have x2 := X.out.cell 2 _ rfl
    have x3 := X.out.cell 3 _ rfl
    have x4 := X.out.cell 4 _ rfl
    have x5 := X.out.cell 5 _ rfl
    have x6 := X.out.cell 6 _ rfl
    have x7 := X.out.cell 7 _ rfl
    have x8 := X.out.cell 8 _ rfl
    have x9 := X.out.cell 9 _ rfl
    have x10 := X.out.cell 10 _ rfl
    have y0 := Y.out.cell 0 _ rfl
    have y1 := Y.out.cell 1 _ rfl
    have y2 := Y.out.cell 2 _ rfl
    have y3 := Y.out.cell 3 _ rfl
    have y4 := Y.out.cell 4 _ rfl
    have y5 := Y.out.cell 5 _ rfl
    have y6 := Y.out.cell 6 _ rfl
    go_wp2_with fail
    refine (C2.out _).mono ?_
    rintro e wb1 ⟨rfl, b1⟩
    clear x0 x1 x2 x3 x4 x5 x6 x7 x8 x9 x10 y0 y1 y2 y3 y4 y5 y6
    replace X := Lib.hid (X.out.below b1)
    replace Y := Lib.hid (Y.out.below b1)
    replace BW := Lib.hid (bup BW.out b1)
    clear b1
    have x0 := X.out.cell 0 _ rfl
    have x1 := X.out.cell 1 _ rfl
    have x2 := X.out.cell 2 _ rfl
    have x3 := X.out.cell 3 _ rfl
    have x4 := X.out.cell 4 _ rfl
    have x5 := X.out.cell 5 _ rfl
    have x6 := X.out.cell 6 _ rfl
    have x7 := X.out.cell 7 _ rfl
    have x8 := X.out.cell 8 _ rfl
    have x9 := X.out.cell 9 _ rfl
    have x10 := X.out.cell 10 _ rfl
    have y0 := Y.out.cell 0 _ rfl
    have y1 := Y.out.cell 1 _ rfl
    have y2 := Y.out.cell 2 _ rfl
    have y3 := Y.out.cell 3 _ rfl
    have y4 := Y.out.cell 4 _ rfl
    have y5 := Y.out.cell 5 _ rfl
    have y6 := Y.out.cell 6 _ rfl
    go_wp2_with fail
    go_ret
    exact ⟨rfl, BW.out⟩
  | true =>
  rcases F5 with ⟨rfl, rfl, rfl, rfl, rfl⟩ | ⟨rfl, rfl, rfl, rfl, rfl⟩ | ⟨rfl, rfl, rfl, rfl, rfl⟩ | ⟨rfl, rfl, rfl, rfl, rfl⟩ | ⟨rfl, rfl, rfl, rfl, rfl⟩ | ⟨rfl, rfl, rfl, rfl, rfl⟩
  · as_aux_lemma =>
      cases wp with
      | false =>
        obtain rfl : R = false := by rw [← hR]; simp
        clear hR
        go_enter Try.func13, Try.ntmps13
        go_wp2_with fail
        refine (C1.out _).mono ?_
        rintro e w1 ⟨rfl, b1⟩
        have X1 := Lib.hid ((Has.new w _).below b1)
        have B1 := Lib.hid (bup (bnew w _) b1)
        clear b1 C1
        go_upto_region 2 with (fail)
        have Y := Lib.hid (Has.new w1 (.cells #[.bool true, .bool fx, .bool fn, .bool false, .bool false, .bool false, .bool false] 55))
        have X := Lib.hid (X1.out.alloc (.cells #[.bool true, .bool fx, .bool fn, .bool false, .bool false, .bool false, .bool false] 55))
        have BW := Lib.hid (bup B1.out (bnew w1 (.cells #[.bool true, .bool fx, .bool fn, .bool false, .bool false, .bool false, .bool false] 55)))
        generalize World.alloc w1 _ = wa at X Y BW ⊢
        clear X1 B1
        have x0 := X.out.cell 0 _ rfl
        have x1 := X.out.cell 1 _ rfl
        have x2 := X.out.cell 2 _ rfl
        have x3 := X.out.cell 3 _ rfl
        have x4 := X.out.cell 4 _ rfl
        have x5 := X.out.cell 5 _ rfl
        have x6 := X.out.cell 6 _ rfl
        have x7 := X.out.cell 7 _ rfl
        have x8 := X.out.cell 8 _ rfl
        have x9 := X.out.cell 9 _ rfl
        have x10 := X.out.cell 10 _ rfl
        have y0 := Y.out.cell 0 _ rfl
        have y1 := Y.out.cell 1 _ rfl
        have y2 := Y.out.cell 2 _ rfl
        have y3 := Y.out.cell 3 _ rfl
        have y4 := Y.out.cell 4 _ rfl
        have y5 := Y.out.cell 5 _ rfl
        have y6 := Y.out.cell 6 _ rfl
        go_wp2_with fail
        refine (C2.out _).mono ?_
        rintro e wb1 ⟨rfl, b1⟩
        clear x0 x1 x2 x3 x4 x5 x6 x7 x8 x9 x10 y0 y1 y2 y3 y4 y5 y6
        replace X := Lib.hid (X.out.below b1)
        replace Y := Lib.hid (Y.out.below b1)
        replace BW := Lib.hid (bup BW.out b1)
        clear b1
        have x0 := X.out.cell 0 _ rfl
        have x1 := X.out.cell 1 _ rfl
        have x2 := X.out.cell 2 _ rfl
        have x3 := X.out.cell 3 _ rfl
        have x4 := X.out.cell 4 _ rfl
        have x5 := X.out.cell 5 _ rfl
        have x6 := X.out.cell 6 _ rfl
        have x7 := X.out.cell 7 _ rfl
        have x8 := X.out.cell 8 _ rfl
        have x9 := X.out.cell 9 _ rfl
        have x10 := X.out.cell 10 _ rfl
        have y0 := Y.out.cell 0 _ rfl
        have y1 := Y.out.cell 1 _ rfl
        have y2 := Y.out.cell 2 _ rfl
        have y3 := Y.out.cell 3 _ rfl
        have y4 := Y.out.cell 4 _ rfl
        have y5 := Y.out.cell 5 _ rfl
        have y6 := Y.out.cell 6 _ rfl
        go_wp2_with fail
        refine (C3.out _).mono ?_
        rintro e wq ⟨rfl, rfl⟩
        go_wp2_with fail
        go_ret
        exact ⟨rfl, BW.out⟩
      | true =>
        obtain rfl : R = !bad := by rw [← hR]; simp
        clear hR
        go_enter Try.func13, Try.ntmps13
        go_wp2_with fail
        refine (C1.out _).mono ?_
        rintro e w1 ⟨rfl, b1⟩
        have X1 := Lib.hid ((Has.new w _).below b1)
        have B1 := Lib.hid (bup (bnew w _) b1)
        clear b1 C1
        go_upto_region 2 with (fail)
        have Y := Lib.hid (Has.new w1 (.cells #[.bool true, .bool fx, .bool fn, .bool false, .bool false, .bool false, .bool false] 55))
        have X := Lib.hid (X1.out.alloc (.cells #[.bool true, .bool fx, .bool fn, .bool false, .bool false, .bool false, .bool false] 55))
        have BW := Lib.hid (bup B1.out (bnew w1 (.cells #[.bool true, .bool fx, .bool fn, .bool false, .bool false, .bool false, .bool false] 55)))
        generalize World.alloc w1 _ = wa at X Y BW ⊢
        clear X1 B1
        have x0 := X.out.cell 0 _ rfl
        have x1 := X.out.cell 1 _ rfl
        have x2 := X.out.cell 2 _ rfl
        have x3 := X.out.cell 3 _ rfl
        have x4 := X.out.cell 4 _ rfl
        have x5 := X.out.cell 5 _ rfl
        have x6 := X.out.cell 6 _ rfl
        have x7 := X.out.cell 7 _ rfl
        have x8 := X.out.cell 8 _ rfl
        have x9 := X.out.cell 9 _ rfl
        have x10 := X.out.cell 10 _ rfl
        have y0 := Y.out.cell 0 _ rfl
        have y1 := Y.out.cell 1 _ rfl
        have y2 := Y.out.cell 2 _ rfl
        have y3 := Y.out.cell 3 _ rfl
        have y4 := Y.out.cell 4 _ rfl
        have y5 := Y.out.cell 5 _ rfl
        have y6 := Y.out.cell 6 _ rfl
        go_wp2_with fail
        refine (C2.out _).mono ?_
        rintro e wb1 ⟨rfl, b1⟩
        clear x0 x1 x2 x3 x4 x5 x6 x7 x8 x9 x10 y0 y1 y2 y3 y4 y5 y6
        replace X := Lib.hid (X.out.below b1)
        replace Y := Lib.hid (Y.out.below b1)
        replace BW := Lib.hid (bup BW.out b1)
        clear b1
        have x0 := X.out.cell 0 _ rfl
        have x1 := X.out.cell 1 _ rfl
        have x2 := X.out.cell 2 _ rfl
        have x3 := X.out.cell 3 _ rfl
        have x4 := X.out.cell 4 _ rfl
        have x5 := X.out.cell 5 _ rfl
        have x6 := X.out.cell 6 _ rfl
        have x7 := X.out.cell 7 _ rfl
        have x8 := X.out.cell 8 _ rfl
        have x9 := X.out.cell 9 _ rfl
        have x10 := X.out.cell 10 _ rfl
        have y0 := Y.out.cell 0 _ rfl
        have y1 := Y.out.cell 1 _ rfl
        have y2 := Y.out.cell 2 _ rfl
        have y3 := Y.out.cell 3 _ rfl
        have y4 := Y.out.cell 4 _ rfl
        have y5 := Y.out.cell 5 _ rfl
        have y6 := Y.out.cell 6 _ rfl
        go_wp2_with fail
        refine (C3.out _).mono ?_
        rintro e wq ⟨rfl, rfl⟩
        go_wp2_with fail
        refine (C8.out _ (HE.out.below BW.out)).mono ?_
        rintro e wb3 ⟨rfl, b1⟩
        clear x0 x1 x2 x3 x4 x5 x6 x7 x8 x9 x10 y0 y1 y2 y3 y4 y5 y6
        replace X := Lib.hid (X.out.below b1)
        replace Y := Lib.hid (Y.out.below b1)
        replace BW := Lib.hid (bup BW.out b1)
        clear b1
        have x0 := X.out.cell 0 _ rfl
        have x1 := X.out.cell 1 _ rfl
        have x2 := X.out.cell 2 _ rfl
        have x3 := X.out.cell 3 _ rfl
        have x4 := X.out.cell 4 _ rfl
        have x5 := X.out.cell 5 _ rfl
        have x6 := X.out.cell 6 _ rfl
        have x7 := X.out.cell 7 _ rfl
        have x8 := X.out.cell 8 _ rfl
        have x9 := X.out.cell 9 _ rfl
        have x10 := X.out.cell 10 _ rfl
        have y0 := Y.out.cell 0 _ rfl
        have y1 := Y.out.cell 1 _ rfl
        have y2 := Y.out.cell 2 _ rfl
        have y3 := Y.out.cell 3 _ rfl
        have y4 := Y.out.cell 4 _ rfl
        have y5 := Y.out.cell 5 _ rfl
        have y6 := Y.out.cell 6 _ rfl
        go_wp2_with fail
        go_ret
        exact ⟨rfl, BW.out⟩
  · as_aux_lemma =>
      cases wp with
      | false =>
        obtain rfl : R = false := by rw [← hR]; simp
        clear hR
        go_enter Try.func13, Try.ntmps13
        go_wp2_with fail
        refine (C1.out _).mono ?_
        rintro e w1 ⟨rfl, b1⟩
        have X1 := Lib.hid ((Has.new w _).below b1)
        have B1 := Lib.hid (bup (bnew w _) b1)
        clear b1 C1
        go_upto_region 2 with (fail)
        have Y := Lib.hid (Has.new w1 (.cells #[.bool true, .bool fx, .bool fn, .bool false, .bool false, .bool true, .bool false] 55))
        have X := Lib.hid (X1.out.alloc (.cells #[.bool true, .bool fx, .bool fn, .bool false, .bool false, .bool true, .bool false] 55))
        have BW := Lib.hid (bup B1.out (bnew w1 (.cells #[.bool true, .bool fx, .bool fn, .bool false, .bool false, .bool true, .bool false] 55)))
        generalize World.alloc w1 _ = wa at X Y BW ⊢
        clear X1 B1
        have x0 := X.out.cell 0 _ rfl
        have x1 := X.out.cell 1 _ rfl
        have x2 := X.out.cell 2 _ rfl
        have x3 := X.out.cell 3 _ rfl
        have x4 := X.out.cell 4 _ rfl
        have x5 := X.out.cell 5 _ rfl
        have x6 := X.out.cell 6 _ rfl
        have x7 := X.out.cell 7 _ rfl
        have x8 := X.out.cell 8 _ rfl
        have x9 := X.out.cell 9 _ rfl
        have x10 := X.out.cell 10 _ rfl
        have y0 := Y.out.cell 0 _ rfl
        have y1 := Y.out.cell 1 _ rfl
        have y2 := Y.out.cell 2 _ rfl
        have y3 := Y.out.cell 3 _ rfl
        have y4 := Y.out.cell 4 _ rfl
        have y5 := Y.out.cell 5 _ rfl
        have y6 := Y.out.cell 6 _ rfl
        go_wp2_with fail
        refine (C2.out _).mono ?_
        rintro e wb1 ⟨rfl, b1⟩
        clear x0 x1 x2 x3 x4 x5 x6 x7 x8 x9 x10 y0 y1 y2 y3 y4 y5 y6
        replace X := Lib.hid (X.out.below b1)
        replace Y := Lib.hid (Y.out.below b1)
        replace BW := Lib.hid (bup BW.out b1)
        clear b1
        have x0 := X.out.cell 0 _ rfl
        have x1 := X.out.cell 1 _ rfl
        have x2 := X.out.cell 2 _ rfl
        have x3 := X.out.cell 3 _ rfl
        have x4 := X.out.cell 4 _ rfl
        have x5 := X.out.cell 5 _ rfl
        have x6 := X.out.cell 6 _ rfl
        have x7 := X.out.cell 7 _ rfl
        have x8 := X.out.cell 8 _ rfl
        have x9 := X.out.cell 9 _ rfl
        have x10 := X.out.cell 10 _ rfl
        have y0 := Y.out.cell 0 _ rfl
        have y1 := Y.out.cell 1 _ rfl
        have y2 := Y.out.cell 2 _ rfl
        have y3 := Y.out.cell 3 _ rfl
        have y4 := Y.out.cell 4 _ rfl
        have y5 := Y.out.cell 5 _ rfl
        have y6 := Y.out.cell 6 _ rfl
        go_wp2_with fail
        refine (C3.out _).mono ?_
        rintro e wq ⟨rfl, rfl⟩
        go_wp2_with fail
        go_ret
        exact ⟨rfl, BW.out⟩
      | true =>
        cases gi with
        | false =>
          obtain rfl : R = false := by rw [← hR]; simp
          clear hR
          go_enter Try.func13, Try.ntmps13
          go_wp2_with fail
          refine (C1.out _).mono ?_
          rintro e w1 ⟨rfl, b1⟩
          have X1 := Lib.hid ((Has.new w _).below b1)
          have B1 := Lib.hid (bup (bnew w _) b1)
          clear b1 C1
          go_upto_region 2 with (fail)
          have Y := Lib.hid (Has.new w1 (.cells #[.bool true, .bool fx, .bool fn, .bool false, .bool false, .bool true, .bool false] 55))
          have X := Lib.hid (X1.out.alloc (.cells #[.bool true, .bool fx, .bool fn, .bool false, .bool false, .bool true, .bool false] 55))
          have BW := Lib.hid (bup B1.out (bnew w1 (.cells #[.bool true, .bool fx, .bool fn, .bool false, .bool false, .bool true, .bool false] 55)))
          generalize World.alloc w1 _ = wa at X Y BW ⊢
          clear X1 B1
          have x0 := X.out.cell 0 _ rfl
          have x1 := X.out.cell 1 _ rfl
          have x2 := X.out.cell 2 _ rfl
          have x3 := X.out.cell 3 _ rfl
          have x4 := X.out.cell 4 _ rfl
          have x5 := X.out.cell 5 _ rfl
          have x6 := X.out.cell 6 _ rfl
          have x7 := X.out.cell 7 _ rfl
          have x8 := X.out.cell 8 _ rfl
          have x9 := X.out.cell 9 _ rfl
          have x10 := X.out.cell 10 _ rfl
          have y0 := Y.out.cell 0 _ rfl
          have y1 := Y.out.cell 1 _ rfl
          have y2 := Y.out.cell 2 _ rfl
          have y3 := Y.out.cell 3 _ rfl
          have y4 := Y.out.cell 4 _ rfl
          have y5 := Y.out.cell 5 _ rfl
          have y6 := Y.out.cell 6 _ rfl
          go_wp2_with fail
          refine (C2.out _).mono ?_
          rintro e wb1 ⟨rfl, b1⟩
          clear x0 x1 x2 x3 x4 x5 x6 x7 x8 x9 x10 y0 y1 y2 y3 y4 y5 y6
          replace X := Lib.hid (X.out.below b1)
          replace Y := Lib.hid (Y.out.below b1)
          replace BW := Lib.hid (bup BW.out b1)
          clear b1
          have x0 := X.out.cell 0 _ rfl
          have x1 := X.out.cell 1 _ rfl
          have x2 := X.out.cell 2 _ rfl
          have x3 := X.out.cell 3 _ rfl
          have x4 := X.out.cell 4 _ rfl
          have x5 := X.out.cell 5 _ rfl
          have x6 := X.out.cell 6 _ rfl
          have x7 := X.out.cell 7 _ rfl
          have x8 := X.out.cell 8 _ rfl
          have x9 := X.out.cell 9 _ rfl
          have x10 := X.out.cell 10 _ rfl
          have y0 := Y.out.cell 0 _ rfl
          have y1 := Y.out.cell 1 _ rfl
          have y2 := Y.out.cell 2 _ rfl
          have y3 := Y.out.cell 3 _ rfl
          have y4 := Y.out.cell 4 _ rfl
          have y5 := Y.out.cell 5 _ rfl
          have y6 := Y.out.cell 6 _ rfl
          go_wp2_with fail
          refine (C3.out _).mono ?_
          rintro e wq ⟨rfl, rfl⟩
          go_wp2_with fail
          refine (C6.out _ (HS.out.below BW.out)).mono ?_
          rintro e wb3 ⟨rfl, b1⟩
          clear x0 x1 x2 x3 x4 x5 x6 x7 x8 x9 x10 y0 y1 y2 y3 y4 y5 y6
          replace X := Lib.hid (X.out.below b1)
          replace Y := Lib.hid (Y.out.below b1)
          replace BW := Lib.hid (bup BW.out b1)
          clear b1
          have x0 := X.out.cell 0 _ rfl
          have x1 := X.out.cell 1 _ rfl
          have x2 := X.out.cell 2 _ rfl
          have x3 := X.out.cell 3 _ rfl
          have x4 := X.out.cell 4 _ rfl
          have x5 := X.out.cell 5 _ rfl
          have x6 := X.out.cell 6 _ rfl
          have x7 := X.out.cell 7 _ rfl
          have x8 := X.out.cell 8 _ rfl
          have x9 := X.out.cell 9 _ rfl
          have x10 := X.out.cell 10 _ rfl
          have y0 := Y.out.cell 0 _ rfl
          have y1 := Y.out.cell 1 _ rfl
          have y2 := Y.out.cell 2 _ rfl
          have y3 := Y.out.cell 3 _ rfl
          have y4 := Y.out.cell 4 _ rfl
          have y5 := Y.out.cell 5 _ rfl
          have y6 := Y.out.cell 6 _ rfl
          go_wp2_with fail
          go_ret
          exact ⟨rfl, BW.out⟩
        | true =>
          obtain rfl : R = !bad := by rw [← hR]; simp
          clear hR
          go_enter Try.func13, Try.ntmps13
          go_wp2_with fail
          refine (C1.out _).mono ?_
          rintro e w1 ⟨rfl, b1⟩
          have X1 := Lib.hid ((Has.new w _).below b1)
          have B1 := Lib.hid (bup (bnew w _) b1)
          clear b1 C1
          go_upto_region 2 with (fail)
          have Y := Lib.hid (Has.new w1 (.cells #[.bool true, .bool fx, .bool fn, .bool false, .bool false, .bool true, .bool false] 55))
          have X := Lib.hid (X1.out.alloc (.cells #[.bool true, .bool fx, .bool fn, .bool false, .bool false, .bool true, .bool false] 55))
          have BW := Lib.hid (bup B1.out (bnew w1 (.cells #[.bool true, .bool fx, .bool fn, .bool false, .bool false, .bool true, .bool false] 55)))
          generalize World.alloc w1 _ = wa at X Y BW ⊢
          clear X1 B1
          have x0 := X.out.cell 0 _ rfl
          have x1 := X.out.cell 1 _ rfl
          have x2 := X.out.cell 2 _ rfl
          have x3 := X.out.cell 3 _ rfl
          have x4 := X.out.cell 4 _ rfl
          have x5 := X.out.cell 5 _ rfl
          have x6 := X.out.cell 6 _ rfl
          have x7 := X.out.cell 7 _ rfl
          have x8 := X.out.cell 8 _ rfl
          have x9 := X.out.cell 9 _ rfl
          have x10 := X.out.cell 10 _ rfl
          have y0 := Y.out.cell 0 _ rfl
          have y1 := Y.out.cell 1 _ rfl
          have y2 := Y.out.cell 2 _ rfl
          have y3 := Y.out.cell 3 _ rfl
          have y4 := Y.out.cell 4 _ rfl
          have y5 := Y.out.cell 5 _ rfl
          have y6 := Y.out.cell 6 _ rfl
          go_wp2_with fail
          refine (C2.out _).mono ?_
          rintro e wb1 ⟨rfl, b1⟩
          clear x0 x1 x2 x3 x4 x5 x6 x7 x8 x9 x10 y0 y1 y2 y3 y4 y5 y6
          replace X := Lib.hid (X.out.below b1)
          replace Y := Lib.hid (Y.out.below b1)
          replace BW := Lib.hid (bup BW.out b1)
          clear b1
          have x0 := X.out.cell 0 _ rfl
          have x1 := X.out.cell 1 _ rfl
          have x2 := X.out.cell 2 _ rfl
          have x3 := X.out.cell 3 _ rfl
          have x4 := X.out.cell 4 _ rfl
          have x5 := X.out.cell 5 _ rfl
          have x6 := X.out.cell 6 _ rfl
          have x7 := X.out.cell 7 _ rfl
          have x8 := X.out.cell 8 _ rfl
          have x9 := X.out.cell 9 _ rfl
          have x10 := X.out.cell 10 _ rfl
          have y0 := Y.out.cell 0 _ rfl
          have y1 := Y.out.cell 1 _ rfl
          have y2 := Y.out.cell 2 _ rfl
          have y3 := Y.out.cell 3 _ rfl
          have y4 := Y.out.cell 4 _ rfl
          have y5 := Y.out.cell 5 _ rfl
          have y6 := Y.out.cell 6 _ rfl
          go_wp2_with fail
          refine (C3.out _).mono ?_
          rintro e wq ⟨rfl, rfl⟩
          go_wp2_with fail
          refine (C6.out _ (HS.out.below BW.out)).mono ?_
          rintro e wb3 ⟨rfl, b1⟩
          clear x0 x1 x2 x3 x4 x5 x6 x7 x8 x9 x10 y0 y1 y2 y3 y4 y5 y6
          replace X := Lib.hid (X.out.below b1)
          replace Y := Lib.hid (Y.out.below b1)
          replace BW := Lib.hid (bup BW.out b1)
          clear b1
          have x0 := X.out.cell 0 _ rfl
          have x1 := X.out.cell 1 _ rfl
          have x2 := X.out.cell 2 _ rfl
          have x3 := X.out.cell 3 _ rfl
          have x4 := X.out.cell 4 _ rfl
          have x5 := X.out.cell 5 _ rfl
          have x6 := X.out.cell 6 _ rfl
          have x7 := X.out.cell 7 _ rfl
          have x8 := X.out.cell 8 _ rfl
          have x9 := X.out.cell 9 _ rfl
          have x10 := X.out.cell 10 _ rfl
          have y0 := Y.out.cell 0 _ rfl
          have y1 := Y.out.cell 1 _ rfl
          have y2 := Y.out.cell 2 _ rfl
          have y3 := Y.out.cell 3 _ rfl
          have y4 := Y.out.cell 4 _ rfl
          have y5 := Y.out.cell 5 _ rfl
          have y6 := Y.out.cell 6 _ rfl
          go_wp2_with fail
          refine (C8.out _ (HE.out.below BW.out)).mono ?_
          rintro e wb4 ⟨rfl, b1⟩
          clear x0 x1 x2 x3 x4 x5 x6 x7 x8 x9 x10 y0 y1 y2 y3 y4 y5 y6
          replace X := Lib.hid (X.out.below b1)
          replace Y := Lib.hid (Y.out.below b1)
          replace BW := Lib.hid (bup BW.out b1)
          clear b1
          have x0 := X.out.cell 0 _ rfl
          have x1 := X.out.cell 1 _ rfl
          have x2 := X.out.cell 2 _ rfl
          have x3 := X.out.cell 3 _ rfl
          have x4 := X.out.cell 4 _ rfl
          have x5 := X.out.cell 5 _ rfl
          have x6 := X.out.cell 6 _ rfl
          have x7 := X.out.cell 7 _ rfl
          have x8 := X.out.cell 8 _ rfl
          have x9 := X.out.cell 9 _ rfl
          have x10 := X.out.cell 10 _ rfl
          have y0 := Y.out.cell 0 _ rfl
          have y1 := Y.out.cell 1 _ rfl
          have y2 := Y.out.cell 2 _ rfl
          have y3 := Y.out.cell 3 _ rfl
          have y4 := Y.out.cell 4 _ rfl
          have y5 := Y.out.cell 5 _ rfl
          have y6 := Y.out.cell 6 _ rfl
          go_wp2_with fail
          go_ret
          exact ⟨rfl, BW.out⟩
  · as_aux_lemma =>
      cases kn with
      | false =>
        obtain rfl : R = false := by rw [← hR]; simp
        clear hR
        go_enter Try.func13, Try.ntmps13
        go_wp2_with fail
        refine (C1.out _).mono ?_
        rintro e w1 ⟨rfl, b1⟩
        have X1 := Lib.hid ((Has.new w _).below b1)
        have B1 := Lib.hid (bup (bnew w _) b1)
        clear b1 C1
        go_upto_region 2 with (fail)
        have Y := Lib.hid (Has.new w1 (.cells #[.bool false, .bool fx, .bool fn, .bool true, .bool false, .bool false, .bool false] 55))
        have X := Lib.hid (X1.out.alloc (.cells #[.bool false, .bool fx, .bool fn, .bool true, .bool false, .bool false, .bool false] 55))
        have BW := Lib.hid (bup B1.out (bnew w1 (.cells #[.bool false, .bool fx, .bool fn, .bool true, .bool false, .bool false, .bool false] 55)))
        generalize World.alloc w1 _ = wa at X Y BW ⊢
        clear X1 B1
        have x0 := X.out.cell 0 _ rfl
        have x1 := X.out.cell 1 _ rfl
        have x2 := X.out.cell 2 _ rfl
        have x3 := X.out.cell 3 _ rfl
        have x4 := X.out.cell 4 _ rfl
        have x5 := X.out.cell 5 _ rfl
        have x6 := X.out.cell 6 _ rfl
        have x7 := X.out.cell 7 _ rfl
        have x8 := X.out.cell 8 _ rfl
        have x9 := X.out.cell 9 _ rfl
        have x10 := X.out.cell 10 _ rfl
        have y0 := Y.out.cell 0 _ rfl
        have y1 := Y.out.cell 1 _ rfl
        have y2 := Y.out.cell 2 _ rfl
        have y3 := Y.out.cell 3 _ rfl
        have y4 := Y.out.cell 4 _ rfl
        have y5 := Y.out.cell 5 _ rfl
        have y6 := Y.out.cell 6 _ rfl
        go_wp2_with fail
        refine (C2.out _).mono ?_
        rintro e wb1 ⟨rfl, b1⟩
        clear x0 x1 x2 x3 x4 x5 x6 x7 x8 x9 x10 y0 y1 y2 y3 y4 y5 y6
        replace X := Lib.hid (X.out.below b1)
        replace Y := Lib.hid (Y.out.below b1)
        replace BW := Lib.hid (bup BW.out b1)
        clear b1
        have x0 := X.out.cell 0 _ rfl
        have x1 := X.out.cell 1 _ rfl
        have x2 := X.out.cell 2 _ rfl
        have x3 := X.out.cell 3 _ rfl
        have x4 := X.out.cell 4 _ rfl
        have x5 := X.out.cell 5 _ rfl
        have x6 := X.out.cell 6 _ rfl
        have x7 := X.out.cell 7 _ rfl
        have x8 := X.out.cell 8 _ rfl
        have x9 := X.out.cell 9 _ rfl
        have x10 := X.out.cell 10 _ rfl
        have y0 := Y.out.cell 0 _ rfl
        have y1 := Y.out.cell 1 _ rfl
        have y2 := Y.out.cell 2 _ rfl
        have y3 := Y.out.cell 3 _ rfl
        have y4 := Y.out.cell 4 _ rfl
        have y5 := Y.out.cell 5 _ rfl
        have y6 := Y.out.cell 6 _ rfl
        go_wp2_with fail
        refine (C4.out _).mono ?_
        rintro e wb2 ⟨rfl, b1⟩
        clear x0 x1 x2 x3 x4 x5 x6 x7 x8 x9 x10 y0 y1 y2 y3 y4 y5 y6
        replace X := Lib.hid (X.out.below b1)
        replace Y := Lib.hid (Y.out.below b1)
        replace BW := Lib.hid (bup BW.out b1)
        clear b1
        have x0 := X.out.cell 0 _ rfl
        have x1 := X.out.cell 1 _ rfl
        have x2 := X.out.cell 2 _ rfl
        have x3 := X.out.cell 3 _ rfl
        have x4 := X.out.cell 4 _ rfl
        have x5 := X.out.cell 5 _ rfl
        have x6 := X.out.cell 6 _ rfl
        have x7 := X.out.cell 7 _ rfl
        have x8 := X.out.cell 8 _ rfl
        have x9 := X.out.cell 9 _ rfl
        have x10 := X.out.cell 10 _ rfl
        have y0 := Y.out.cell 0 _ rfl
        have y1 := Y.out.cell 1 _ rfl
        have y2 := Y.out.cell 2 _ rfl
        have y3 := Y.out.cell 3 _ rfl
        have y4 := Y.out.cell 4 _ rfl
        have y5 := Y.out.cell 5 _ rfl
        have y6 := Y.out.cell 6 _ rfl
        go_wp2_with fail
        go_ret
        exact ⟨rfl, BW.out⟩
      | true =>
        obtain rfl : R = !bad := by rw [← hR]; simp
        clear hR
        go_enter Try.func13, Try.ntmps13
        go_wp2_with fail
        refine (C1.out _).mono ?_
        rintro e w1 ⟨rfl, b1⟩
        have X1 := Lib.hid ((Has.new w _).below b1)
        have B1 := Lib.hid (bup (bnew w _) b1)
        clear b1 C1
        go_upto_region 2 with (fail)
        have Y := Lib.hid (Has.new w1 (.cells #[.bool false, .bool fx, .bool fn, .bool true, .bool false, .bool false, .bool false] 55))
        have X := Lib.hid (X1.out.alloc (.cells #[.bool false, .bool fx, .bool fn, .bool true, .bool false, .bool false, .bool false] 55))
        have BW := Lib.hid (bup B1.out (bnew w1 (.cells #[.bool false, .bool fx, .bool fn, .bool true, .bool false, .bool false, .bool false] 55)))
        generalize World.alloc w1 _ = wa at X Y BW ⊢
        clear X1 B1
        have x0 := X.out.cell 0 _ rfl
        have x1 := X.out.cell 1 _ rfl
        have x2 := X.out.cell 2 _ rfl
        have x3 := X.out.cell 3 _ rfl
        have x4 := X.out.cell 4 _ rfl
        have x5 := X.out.cell 5 _ rfl
        have x6 := X.out.cell 6 _ rfl
        have x7 := X.out.cell 7 _ rfl
        have x8 := X.out.cell 8 _ rfl
        have x9 := X.out.cell 9 _ rfl
        have x10 := X.out.cell 10 _ rfl
        have y0 := Y.out.cell 0 _ rfl
        have y1 := Y.out.cell 1 _ rfl
        have y2 := Y.out.cell 2 _ rfl
        have y3 := Y.out.cell 3 _ rfl
        have y4 := Y.out.cell 4 _ rfl
        have y5 := Y.out.cell 5 _ rfl
        have y6 := Y.out.cell 6 _ rfl
        go_wp2_with fail
        refine (C2.out _).mono ?_
        rintro e wb1 ⟨rfl, b1⟩
        clear x0 x1 x2 x3 x4 x5 x6 x7 x8 x9 x10 y0 y1 y2 y3 y4 y5 y6
        replace X := Lib.hid (X.out.below b1)
        replace Y := Lib.hid (Y.out.below b1)
        replace BW := Lib.hid (bup BW.out b1)
        clear b1
        have x0 := X.out.cell 0 _ rfl
        have x1 := X.out.cell 1 _ rfl
        have x2 := X.out.cell 2 _ rfl
        have x3 := X.out.cell 3 _ rfl
        have x4 := X.out.cell 4 _ rfl
        have x5 := X.out.cell 5 _ rfl
        have x6 := X.out.cell 6 _ rfl
        have x7 := X.out.cell 7 _ rfl
        have x8 := X.out.cell 8 _ rfl
        have x9 := X.out.cell 9 _ rfl
        have x10 := X.out.cell 10 _ rfl
        have y0 := Y.out.cell 0 _ rfl
        have y1 := Y.out.cell 1 _ rfl
        have y2 := Y.out.cell 2 _ rfl
        have y3 := Y.out.cell 3 _ rfl
        have y4 := Y.out.cell 4 _ rfl
        have y5 := Y.out.cell 5 _ rfl
        have y6 := Y.out.cell 6 _ rfl
        go_wp2_with fail
        refine (C4.out _).mono ?_
        rintro e wb2 ⟨rfl, b1⟩
        clear x0 x1 x2 x3 x4 x5 x6 x7 x8 x9 x10 y0 y1 y2 y3 y4 y5 y6
        replace X := Lib.hid (X.out.below b1)
        replace Y := Lib.hid (Y.out.below b1)
        replace BW := Lib.hid (bup BW.out b1)
        clear b1
        have x0 := X.out.cell 0 _ rfl
        have x1 := X.out.cell 1 _ rfl
        have x2 := X.out.cell 2 _ rfl
        have x3 := X.out.cell 3 _ rfl
        have x4 := X.out.cell 4 _ rfl
        have x5 := X.out.cell 5 _ rfl
        have x6 := X.out.cell 6 _ rfl
        have x7 := X.out.cell 7 _ rfl
        have x8 := X.out.cell 8 _ rfl
        have x9 := X.out.cell 9 _ rfl
        have x10 := X.out.cell 10 _ rfl
        have y0 := Y.out.cell 0 _ rfl
        have y1 := Y.out.cell 1 _ rfl
        have y2 := Y.out.cell 2 _ rfl
        have y3 := Y.out.cell 3 _ rfl
        have y4 := Y.out.cell 4 _ rfl
        have y5 := Y.out.cell 5 _ rfl
        have y6 := Y.out.cell 6 _ rfl
        go_wp2_with fail
        refine (C8.out _ (HE.out.below BW.out)).mono ?_
        rintro e wb3 ⟨rfl, b1⟩
        clear x0 x1 x2 x3 x4 x5 x6 x7 x8 x9 x10 y0 y1 y2 y3 y4 y5 y6
        replace X := Lib.hid (X.out.below b1)
        replace Y := Lib.hid (Y.out.below b1)
        replace BW := Lib.hid (bup BW.out b1)
        clear b1
        have x0 := X.out.cell 0 _ rfl
        have x1 := X.out.cell 1 _ rfl
        have x2 := X.out.cell 2 _ rfl
        have x3 := X.out.cell 3 _ rfl
        have x4 := X.out.cell 4 _ rfl
        have x5 := X.out.cell 5 _ rfl
        have x6 := X.out.cell 6 _ rfl
        have x7 := X.out.cell 7 _ rfl
        have x8 := X.out.cell 8 _ rfl
        have x9 := X.out.cell 9 _ rfl
        have x10 := X.out.cell 10 _ rfl
        have y0 := Y.out.cell 0 _ rfl
        have y1 := Y.out.cell 1 _ rfl
        have y2 := Y.out.cell 2 _ rfl
        have y3 := Y.out.cell 3 _ rfl
        have y4 := Y.out.cell 4 _ rfl
        have y5 := Y.out.cell 5 _ rfl
        have y6 := Y.out.cell 6 _ rfl
        go_wp2_with fail
        go_ret
        exact ⟨rfl, BW.out⟩
  · as_aux_lemma =>
      cases wn with
      | false =>
        obtain rfl : R = false := by rw [← hR]; simp
        clear hR
        go_enter Try.func13, Try.ntmps13
        go_wp2_with fail
        refine (C1.out _).mono ?_
        rintro e w1 ⟨rfl, b1⟩
        have X1 := Lib.hid ((Has.new w _).below b1)
        have B1 := Lib.hid (bup (bnew w _) b1)
        clear b1 C1
        go_upto_region 2 with (fail)
        have Y := Lib.hid (Has.new w1 (.cells #[.bool false, .bool fx, .bool fn, .bool false, .bool true, .bool false, .bool false] 55))
        have X := Lib.hid (X1.out.alloc (.cells #[.bool false, .bool fx, .bool fn, .bool false, .bool true, .bool false, .bool false] 55))
        have BW := Lib.hid (bup B1.out (bnew w1 (.cells #[.bool false, .bool fx, .bool fn, .bool false, .bool true, .bool false, .bool false] 55)))
        generalize World.alloc w1 _ = wa at X Y BW ⊢
        clear X1 B1
        have x0 := X.out.cell 0 _ rfl
        have x1 := X.out.cell 1 _ rfl
        have x2 := X.out.cell 2 _ rfl
        have x3 := X.out.cell 3 _ rfl
        have x4 := X.out.cell 4 _ rfl
        have x5 := X.out.cell 5 _ rfl
        have x6 := X.out.cell 6 _ rfl
        have x7 := X.out.cell 7 _ rfl
        have x8 := X.out.cell 8 _ rfl
        have x9 := X.out.cell 9 _ rfl
        have x10 := X.out.cell 10 _ rfl
        have y0 := Y.out.cell 0 _ rfl
        have y1 := Y.out.cell 1 _ rfl
        have y2 := Y.out.cell 2 _ rfl
        have y3 := Y.out.cell 3 _ rfl
        have y4 := Y.out.cell 4 _ rfl
        have y5 := Y.out.cell 5 _ rfl
        have y6 := Y.out.cell 6 _ rfl
        go_wp2_with fail
        refine (C2.out _).mono ?_
        rintro e wb1 ⟨rfl, b1⟩
        clear x0 x1 x2 x3 x4 x5 x6 x7 x8 x9 x10 y0 y1 y2 y3 y4 y5 y6
        replace X := Lib.hid (X.out.below b1)
        replace Y := Lib.hid (Y.out.below b1)
        replace BW := Lib.hid (bup BW.out b1)
        clear b1
        have x0 := X.out.cell 0 _ rfl
        have x1 := X.out.cell 1 _ rfl
        have x2 := X.out.cell 2 _ rfl
        have x3 := X.out.cell 3 _ rfl
        have x4 := X.out.cell 4 _ rfl
        have x5 := X.out.cell 5 _ rfl
        have x6 := X.out.cell 6 _ rfl
        have x7 := X.out.cell 7 _ rfl
        have x8 := X.out.cell 8 _ rfl
        have x9 := X.out.cell 9 _ rfl
        have x10 := X.out.cell 10 _ rfl
        have y0 := Y.out.cell 0 _ rfl
        have y1 := Y.out.cell 1 _ rfl
        have y2 := Y.out.cell 2 _ rfl
        have y3 := Y.out.cell 3 _ rfl
        have y4 := Y.out.cell 4 _ rfl
        have y5 := Y.out.cell 5 _ rfl
        have y6 := Y.out.cell 6 _ rfl
        go_wp2_with fail
        refine (C5.out _).mono ?_
        rintro e wq ⟨rfl, rfl⟩
        go_wp2_with fail
        go_ret
        exact ⟨rfl, BW.out⟩
      | true =>
        obtain rfl : R = !bad := by rw [← hR]; simp
        clear hR
        go_enter Try.func13, Try.ntmps13
        go_wp2_with fail
        refine (C1.out _).mono ?_
        rintro e w1 ⟨rfl, b1⟩
        have X1 := Lib.hid ((Has.new w _).below b1)
        have B1 := Lib.hid (bup (bnew w _) b1)
        clear b1 C1
        go_upto_region 2 with (fail)
        have Y := Lib.hid (Has.new w1 (.cells #[.bool false, .bool fx, .bool fn, .bool false, .bool true, .bool false, .bool false] 55))
        have X := Lib.hid (X1.out.alloc (.cells #[.bool false, .bool fx, .bool fn, .bool false, .bool true, .bool false, .bool false] 55))
        have BW := Lib.hid (bup B1.out (bnew w1 (.cells #[.bool false, .bool fx, .bool fn, .bool false, .bool true, .bool false, .bool false] 55)))
        generalize World.alloc w1 _ = wa at X Y BW ⊢
        clear X1 B1
        have x0 := X.out.cell 0 _ rfl
        have x1 := X.out.cell 1 _ rfl
        have x2 := X.out.cell 2 _ rfl
        have x3 := X.out.cell 3 _ rfl
        have x4 := X.out.cell 4 _ rfl
        have x5 := X.out.cell 5 _ rfl
        have x6 := X.out.cell 6 _ rfl
        have x7 := X.out.cell 7 _ rfl
        have x8 := X.out.cell 8 _ rfl
        have x9 := X.out.cell 9 _ rfl
        have x10 := X.out.cell 10 _ rfl
        have y0 := Y.out.cell 0 _ rfl
        have y1 := Y.out.cell 1 _ rfl
        have y2 := Y.out.cell 2 _ rfl
        have y3 := Y.out.cell 3 _ rfl
        have y4 := Y.out.cell 4 _ rfl
        have y5 := Y.out.cell 5 _ rfl
        have y6 := Y.out.cell 6 _ rfl
        go_wp2_with fail
        refine (C2.out _).mono ?_
        rintro e wb1 ⟨rfl, b1⟩
        clear x0 x1 x2 x3 x4 x5 x6 x7 x8 x9 x10 y0 y1 y2 y3 y4 y5 y6
        replace X := Lib.hid (X.out.below b1)
        replace Y := Lib.hid (Y.out.below b1)
        replace BW := Lib.hid (bup BW.out b1)
        clear b1
        have x0 := X.out.cell 0 _ rfl
        have x1 := X.out.cell 1 _ rfl
        have x2 := X.out.cell 2 _ rfl
        have x3 := X.out.cell 3 _ rfl
        have x4 := X.out.cell 4 _ rfl
        have x5 := X.out.cell 5 _ rfl
        have x6 := X.out.cell 6 _ rfl
        have x7 := X.out.cell 7 _ rfl
        have x8 := X.out.cell 8 _ rfl
        have x9 := X.out.cell 9 _ rfl
        have x10 := X.out.cell 10 _ rfl
        have y0 := Y.out.cell 0 _ rfl
        have y1 := Y.out.cell 1 _ rfl
        have y2 := Y.out.cell 2 _ rfl
        have y3 := Y.out.cell 3 _ rfl
        have y4 := Y.out.cell 4 _ rfl
        have y5 := Y.out.cell 5 _ rfl
        have y6 := Y.out.cell 6 _ rfl
        go_wp2_with fail
        refine (C5.out _).mono ?_
        rintro e wq ⟨rfl, rfl⟩
        go_wp2_with fail
        refine (C8.out _ (HE.out.below BW.out)).mono ?_
        rintro e wb3 ⟨rfl, b1⟩
        clear x0 x1 x2 x3 x4 x5 x6 x7 x8 x9 x10 y0 y1 y2 y3 y4 y5 y6
        replace X := Lib.hid (X.out.below b1)
        replace Y := Lib.hid (Y.out.below b1)
        replace BW := Lib.hid (bup BW.out b1)
        clear b1
        have x0 := X.out.cell 0 _ rfl
        have x1 := X.out.cell 1 _ rfl
        have x2 := X.out.cell 2 _ rfl
        have x3 := X.out.cell 3 _ rfl
        have x4 := X.out.cell 4 _ rfl
        have x5 := X.out.cell 5 _ rfl
        have x6 := X.out.cell 6 _ rfl
        have x7 := X.out.cell 7 _ rfl
        have x8 := X.out.cell 8 _ rfl
        have x9 := X.out.cell 9 _ rfl
        have x10 := X.out.cell 10 _ rfl
        have y0 := Y.out.cell 0 _ rfl
        have y1 := Y.out.cell 1 _ rfl
        have y2 := Y.out.cell 2 _ rfl
        have y3 := Y.out.cell 3 _ rfl
        have y4 := Y.out.cell 4 _ rfl
        have y5 := Y.out.cell 5 _ rfl
        have y6 := Y.out.cell 6 _ rfl
        go_wp2_with fail
        go_ret
        exact ⟨rfl, BW.out⟩
  · as_aux_lemma =>
      cases we with
      | false =>
        obtain rfl : R = false := by rw [← hR]; simp
        clear hR
        go_enter Try.func13, Try.ntmps13
        go_wp2_with fail
        refine (C1.out _).mono ?_
        rintro e w1 ⟨rfl, b1⟩
        have X1 := Lib.hid ((Has.new w _).below b1)
        have B1 := Lib.hid (bup (bnew w _) b1)
        clear b1 C1
        go_upto_region 2 with (fail)
        have Y := Lib.hid (Has.new w1 (.cells #[.bool false, .bool fx, .bool fn, .bool false, .bool false, .bool false, .bool true] 55))
        have X := Lib.hid (X1.out.alloc (.cells #[.bool false, .bool fx, .bool fn, .bool false, .bool false, .bool false, .bool true] 55))
        have BW := Lib.hid (bup B1.out (bnew w1 (.cells #[.bool false, .bool fx, .bool fn, .bool false, .bool false, .bool false, .bool true] 55)))
        generalize World.alloc w1 _ = wa at X Y BW ⊢
        clear X1 B1
        have x0 := X.out.cell 0 _ rfl
        have x1 := X.out.cell 1 _ rfl
        have x2 := X.out.cell 2 _ rfl
        have x3 := X.out.cell 3 _ rfl
        have x4 := X.out.cell 4 _ rfl
        have x5 := X.out.cell 5 _ rfl
        have x6 := X.out.cell 6 _ rfl
        have x7 := X.out.cell 7 _ rfl
        have x8 := X.out.cell 8 _ rfl
        have x9 := X.out.cell 9 _ rfl
        have x10 := X.out.cell 10 _ rfl
        have y0 := Y.out.cell 0 _ rfl
        have y1 := Y.out.cell 1 _ rfl
        have y2 := Y.out.cell 2 _ rfl
        have y3 := Y.out.cell 3 _ rfl
        have y4 := Y.out.cell 4 _ rfl
        have y5 := Y.out.cell 5 _ rfl
        have y6 := Y.out.cell 6 _ rfl
        go_wp2_with fail
        refine (C2.out _).mono ?_
        rintro e wb1 ⟨rfl, b1⟩
        clear x0 x1 x2 x3 x4 x5 x6 x7 x8 x9 x10 y0 y1 y2 y3 y4 y5 y6
        replace X := Lib.hid (X.out.below b1)
        replace Y := Lib.hid (Y.out.below b1)
        replace BW := Lib.hid (bup BW.out b1)
        clear b1
        have x0 := X.out.cell 0 _ rfl
        have x1 := X.out.cell 1 _ rfl
        have x2 := X.out.cell 2 _ rfl
        have x3 := X.out.cell 3 _ rfl
        have x4 := X.out.cell 4 _ rfl
        have x5 := X.out.cell 5 _ rfl
        have x6 := X.out.cell 6 _ rfl
        have x7 := X.out.cell 7 _ rfl
        have x8 := X.out.cell 8 _ rfl
        have x9 := X.out.cell 9 _ rfl
        have x10 := X.out.cell 10 _ rfl
        have y0 := Y.out.cell 0 _ rfl
        have y1 := Y.out.cell 1 _ rfl
        have y2 := Y.out.cell 2 _ rfl
        have y3 := Y.out.cell 3 _ rfl
        have y4 := Y.out.cell 4 _ rfl
        have y5 := Y.out.cell 5 _ rfl
        have y6 := Y.out.cell 6 _ rfl
        go_wp2_with fail
        refine (C7.out _).mono ?_
        rintro e wq ⟨rfl, rfl⟩
        go_wp2_with fail
        go_ret
        exact ⟨rfl, BW.out⟩
      | true =>
        obtain rfl : R = !bad := by rw [← hR]; simp
        clear hR
        go_enter Try.func13, Try.ntmps13
        go_wp2_with fail
        refine (C1.out _).mono ?_
        rintro e w1 ⟨rfl, b1⟩
        have X1 := Lib.hid ((Has.new w _).below b1)
        have B1 := Lib.hid (bup (bnew w _) b1)
        clear b1 C1
        go_upto_region 2 with (fail)
        have Y := Lib.hid (Has.new w1 (.cells #[.bool false, .bool fx, .bool fn, .bool false, .bool false, .bool false, .bool true] 55))
        have X := Lib.hid (X1.out.alloc (.cells #[.bool false, .bool fx, .bool fn, .bool false, .bool false, .bool false, .bool true] 55))
        have BW := Lib.hid (bup B1.out (bnew w1 (.cells #[.bool false, .bool fx, .bool fn, .bool false, .bool false, .bool false, .bool true] 55)))
        generalize World.alloc w1 _ = wa at X Y BW ⊢
        clear X1 B1
        have x0 := X.out.cell 0 _ rfl
        have x1 := X.out.cell 1 _ rfl
        have x2 := X.out.cell 2 _ rfl
        have x3 := X.out.cell 3 _ rfl
        have x4 := X.out.cell 4 _ rfl
        have x5 := X.out.cell 5 _ rfl
        have x6 := X.out.cell 6 _ rfl
        have x7 := X.out.cell 7 _ rfl
        have x8 := X.out.cell 8 _ rfl
        have x9 := X.out.cell 9 _ rfl
        have x10 := X.out.cell 10 _ rfl
        have y0 := Y.out.cell 0 _ rfl
        have y1 := Y.out.cell 1 _ rfl
        have y2 := Y.out.cell 2 _ rfl
        have y3 := Y.out.cell 3 _ rfl
        have y4 := Y.out.cell 4 _ rfl
        have y5 := Y.out.cell 5 _ rfl
        have y6 := Y.out.cell 6 _ rfl
        go_wp2_with fail
        refine (C2.out _).mono ?_
        rintro e wb1 ⟨rfl, b1⟩
        clear x0 x1 x2 x3 x4 x5 x6 x7 x8 x9 x10 y0 y1 y2 y3 y4 y5 y6
        replace X := Lib.hid (X.out.below b1)
        replace Y := Lib.hid (Y.out.below b1)
        replace BW := Lib.hid (bup BW.out b1)
        clear b1
        have x0 := X.out.cell 0 _ rfl
        have x1 := X.out.cell 1 _ rfl
        have x2 := X.out.cell 2 _ rfl
        have x3 := X.out.cell 3 _ rfl
        have x4 := X.out.cell 4 _ rfl
        have x5 := X.out.cell 5 _ rfl
        have x6 := X.out.cell 6 _ rfl
        have x7 := X.out.cell 7 _ rfl
        have x8 := X.out.cell 8 _ rfl
        have x9 := X.out.cell 9 _ rfl
        have x10 := X.out.cell 10 _ rfl
        have y0 := Y.out.cell 0 _ rfl
        have y1 := Y.out.cell 1 _ rfl
        have y2 := Y.out.cell 2 _ rfl
        have y3 := Y.out.cell 3 _ rfl
        have y4 := Y.out.cell 4 _ rfl
        have y5 := Y.out.cell 5 _ rfl
        have y6 := Y.out.cell 6 _ rfl
        go_wp2_with fail
        refine (C7.out _).mono ?_
        rintro e wq ⟨rfl, rfl⟩
        go_wp2_with fail
        refine (C8.out _ (HE.out.below BW.out)).mono ?_
        rintro e wb3 ⟨rfl, b1⟩
        clear x0 x1 x2 x3 x4 x5 x6 x7 x8 x9 x10 y0 y1 y2 y3 y4 y5 y6
        replace X := Lib.hid (X.out.below b1)
        replace Y := Lib.hid (Y.out.below b1)
        replace BW := Lib.hid (bup BW.out b1)
        clear b1
        have x0 := X.out.cell 0 _ rfl
        have x1 := X.out.cell 1 _ rfl
        have x2 := X.out.cell 2 _ rfl
        have x3 := X.out.cell 3 _ rfl
        have x4 := X.out.cell 4 _ rfl
        have x5 := X.out.cell 5 _ rfl
        have x6 := X.out.cell 6 _ rfl
        have x7 := X.out.cell 7 _ rfl
        have x8 := X.out.cell 8 _ rfl
        have x9 := X.out.cell 9 _ rfl
        have x10 := X.out.cell 10 _ rfl
        have y0 := Y.out.cell 0 _ rfl
        have y1 := Y.out.cell 1 _ rfl
        have y2 := Y.out.cell 2 _ rfl
        have y3 := Y.out.cell 3 _ rfl
        have y4 := Y.out.cell 4 _ rfl
        have y5 := Y.out.cell 5 _ rfl
        have y6 := Y.out.cell 6 _ rfl
        go_wp2_with fail
        go_ret
        exact ⟨rfl, BW.out⟩
  · as_aux_lemma =>
      obtain rfl : R = !bad := by rw [← hR]; simp
      clear hR
      go_enter Try.func13, Try.ntmps13
      go_wp2_with fail
      refine (C1.out _).mono ?_
      rintro e w1 ⟨rfl, b1⟩
      have X1 := Lib.hid ((Has.new w _).below b1)
      have B1 := Lib.hid (bup (bnew w _) b1)
      clear b1 C1
      go_upto_region 2 with (fail)
      have Y := Lib.hid (Has.new w1 (.cells #[.bool false, .bool fx, .bool fn, .bool false, .bool false, .bool false, .bool false] 55))
      have X := Lib.hid (X1.out.alloc (.cells #[.bool false, .bool fx, .bool fn, .bool false, .bool false, .bool false, .bool false] 55))
      have BW := Lib.hid (bup B1.out (bnew w1 (.cells #[.bool false, .bool fx, .bool fn, .bool false, .bool false, .bool false, .bool false] 55)))
      generalize World.alloc w1 _ = wa at X Y BW ⊢
      clear X1 B1
      have x0 := X.out.cell 0 _ rfl
      have x1 := X.out.cell 1 _ rfl
      have x2 := X.out.cell 2 _ rfl
      have x3 := X.out.cell 3 _ rfl
      have x4 := X.out.cell 4 _ rfl
      have x5 := X.out.cell 5 _ rfl
      have x6 := X.out.cell 6 _ rfl
      have x7 := X.out.cell 7 _ rfl
      have x8 := X.out.cell 8 _ rfl
      have x9 := X.out.cell 9 _ rfl
      have x10 := X.out.cell 10 _ rfl
      have y0 := Y.out.cell 0 _ rfl
      have y1 := Y.out.cell 1 _ rfl
      have y2 := Y.out.cell 2 _ rfl
      have y3 := Y.out.cell 3 _ rfl
      have y4 := Y.out.cell 4 _ rfl
      have y5 := Y.out.cell 5 _ rfl
      have y6 := Y.out.cell 6 _ rfl
      go_wp2_with fail
      refine (C2.out _).mono ?_
      rintro e wb1 ⟨rfl, b1⟩
      clear x0 x1 x2 x3 x4 x5 x6 x7 x8 x9 x10 y0 y1 y2 y3 y4 y5 y6
      replace X := Lib.hid (X.out.below b1)
      replace Y := Lib.hid (Y.out.below b1)
      replace BW := Lib.hid (bup BW.out b1)
      clear b1
      have x0 := X.out.cell 0 _ rfl
      have x1 := X.out.cell 1 _ rfl
      have x2 := X.out.cell 2 _ rfl
      have x3 := X.out.cell 3 _ rfl
      have x4 := X.out.cell 4 _ rfl
      have x5 := X.out.cell 5 _ rfl
      have x6 := X.out.cell 6 _ rfl
      have x7 := X.out.cell 7 _ rfl
      have x8 := X.out.cell 8 _ rfl
      have x9 := X.out.cell 9 _ rfl
      have x10 := X.out.cell 10 _ rfl
      have y0 := Y.out.cell 0 _ rfl
      have y1 := Y.out.cell 1 _ rfl
      have y2 := Y.out.cell 2 _ rfl
      have y3 := Y.out.cell 3 _ rfl
      have y4 := Y.out.cell 4 _ rfl
      have y5 := Y.out.cell 5 _ rfl
      have y6 := Y.out.cell 6 _ rfl
      go_wp2_with fail
      refine (C8.out _ (HE.out.below BW.out)).mono ?_
      rintro e wb2 ⟨rfl, b1⟩
      clear x0 x1 x2 x3 x4 x5 x6 x7 x8 x9 x10 y0 y1 y2 y3 y4 y5 y6
      replace X := Lib.hid (X.out.below b1)
      replace Y := Lib.hid (Y.out.below b1)
      replace BW := Lib.hid (bup BW.out b1)
      clear b1
      have x0 := X.out.cell 0 _ rfl
      have x1 := X.out.cell 1 _ rfl
      have x2 := X.out.cell 2 _ rfl
      have x3 := X.out.cell 3 _ rfl
      have x4 := X.out.cell 4 _ rfl
      have x5 := X.out.cell 5 _ rfl
      have x6 := X.out.cell 6 _ rfl
      have x7 := X.out.cell 7 _ rfl
      have x8 := X.out.cell 8 _ rfl
      have x9 := X.out.cell 9 _ rfl
      have x10 := X.out.cell 10 _ rfl
      have y0 := Y.out.cell 0 _ rfl
      have y1 := Y.out.cell 1 _ rfl
      have y2 := Y.out.cell 2 _ rfl
      have y3 := Y.out.cell 3 _ rfl
      have y4 := Y.out.cell 4 _ rfl
      have y5 := Y.out.cell 5 _ rfl
      have y6 := Y.out.cell 6 _ rfl
      go_wp2_with fail
      go_ret
      exact ⟨rfl, BW.out⟩
theorem ngood_any (m : Ms) (A : Option Addr) (sn sc : Nat) (B : Option Addr) (en ec : Nat) (w : World) (hS : IsSlots w A sn sc m.sl) (hE : IsEnts w B en ec m.en) :
    Calls Try.prog 13 #[.agg (m.row A sn sc B en ec)] w fun r w' => r = .returned (.bool m.good) ∧ Below w.heap.size w w' := by
  refine ngood_core m.kind m.page m.x m.need m.n m.tc m.te m.tn m.lsn A sn sc B en ec m.sl m.en w hS hE m.good ?_
  unfold Ms.good
  rw [bareB_eq m sn en hS.len hE.len, any_bad]
  have e : decide (1 ≤ (en : Int) ∧ (en : Int) ≤ 16) = decide (1 ≤ m.en.length ∧ m.en.length ≤ 16) := by
    rw [hE.len]
    congr 1
    exact propext ⟨fun h => by omega, fun h => by omega⟩
  rw [e, Bool.not_not]
end Go.Proofs.Ytakdagmkkelnfaa
