/-
  The walk of a statement of layer 3: how images are written.
-/
import Derived.Test.YtklmoigpalhlmaaSlK
import Derived.Test.YtklmoigpalhlmaaSlJ
import Derived.Lib.QuietBelow
namespace Go.Proofs.Ytklmoigpalhlmaa
open Go.RowKit Go.Sort
set_option linter.unusedVariables false
set_option linter.unusedSimpArgs false

set_option maxRecDepth 100000 in
set_option maxHeartbeats 8000000 in
theorem SlabWrites_walk (lsn : Int) (A : Option Addr) (n c : Nat) (l : List Sl) (w : World) (I : IsSlots w A n c l) (_ : (Lit.int .i64 lsn).wf = true) :
    Calls Try.prog 3 #[.agg #[.int .i64 lsn, .slice A n c]] w fun e w' => e = .returned (.bool true) ∧ Below w.heap.size w w' := by
  have CA := Lib.hid (fun w => slabAwake_any w)
  have CR := Lib.hid (fun w h => great_any lsn A n c l w h)
  have C1 := Lib.hid (fun w h => penc_any lsn A n c l w h)
  have C2 := Lib.hid (fun w h => renc_any lsn A n c l w h)
  have C3 := Lib.hid (fun w h => pgood_any lsn A n c l w h)
  have C4 := Lib.hid (fun w h => rgood_any lsn A n c l w h)
  obtain ⟨S, hS⟩ : ∃ S, pgEnc lsn l = S := ⟨_, rfl⟩
  obtain ⟨G, hG⟩ : ∃ G, slGood lsn l = G := ⟨_, rfl⟩
  obtain ⟨g1, hg1⟩ : ∃ g, slGreat l = g := ⟨_, rfl⟩
  have hn100 : g1 = false → n ≤ 100 := by
    intro e; rw [e] at hg1; simp [slGreat] at hg1; have := I.len; omega
  rw [hS] at C1 C2
  rw [hG] at C3 C4
  rw [hg1] at CR
  obtain ⟨S1, S2⟩ := S
  simp only at C1 C2
  obtain ⟨T, hT⟩ : ∃ T, bs S1 = T := ⟨_, rfl⟩
  rw [hT] at C1 C2
  clear hT hS hG hg1
  have H := Lib.hid I
  clear I
  cases g1 with
  | true =>
    clear hn100
    go_enter Try.func3, Try.ntmps3
    go_wp2_with fail
    refine (CA.out _).mono ?_
    rintro e w0 ⟨rfl, b0⟩
    have P0 := (Has.new w _).below b0
    have p0 := P0.cell 0 _ rfl
    have p1 := P0.cell 1 _ rfl
    go_wp2_with fail
    refine (CR.out _ ((H.out.alloc _).below b0)).mono ?_
    rintro e w1 ⟨rfl, b1⟩
    go_wp2_with fail
    go_ret
    exact ⟨rfl, bup (bup (bnew w _) b0) b1⟩
  | false =>
    have hn := hn100 rfl
    clear hn100
    have C5 := Lib.hid (fun w h => psize_any lsn A n c l w h)
    have C6 := Lib.hid (fun w h => rsize_any lsn A n c l w h)
    obtain ⟨Z, hZ⟩ : ∃ Z, pgSize lsn l = Z := ⟨_, rfl⟩
    rw [hZ] at C5 C6
    clear hZ
    go_enter Try.func3, Try.ntmps3
    go_wp2_with fail
    refine (CA.out _).mono ?_
    rintro e w0 ⟨rfl, b0⟩
    have P0 := (Has.new w _).below b0
    have p0 := P0.cell 0 _ rfl
    have p1 := P0.cell 1 _ rfl
    have B0 := Lib.hid (bup (bnew w _) b0)
    have H0 := Lib.hid (H.out.below B0.out)
    replace P0 := Lib.hid P0
    clear b0
    go_wp2_with fail
    refine (CR.out _ H0.out).mono ?_
    rintro e w1 ⟨rfl, b1⟩
    have P1 := Lib.hid (P0.out.below b1)
    have H1 := Lib.hid (H0.out.below b1)
    have B1 := Lib.hid (bup B0.out b1)
    clear p0 p1 P0 H0 B0 b1
    have p0 := P1.out.cell 0 _ rfl
    have p1 := P1.out.cell 1 _ rfl
    go_wp2_with fail
    refine (C1.out _ H1.out).mono ?_
    rintro e w2 ⟨rfl, b2⟩
    have P2 := Lib.hid (P1.out.below b2)
    have H2 := Lib.hid (H1.out.below b2)
    have B2 := Lib.hid (bup B1.out b2)
    clear p0 p1 P1 H1 B1 b2
    have p0 := P2.out.cell 0 _ rfl
    have p1 := P2.out.cell 1 _ rfl
    go_wp2_with fail
    refine (C2.out _ H2.out).mono ?_
    rintro e w3 ⟨rfl, b3⟩
    have P3 := Lib.hid (P2.out.below b3)
    have H3 := Lib.hid (H2.out.below b3)
    have B3 := Lib.hid (bup B2.out b3)
    clear p0 p1 P2 H2 B2 b3
    go_upto_region 7 with (fail)
    have p0 := cell_regrown (P3.out.cell 0 _ rfl)
    have p1 := cell_regrown (P3.out.cell 1 _ rfl)
    have c3 := fun d os => Calls.regrown_of (C3.out (grow (redrawn w3 d) os) (H3.out.below (below_regrown _ _ _)))
    have c4 := fun d os => Calls.regrown_of (C4.out (grow (redrawn w3 d) os) (H3.out.below (below_regrown _ _ _)))
    have c5 := fun d os => Calls.regrown_of (C5.out (grow (redrawn w3 d) os) (H3.out.below (below_regrown _ _ _)))
    have c6 := fun d os => Calls.regrown_of (C6.out (grow (redrawn w3 d) os) (H3.out.below (below_regrown _ _ _)))
    refine wp_region_quiet_below (by kernel_rfl) (by kernel_rfl) ?_
    repeat (quiet_step (first | exact c3 _ _ | exact c4 _ _ | exact c5 _ _ | exact c6 _ _))
    refine wpQuiet_nil ?_
    intro _ hw7
    obtain ⟨⟨dq, osq⟩, hw8⟩ := hw7
    subst hw8
    go_wp2_with fail
    go_ret
    exact ⟨by simp, bup B3.out (below_regrown _ _ _)⟩
end Go.Proofs.Ytklmoigpalhlmaa
