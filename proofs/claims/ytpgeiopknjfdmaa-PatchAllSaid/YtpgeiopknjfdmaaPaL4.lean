/-
  The walk of a statement of layer 5: what every list leaves.
-/
import Derived.Test.YtpgeiopknjfdmaaPaI
import Derived.Test.YtpgeiopknjfdmaaPaL1
namespace Go.Proofs.Ytpgeiopknjfdmaa
open Go.RowKit Go.Sort
set_option linter.unusedVariables false
set_option linter.unusedSimpArgs false

set_option maxRecDepth 100000 in
set_option maxHeartbeats 8000000 in
theorem PatchAll_walk (lsn : Int) (A : Option Addr) (n c : Nat) (l : List Sl) (w : World) (I : IsSlots w A n c l) (_ : (Lit.int .i64 lsn).wf = true) (page : Int) (_ : (Lit.int .i64 page).wf = true) (A' : Option Addr) (m d : Nat) (L : List Ent) (J : IsEnts w A' m d L) :
    Calls Try.prog 4 #[.agg #[.int .i64 lsn, .slice A n c], .int .i64 page, .slice A' m d] w fun e w' => e = .returned (.bool true) ∧ Below w.heap.size w w' := by
  have CA := Lib.hid paAwake_any
  have CG := fun w h h2 => paGreat_any lsn A n c l A' m d L w h h2
  obtain ⟨G, hG⟩ : ∃ G, paGreat l L = G := ⟨_, rfl⟩
  rw [hG] at CG
  have C1 := fun w h h2 => all_any lsn A n c l page A' m d L w h h2
  have C2 := fun w h h2 => rall_any lsn A n c l page A' m d L w h h2
  obtain ⟨R, hR⟩ : ∃ R, allR lsn l page L = R := ⟨_, rfl⟩
  rw [hR] at C1 C2
  obtain ⟨r1, r2, r3⟩ := R
  have C5 := Lib.hid (fun A1 n1 c1 A2 n2 c2 w h1 h2 => psame_any r1 A1 n1 c1 r2 r1 A2 n2 c2 r2 w h1 h2)
  rw [(pgSame_iff r1 r1 r2 r2).2 ⟨rfl, rfl⟩] at C5
  clear hG hR
  replace CG := Lib.hid CG
  replace C1 := Lib.hid C1
  replace C2 := Lib.hid C2
  go_enter Try.func4, Try.ntmps4
  go_upto_region 1 with (fail)
  have P := Lib.hid (Has.new w (.cells #[.int .i64 lsn, .slice A n c] 24))
  have B : Hid (Below w.heap.size w (w.alloc (.cells #[.int .i64 lsn, .slice A n c] 24))) := Lib.hid (bnew w _)
  have I0 := Lib.hid (I.below B.out)
  have J0 := Lib.hid (J.below B.out)
  generalize hw0 : World.alloc w _ = w0
  rw [hw0] at P B I0 J0
  clear hw0 I J
  go_wp2_with fail
  refine (CA.out _).mono ?_
  rintro e1 w1 ⟨rfl, b1⟩
  replace P := Lib.hid (P.out.below b1)
  replace B := Lib.hid (bup B.out b1)
  replace I0 := Lib.hid (I0.out.below b1)
  replace J0 := Lib.hid (J0.out.below b1)
  clear b1
  have p0 := P.out.cell 0 _ rfl
  have p1 := P.out.cell 1 _ rfl
  go_wp2_with fail
  refine (CG.out _ I0.out J0.out).mono ?_
  rintro e2 w2 ⟨rfl, b2⟩
  clear p0 p1
  replace P := Lib.hid (P.out.below b2)
  replace B := Lib.hid (bup B.out b2)
  replace I0 := Lib.hid (I0.out.below b2)
  replace J0 := Lib.hid (J0.out.below b2)
  clear b2
  have p0 := P.out.cell 0 _ rfl
  have p1 := P.out.cell 1 _ rfl
  cases G with
  | true =>
    go_wp2_with fail
    go_ret
    exact ⟨rfl, B.out⟩
  | false =>
  go_wp2_with fail
  refine (C1.out _ I0.out J0.out).mono ?_
  rintro e3 w3 ⟨A4, n4, c4, rfl, K4, b3⟩
  clear p0 p1
  replace P := Lib.hid ((P.out.below b3).alloc (.cells #[.int .i64 r1, .slice A4 n4 c4] 24))
  replace B := Lib.hid (bup (bup B.out b3) (bnew w3 (.cells #[.int .i64 r1, .slice A4 n4 c4] 24)))
  replace I0 := Lib.hid ((I0.out.below b3).alloc (.cells #[.int .i64 r1, .slice A4 n4 c4] 24))
  replace J0 := Lib.hid ((J0.out.below b3).below (bnew w3 (.cells #[.int .i64 r1, .slice A4 n4 c4] 24)))
  have Q1 := Lib.hid (Has.new w3 (.cells #[.int .i64 r1, .slice A4 n4 c4] 24))
  have K1 := Lib.hid (K4.alloc (.cells #[.int .i64 r1, .slice A4 n4 c4] 24))
  clear b3 K4
  go_upto_region 6 with (fail)
  generalize hw4 : World.alloc w3 _ = w4
  rw [hw4] at P B I0 J0 Q1 K1
  clear hw4
  have p0 := P.out.cell 0 _ rfl
  have p1 := P.out.cell 1 _ rfl
  have q0 := Q1.out.cell 0 _ rfl
  have q1 := Q1.out.cell 1 _ rfl
  go_wp2_with fail
  refine (C2.out _ I0.out J0.out).mono ?_
  rintro e5 w5 ⟨A6, n6, c6, rfl, K6, b5⟩
  clear p0 p1 q0 q1
  replace P := Lib.hid ((P.out.below b5).alloc (.cells #[.int .i64 r1, .slice A6 n6 c6] 24))
  replace B := Lib.hid (bup (bup B.out b5) (bnew w5 (.cells #[.int .i64 r1, .slice A6 n6 c6] 24)))
  replace I0 := Lib.hid ((I0.out.below b5).alloc (.cells #[.int .i64 r1, .slice A6 n6 c6] 24))
  replace J0 := Lib.hid ((J0.out.below b5).below (bnew w5 (.cells #[.int .i64 r1, .slice A6 n6 c6] 24)))
  replace Q1 := Lib.hid ((Q1.out.below b5).alloc (.cells #[.int .i64 r1, .slice A6 n6 c6] 24))
  replace K1 := Lib.hid ((K1.out.below b5).alloc (.cells #[.int .i64 r1, .slice A6 n6 c6] 24))
  have Q2 := Lib.hid (Has.new w5 (.cells #[.int .i64 r1, .slice A6 n6 c6] 24))
  have K2 := Lib.hid (K6.alloc (.cells #[.int .i64 r1, .slice A6 n6 c6] 24))
  clear b5 K6
  go_upto_region 7 with (fail)
  generalize hw6 : World.alloc w5 _ = w6
  rw [hw6] at P B I0 J0 Q1 K1 Q2 K2
  clear hw6
  have p0 := P.out.cell 0 _ rfl
  have p1 := P.out.cell 1 _ rfl
  have q0 := Q1.out.cell 0 _ rfl
  have q1 := Q1.out.cell 1 _ rfl
  have r0 := Q2.out.cell 0 _ rfl
  have r1 := Q2.out.cell 1 _ rfl
  go_wp2_with fail
  refine (C5.out _ _ _ _ _ _ _ K1.out K2.out).mono ?_
  rintro e7 w7 ⟨rfl, b7⟩
  clear p0 p1 q0 q1 r0 r1
  replace P := Lib.hid (P.out.below b7)
  replace B := Lib.hid (bup B.out b7)
  replace I0 := Lib.hid (I0.out.below b7)
  replace J0 := Lib.hid (J0.out.below b7)
  replace Q1 := Lib.hid (Q1.out.below b7)
  replace K1 := Lib.hid (K1.out.below b7)
  replace Q2 := Lib.hid (Q2.out.below b7)
  replace K2 := Lib.hid (K2.out.below b7)
  clear b7
  have p0 := P.out.cell 0 _ rfl
  have p1 := P.out.cell 1 _ rfl
  have q0 := Q1.out.cell 0 _ rfl
  have q1 := Q1.out.cell 1 _ rfl
  have r0 := Q2.out.cell 0 _ rfl
  have r1 := Q2.out.cell 1 _ rfl
  go_wp2_with fail
  go_ret
  exact ⟨congrArg (fun b => Ending.returned (.bool b)) (by simp), B.out⟩
end Go.Proofs.Ytpgeiopknjfdmaa
