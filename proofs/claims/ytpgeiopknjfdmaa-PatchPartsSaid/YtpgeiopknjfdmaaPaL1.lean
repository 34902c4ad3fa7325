/-
  The walk of a statement of layer 5: what every entry does, and what undoes it.
-/
import Derived.Test.YtpgeiopknjfdmaaPaH
import Derived.Test.YtpgeiopknjfdmaaPaC
import Derived.Test.YtpgeiopknjfdmaaPaE
namespace Go.Proofs.Ytpgeiopknjfdmaa
open Go.RowKit Go.Sort
set_option linter.unusedVariables false
set_option linter.unusedSimpArgs false

theorem one_ents (x : Ent) (w : World) (hw : x.wd.size ≤ 140737488351232) (hi : x.ix.size ≤ 140737488351232) : IsEnts (w.alloc (.cells x.row 30)) (some ⟨w.heap.size, 0, none⟩) 1 1 [x] := by
  refine ⟨rfl, by omega, by omega, ?_, fun _ => ⟨w.heap.size, 0, rfl, by simp, fun i y hy j v hv => ?_⟩⟩
  · intro y hy
    simp at hy
    subst hy
    exact ⟨hw, hi⟩
  · match i, hy with
    | 0, hy =>
      simp at hy
      subst hy
      exact (Has.new w _).cell (0 + 0 * 13 + j) v (by rw [show 0 + 0 * 13 + j = j by omega]; exact hv)
    | i + 1, hy => simp at hy
theorem paGreat_small {l : List Sl} {L : List Ent} (h : paGreat l L = false) : l.length ≤ 100 := by
  simp [paGreat] at h
  omega
theorem ent_eqB_self (x : Ent) : x.eqB x = true := by
  simp [Ent.eqB]
set_option maxRecDepth 100000 in
set_option maxHeartbeats 8000000 in
theorem PatchDoes_walk (lsn : Int) (A : Option Addr) (n c : Nat) (l : List Sl) (w : World) (I : IsSlots w A n c l) (_ : (Lit.int .i64 lsn).wf = true) (x : Ent) (hw : x.wd.size ≤ 140737488351232) (hi : x.ix.size ≤ 140737488351232) (a b : Int) :
    Calls Try.prog 3 #[.agg #[.int .i64 lsn, .slice A n c], x.val, .agg #[.int .i64 a, .int .i64 b]] w fun e w' => e = .returned (.bool true) ∧ Below w.heap.size w w' := by
  have CA := Lib.hid paAwake_any
  have hlen := I.len
  have CG := fun (w : World) h => paGreat_any lsn A n c l (some ⟨w.heap.size, 0, none⟩) 1 1 [x] (w.alloc (.cells x.row 30)) h (one_ents x w hw hi)
  obtain ⟨G, hG⟩ : ∃ G, paGreat l [x] = G := ⟨_, rfl⟩
  have HN : Hid (G = false → n ≤ 100) := Lib.hid (fun e => by have := paGreat_small (hG.trans e); omega)
  rw [hG] at CG
  have C1 := fun w h hn => redo_any lsn A n c l x w h hn hw hi
  have C2 := fun w h hn => rredo_any lsn A n c l x w h hn hw hi
  have C3 := fun w => turn_any x a b w hw hi
  have C4 := fun w => rturn_any x a b w hw hi
  obtain ⟨R, hR⟩ : ∃ R, redoR lsn l x = R := ⟨_, rfl⟩
  rw [hR] at C1 C2
  obtain ⟨T, hT⟩ : ∃ T, turnR x a b = T := ⟨_, rfl⟩
  rw [hT] at C3 C4
  obtain ⟨r1, r2, r3, r4⟩ := R
  obtain ⟨y, t2⟩ := T
  have C5 := Lib.hid (fun A1 n1 c1 A2 n2 c2 w h1 h2 => psame_any r1 A1 n1 c1 r2 r1 A2 n2 c2 r2 w h1 h2)
  rw [(pgSame_iff r1 r1 r2 r2).2 ⟨rfl, rfl⟩] at C5
  have CE := fun w => entEqBin y y w
  rw [ent_eqB_self y] at CE
  clear hG hR hT
  obtain ⟨k, cl, ep, mm, ls, pv, pg, sl, wu, wd, iu, ix, nx⟩ := x
  obtain ⟨k', cl', ep', mm', ls', pv', pg', sl', wu', wd', iu', ix', nx'⟩ := y
  simp only [Ent.val, Ent.row] at CG C1 C2 C3 C4 CE ⊢
  replace CG := Lib.hid CG
  replace C1 := Lib.hid C1
  replace C2 := Lib.hid C2
  replace C3 := Lib.hid C3
  replace C4 := Lib.hid C4
  go_enter Try.func3, Try.ntmps3
  go_upto_region 1 with (fail)
  have P := Lib.hid (((Has.new w (.cells #[.int .i64 lsn, .slice A n c] 24)).alloc (.cells #[.int .i64 k, .int .i64 cl, .int .i64 ep, .int .i64 mm, .int .i64 ls, .int .i64 pv, .int .i64 pg, .int .i64 sl, .bool wu, .string wd, .bool iu, .string ix, .int .i64 nx] 30)).alloc (.cells #[.int .i64 a, .int .i64 b] 31))
  have X := Lib.hid ((Has.new1 w (.cells #[.int .i64 lsn, .slice A n c] 24) (.cells #[.int .i64 k, .int .i64 cl, .int .i64 ep, .int .i64 mm, .int .i64 ls, .int .i64 pv, .int .i64 pg, .int .i64 sl, .bool wu, .string wd, .bool iu, .string ix, .int .i64 nx] 30)).alloc (.cells #[.int .i64 a, .int .i64 b] 31))
  have V := Lib.hid (Has.new2 w (.cells #[.int .i64 lsn, .slice A n c] 24) (.cells #[.int .i64 k, .int .i64 cl, .int .i64 ep, .int .i64 mm, .int .i64 ls, .int .i64 pv, .int .i64 pg, .int .i64 sl, .bool wu, .string wd, .bool iu, .string ix, .int .i64 nx] 30) (.cells #[.int .i64 a, .int .i64 b] 31))
  have B : Hid (Below w.heap.size w (((w.alloc (.cells #[.int .i64 lsn, .slice A n c] 24)).alloc (.cells #[.int .i64 k, .int .i64 cl, .int .i64 ep, .int .i64 mm, .int .i64 ls, .int .i64 pv, .int .i64 pg, .int .i64 sl, .bool wu, .string wd, .bool iu, .string ix, .int .i64 nx] 30)).alloc (.cells #[.int .i64 a, .int .i64 b] 31))) := Lib.hid (bup (bup (bnew w _) (bnew _ _)) (bnew _ _))
  have I0 := Lib.hid (I.below B.out)
  generalize hw0 : World.alloc (World.alloc (World.alloc w _) _) _ = w0
  rw [hw0] at P X V B I0
  clear hw0 I
  go_wp2_with fail
  refine (CA.out _).mono ?_
  rintro e1 w1 ⟨rfl, b1⟩
  replace P := Lib.hid (P.out.below b1)
  replace X := Lib.hid (X.out.below b1)
  replace V := Lib.hid (V.out.below b1)
  replace B := Lib.hid (bup B.out b1)
  replace I0 := Lib.hid (I0.out.below b1)
  clear b1
  have p0 := P.out.cell 0 _ rfl
  have p1 := P.out.cell 1 _ rfl
  obtain ⟨x0, x1, x2, x3, x4, x5, x6, x7, x8, x9, x10, x11, x12⟩ := EntAt.of X.out
  have v0 := V.out.cell 0 _ rfl
  have v1 := V.out.cell 1 _ rfl
  have IE := Lib.hid (I0.out.alloc (.cells #[.int .i64 k, .int .i64 cl, .int .i64 ep, .int .i64 mm, .int .i64 ls, .int .i64 pv, .int .i64 pg, .int .i64 sl, .bool wu, .string wd, .bool iu, .string ix, .int .i64 nx] 30))
  go_wp2_with fail
  refine (CG.out w1 IE.out).mono ?_
  rintro e2 w2 ⟨rfl, b2'⟩
  have b2 := bup (bnew w1 (.cells #[.int .i64 k, .int .i64 cl, .int .i64 ep, .int .i64 mm, .int .i64 ls, .int .i64 pv, .int .i64 pg, .int .i64 sl, .bool wu, .string wd, .bool iu, .string ix, .int .i64 nx] 30)) b2'
  clear b2' IE
  clear p0 p1 x0 x1 x2 x3 x4 x5 x6 x7 x8 x9 x10 x11 x12 v0 v1
  replace P := Lib.hid (P.out.below b2)
  replace X := Lib.hid (X.out.below b2)
  replace V := Lib.hid (V.out.below b2)
  replace B := Lib.hid (bup B.out b2)
  replace I0 := Lib.hid (I0.out.below b2)
  clear b2
  have p0 := P.out.cell 0 _ rfl
  have p1 := P.out.cell 1 _ rfl
  obtain ⟨x0, x1, x2, x3, x4, x5, x6, x7, x8, x9, x10, x11, x12⟩ := EntAt.of X.out
  have v0 := V.out.cell 0 _ rfl
  have v1 := V.out.cell 1 _ rfl
  cases G with
  | true =>
    go_wp2_with fail
    go_ret
    exact ⟨rfl, B.out⟩
  | false =>
  have hn := HN.out rfl
  go_wp2_with fail
  refine (C1.out _ I0.out hn).mono ?_
  rintro e3 w3 ⟨A4, n4, c4, rfl, J4, b3⟩
  clear p0 p1 x0 x1 x2 x3 x4 x5 x6 x7 x8 x9 x10 x11 x12 v0 v1
  replace P := Lib.hid ((P.out.below b3).alloc (.cells #[.int .i64 r1, .slice A4 n4 c4] 24))
  replace X := Lib.hid ((X.out.below b3).alloc (.cells #[.int .i64 r1, .slice A4 n4 c4] 24))
  replace V := Lib.hid ((V.out.below b3).alloc (.cells #[.int .i64 r1, .slice A4 n4 c4] 24))
  replace B := Lib.hid (bup (bup B.out b3) (bnew w3 (.cells #[.int .i64 r1, .slice A4 n4 c4] 24)))
  replace I0 := Lib.hid ((I0.out.below b3).alloc (.cells #[.int .i64 r1, .slice A4 n4 c4] 24))
  have Q1 := Lib.hid (Has.new w3 (.cells #[.int .i64 r1, .slice A4 n4 c4] 24))
  have K1 := Lib.hid (J4.alloc (.cells #[.int .i64 r1, .slice A4 n4 c4] 24))
  clear b3 J4
  go_upto_region 6 with (fail)
  generalize hw4 : World.alloc w3 _ = w4
  rw [hw4] at P X V B I0 Q1 K1
  clear hw4
  have p0 := P.out.cell 0 _ rfl
  have p1 := P.out.cell 1 _ rfl
  obtain ⟨x0, x1, x2, x3, x4, x5, x6, x7, x8, x9, x10, x11, x12⟩ := EntAt.of X.out
  have v0 := V.out.cell 0 _ rfl
  have v1 := V.out.cell 1 _ rfl
  have q0 := Q1.out.cell 0 _ rfl
  have q1 := Q1.out.cell 1 _ rfl
  go_wp2_with fail
  refine (C2.out _ I0.out hn).mono ?_
  rintro e5 w5 ⟨A5, n5, c5, rfl, J5, b5⟩
  clear p0 p1 x0 x1 x2 x3 x4 x5 x6 x7 x8 x9 x10 x11 x12 v0 v1 q0 q1
  replace P := Lib.hid ((P.out.below b5).alloc (.cells #[.int .i64 r1, .slice A5 n5 c5] 24))
  replace X := Lib.hid ((X.out.below b5).alloc (.cells #[.int .i64 r1, .slice A5 n5 c5] 24))
  replace V := Lib.hid ((V.out.below b5).alloc (.cells #[.int .i64 r1, .slice A5 n5 c5] 24))
  replace B := Lib.hid (bup (bup B.out b5) (bnew w5 (.cells #[.int .i64 r1, .slice A5 n5 c5] 24)))
  replace I0 := Lib.hid ((I0.out.below b5).alloc (.cells #[.int .i64 r1, .slice A5 n5 c5] 24))
  replace Q1 := Lib.hid ((Q1.out.below b5).alloc (.cells #[.int .i64 r1, .slice A5 n5 c5] 24))
  replace K1 := Lib.hid ((K1.out.below b5).alloc (.cells #[.int .i64 r1, .slice A5 n5 c5] 24))
  have Q2 := Lib.hid (Has.new w5 (.cells #[.int .i64 r1, .slice A5 n5 c5] 24))
  have K2 := Lib.hid (J5.alloc (.cells #[.int .i64 r1, .slice A5 n5 c5] 24))
  clear b5 J5
  go_upto_region 7 with (fail)
  generalize hw6 : World.alloc w5 _ = w6
  rw [hw6] at P X V B I0 Q1 K1 Q2 K2
  clear hw6
  have p0 := P.out.cell 0 _ rfl
  have p1 := P.out.cell 1 _ rfl
  obtain ⟨x0, x1, x2, x3, x4, x5, x6, x7, x8, x9, x10, x11, x12⟩ := EntAt.of X.out
  have v0 := V.out.cell 0 _ rfl
  have v1 := V.out.cell 1 _ rfl
  have q0 := Q1.out.cell 0 _ rfl
  have q1 := Q1.out.cell 1 _ rfl
  have r0 := Q2.out.cell 0 _ rfl
  have r1 := Q2.out.cell 1 _ rfl
  go_wp2_with fail
  refine (C3.out _).mono ?_
  rintro e7 w7 ⟨rfl, b7⟩
  clear p0 p1 x0 x1 x2 x3 x4 x5 x6 x7 x8 x9 x10 x11 x12 v0 v1 q0 q1 r0 r1
  replace P := Lib.hid ((P.out.below b7).alloc (.cells #[.int .i64 k', .int .i64 cl', .int .i64 ep', .int .i64 mm', .int .i64 ls', .int .i64 pv', .int .i64 pg', .int .i64 sl', .bool wu', .string wd', .bool iu', .string ix', .int .i64 nx'] 30))
  replace X := Lib.hid ((X.out.below b7).alloc (.cells #[.int .i64 k', .int .i64 cl', .int .i64 ep', .int .i64 mm', .int .i64 ls', .int .i64 pv', .int .i64 pg', .int .i64 sl', .bool wu', .string wd', .bool iu', .string ix', .int .i64 nx'] 30))
  replace V := Lib.hid ((V.out.below b7).alloc (.cells #[.int .i64 k', .int .i64 cl', .int .i64 ep', .int .i64 mm', .int .i64 ls', .int .i64 pv', .int .i64 pg', .int .i64 sl', .bool wu', .string wd', .bool iu', .string ix', .int .i64 nx'] 30))
  replace B := Lib.hid (bup (bup B.out b7) (bnew w7 (.cells #[.int .i64 k', .int .i64 cl', .int .i64 ep', .int .i64 mm', .int .i64 ls', .int .i64 pv', .int .i64 pg', .int .i64 sl', .bool wu', .string wd', .bool iu', .string ix', .int .i64 nx'] 30)))
  replace I0 := Lib.hid ((I0.out.below b7).alloc (.cells #[.int .i64 k', .int .i64 cl', .int .i64 ep', .int .i64 mm', .int .i64 ls', .int .i64 pv', .int .i64 pg', .int .i64 sl', .bool wu', .string wd', .bool iu', .string ix', .int .i64 nx'] 30))
  replace Q1 := Lib.hid ((Q1.out.below b7).alloc (.cells #[.int .i64 k', .int .i64 cl', .int .i64 ep', .int .i64 mm', .int .i64 ls', .int .i64 pv', .int .i64 pg', .int .i64 sl', .bool wu', .string wd', .bool iu', .string ix', .int .i64 nx'] 30))
  replace K1 := Lib.hid ((K1.out.below b7).alloc (.cells #[.int .i64 k', .int .i64 cl', .int .i64 ep', .int .i64 mm', .int .i64 ls', .int .i64 pv', .int .i64 pg', .int .i64 sl', .bool wu', .string wd', .bool iu', .string ix', .int .i64 nx'] 30))
  replace Q2 := Lib.hid ((Q2.out.below b7).alloc (.cells #[.int .i64 k', .int .i64 cl', .int .i64 ep', .int .i64 mm', .int .i64 ls', .int .i64 pv', .int .i64 pg', .int .i64 sl', .bool wu', .string wd', .bool iu', .string ix', .int .i64 nx'] 30))
  replace K2 := Lib.hid ((K2.out.below b7).alloc (.cells #[.int .i64 k', .int .i64 cl', .int .i64 ep', .int .i64 mm', .int .i64 ls', .int .i64 pv', .int .i64 pg', .int .i64 sl', .bool wu', .string wd', .bool iu', .string ix', .int .i64 nx'] 30))
  have Y1 := Lib.hid (Has.new w7 (.cells #[.int .i64 k', .int .i64 cl', .int .i64 ep', .int .i64 mm', .int .i64 ls', .int .i64 pv', .int .i64 pg', .int .i64 sl', .bool wu', .string wd', .bool iu', .string ix', .int .i64 nx'] 30))
  clear b7
  go_upto_region 8 with (fail)
  generalize hw8 : World.alloc w7 _ = w8
  rw [hw8] at P X V B I0 Q1 K1 Q2 K2 Y1
  clear hw8
  have p0 := P.out.cell 0 _ rfl
  have p1 := P.out.cell 1 _ rfl
  obtain ⟨x0, x1, x2, x3, x4, x5, x6, x7, x8, x9, x10, x11, x12⟩ := EntAt.of X.out
  have v0 := V.out.cell 0 _ rfl
  have v1 := V.out.cell 1 _ rfl
  have q0 := Q1.out.cell 0 _ rfl
  have q1 := Q1.out.cell 1 _ rfl
  have r0 := Q2.out.cell 0 _ rfl
  have r1 := Q2.out.cell 1 _ rfl
  obtain ⟨y0, y1, y2, y3, y4, y5, y6, y7, y8, y9, y10, y11, y12⟩ := EntAt.of Y1.out
  go_wp2_with fail
  refine (C4.out _).mono ?_
  rintro e9 w9 ⟨rfl, b9⟩
  clear p0 p1 x0 x1 x2 x3 x4 x5 x6 x7 x8 x9 x10 x11 x12 v0 v1 q0 q1 r0 r1 y0 y1 y2 y3 y4 y5 y6 y7 y8 y9 y10 y11 y12
  replace P := Lib.hid ((P.out.below b9).alloc (.cells #[.int .i64 k', .int .i64 cl', .int .i64 ep', .int .i64 mm', .int .i64 ls', .int .i64 pv', .int .i64 pg', .int .i64 sl', .bool wu', .string wd', .bool iu', .string ix', .int .i64 nx'] 30))
  replace X := Lib.hid ((X.out.below b9).alloc (.cells #[.int .i64 k', .int .i64 cl', .int .i64 ep', .int .i64 mm', .int .i64 ls', .int .i64 pv', .int .i64 pg', .int .i64 sl', .bool wu', .string wd', .bool iu', .string ix', .int .i64 nx'] 30))
  replace V := Lib.hid ((V.out.below b9).alloc (.cells #[.int .i64 k', .int .i64 cl', .int .i64 ep', .int .i64 mm', .int .i64 ls', .int .i64 pv', .int .i64 pg', .int .i64 sl', .bool wu', .string wd', .bool iu', .string ix', .int .i64 nx'] 30))
  replace B := Lib.hid (bup (bup B.out b9) (bnew w9 (.cells #[.int .i64 k', .int .i64 cl', .int .i64 ep', .int .i64 mm', .int .i64 ls', .int .i64 pv', .int .i64 pg', .int .i64 sl', .bool wu', .string wd', .bool iu', .string ix', .int .i64 nx'] 30)))
  replace I0 := Lib.hid ((I0.out.below b9).alloc (.cells #[.int .i64 k', .int .i64 cl', .int .i64 ep', .int .i64 mm', .int .i64 ls', .int .i64 pv', .int .i64 pg', .int .i64 sl', .bool wu', .string wd', .bool iu', .string ix', .int .i64 nx'] 30))
  replace Q1 := Lib.hid ((Q1.out.below b9).alloc (.cells #[.int .i64 k', .int .i64 cl', .int .i64 ep', .int .i64 mm', .int .i64 ls', .int .i64 pv', .int .i64 pg', .int .i64 sl', .bool wu', .string wd', .bool iu', .string ix', .int .i64 nx'] 30))
  replace K1 := Lib.hid ((K1.out.below b9).alloc (.cells #[.int .i64 k', .int .i64 cl', .int .i64 ep', .int .i64 mm', .int .i64 ls', .int .i64 pv', .int .i64 pg', .int .i64 sl', .bool wu', .string wd', .bool iu', .string ix', .int .i64 nx'] 30))
  replace Q2 := Lib.hid ((Q2.out.below b9).alloc (.cells #[.int .i64 k', .int .i64 cl', .int .i64 ep', .int .i64 mm', .int .i64 ls', .int .i64 pv', .int .i64 pg', .int .i64 sl', .bool wu', .string wd', .bool iu', .string ix', .int .i64 nx'] 30))
  replace K2 := Lib.hid ((K2.out.below b9).alloc (.cells #[.int .i64 k', .int .i64 cl', .int .i64 ep', .int .i64 mm', .int .i64 ls', .int .i64 pv', .int .i64 pg', .int .i64 sl', .bool wu', .string wd', .bool iu', .string ix', .int .i64 nx'] 30))
  replace Y1 := Lib.hid ((Y1.out.below b9).alloc (.cells #[.int .i64 k', .int .i64 cl', .int .i64 ep', .int .i64 mm', .int .i64 ls', .int .i64 pv', .int .i64 pg', .int .i64 sl', .bool wu', .string wd', .bool iu', .string ix', .int .i64 nx'] 30))
  have Y2 := Lib.hid (Has.new w9 (.cells #[.int .i64 k', .int .i64 cl', .int .i64 ep', .int .i64 mm', .int .i64 ls', .int .i64 pv', .int .i64 pg', .int .i64 sl', .bool wu', .string wd', .bool iu', .string ix', .int .i64 nx'] 30))
  clear b9
  go_upto_region 9 with (fail)
  generalize hw10 : World.alloc w9 _ = w10
  rw [hw10] at P X V B I0 Q1 K1 Q2 K2 Y1 Y2
  clear hw10
  have p0 := P.out.cell 0 _ rfl
  have p1 := P.out.cell 1 _ rfl
  obtain ⟨x0, x1, x2, x3, x4, x5, x6, x7, x8, x9, x10, x11, x12⟩ := EntAt.of X.out
  have v0 := V.out.cell 0 _ rfl
  have v1 := V.out.cell 1 _ rfl
  have q0 := Q1.out.cell 0 _ rfl
  have q1 := Q1.out.cell 1 _ rfl
  have r0 := Q2.out.cell 0 _ rfl
  have r1 := Q2.out.cell 1 _ rfl
  obtain ⟨y0, y1, y2, y3, y4, y5, y6, y7, y8, y9, y10, y11, y12⟩ := EntAt.of Y1.out
  obtain ⟨z0, z1, z2, z3, z4, z5, z6, z7, z8, z9, z10, z11, z12⟩ := EntAt.of Y2.out
  go_wp2_with fail
  refine (C5.out _ _ _ _ _ _ _ K1.out K2.out).mono ?_
  rintro e11 w11 ⟨rfl, b11⟩
  clear p0 p1 x0 x1 x2 x3 x4 x5 x6 x7 x8 x9 x10 x11 x12 v0 v1 q0 q1 r0 r1 y0 y1 y2 y3 y4 y5 y6 y7 y8 y9 y10 y11 y12 z0 z1 z2 z3 z4 z5 z6 z7 z8 z9 z10 z11 z12
  replace P := Lib.hid (P.out.below b11)
  replace X := Lib.hid (X.out.below b11)
  replace V := Lib.hid (V.out.below b11)
  replace B := Lib.hid (bup B.out b11)
  replace I0 := Lib.hid (I0.out.below b11)
  replace Q1 := Lib.hid (Q1.out.below b11)
  replace K1 := Lib.hid (K1.out.below b11)
  replace Q2 := Lib.hid (Q2.out.below b11)
  replace K2 := Lib.hid (K2.out.below b11)
  replace Y1 := Lib.hid (Y1.out.below b11)
  replace Y2 := Lib.hid (Y2.out.below b11)
  clear b11
  have p0 := P.out.cell 0 _ rfl
  have p1 := P.out.cell 1 _ rfl
  obtain ⟨x0, x1, x2, x3, x4, x5, x6, x7, x8, x9, x10, x11, x12⟩ := EntAt.of X.out
  have v0 := V.out.cell 0 _ rfl
  have v1 := V.out.cell 1 _ rfl
  have q0 := Q1.out.cell 0 _ rfl
  have q1 := Q1.out.cell 1 _ rfl
  have r0 := Q2.out.cell 0 _ rfl
  have r1 := Q2.out.cell 1 _ rfl
  obtain ⟨y0, y1, y2, y3, y4, y5, y6, y7, y8, y9, y10, y11, y12⟩ := EntAt.of Y1.out
  obtain ⟨z0, z1, z2, z3, z4, z5, z6, z7, z8, z9, z10, z11, z12⟩ := EntAt.of Y2.out
  go_wp2_with fail
  go_ret
  exact ⟨congrArg (fun b => Ending.returned (.bool b)) (by simp), B.out⟩
end Go.Proofs.Ytpgeiopknjfdmaa
