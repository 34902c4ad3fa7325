/-
  The walk of a statement of layer 5: done and undone.
-/
import Derived.Test.YtpgeiopknjfdmaaPaL1
import Derived.Test.YtpgeiopknjfdmaaPaF2
namespace Go.Proofs.Ytpgeiopknjfdmaa
open Go.RowKit Go.Sort
set_option linter.unusedVariables false
set_option linter.unusedSimpArgs false

set_option maxRecDepth 100000 in
set_option maxHeartbeats 16000000 in
theorem PatchTurns_walk (lsn : Int) (A : Option Addr) (n c : Nat) (l : List Sl) (w : World) (I : IsSlots w A n c l) (_ : (Lit.int .i64 lsn).wf = true) (x : Ent) (hw : x.wd.size ≤ 140737488351232) (hi : x.ix.size ≤ 140737488351232) (a : Int) (_ : (Lit.int .i64 a).wf = true) :
    Calls Try.prog 6 #[.agg #[.int .i64 lsn, .slice A n c], x.val, .int .i64 a] w fun e w' => e = .returned (.bool true) ∧ Below w.heap.size w w' := by
  have CA := Lib.hid paAwake_any
  have hlen := I.len
  have CG := fun (w : World) h => paGreat_any lsn A n c l (some ⟨w.heap.size, 0, none⟩) 1 1 [x] (w.alloc (.cells x.row 30)) h (one_ents x w hw hi)
  obtain ⟨G, hG⟩ : ∃ G, paGreat l [x] = G := ⟨_, rfl⟩
  have HN : Hid (G = false → n ≤ 100) := Lib.hid (fun e => by have := paGreat_small (hG.trans e); omega)
  rw [hG] at CG
  have C1 := fun w h hn => redo_any lsn A n c l x w h hn hw hi
  have C3 := fun w => turn_any x a x.lsn w hw hi
  have FT := fun (h : (redoR lsn l x).2.2.2 = 0) (hd : (redoR lsn l x).2.2.1 = true) (hk : x.kind = 1) => (show ((x.turn a x.lsn).good = false ∧ turnR x a x.lsn = (Ent.zero, 1) ∧ (a ≤ x.lsn ∨ 1099511627776 < a)) ∨ (turnR x a x.lsn = (x.turn a x.lsn, 0) ∧ redoR (redoR lsn l x).1 (redoR lsn l x).2.1 (x.turn a x.lsn) = (a, l, true, 0) ∧ (redoR lsn l x).2.1.length ≤ 100 ∧ ∀ j : Nat, slAt a l j = slAt lsn l j) from by
    obtain ⟨h1, h2, _, _⟩ := redo_ok h
    cases ht : (x.turn a x.lsn).good with
    | false =>
      refine .inl ⟨rfl, by unfold turnR; rw [if_neg (by simp [ht])], ?_⟩
      have : ¬ (x.lsn < a ∧ a ≤ 1099511627776) := fun e => by rw [(turn_good h2 hk).2 e] at ht; cases ht
      omega
    | true =>
      have hta := (turn_good h2 hk).1 ht
      have hl0 := (ent_good_lsn h2).1
      refine .inr ⟨by unfold turnR; rw [if_pos (by simp [h2, hk, ht])], redo_turn h hd hk ht, by have := ((slGood_iff _ _).1 (redo_good h)).2.1; omega, fun j => ?_⟩
      rw [slAt_getD h1, slAt_getD (slGood_lsn h1 (by omega) hta.2)])
  have C5 := fun A n c w h hn => redo_any (redoR lsn l x).1 A n c (redoR lsn l x).2.1 (x.turn a x.lsn) w h hn (by simp only [Ent.turn]; omega) (by simp only [Ent.turn]; omega)
  obtain ⟨R, hR⟩ : ∃ R, redoR lsn l x = R := ⟨_, rfl⟩
  rw [hR] at C1 FT C5
  obtain ⟨r1, r2, r3, r4⟩ := R
  have CB1 := Lib.hid (fun (j : Nat) w h => pat_any lsn A n c l (j : Int) w h)
  have CB2 := Lib.hid (fun A n c (j : Nat) w h => pat_any a A n c l (j : Int) w h)
  have HlenL : Hid (l.length = n) := Lib.hid hlen
  clear hG hR
  replace FT := Lib.hid FT
  replace C5 := Lib.hid C5
  replace C3 := Lib.hid C3
  obtain ⟨k, cl, ep, mm, ls, pv, pg, sl, wu, wd, iu, ix, nx⟩ := x
  simp only [Ent.val, Ent.row, Ent.is] at CG C1 hi ⊢
  replace CG := Lib.hid CG
  replace C1 := Lib.hid C1
  go_enter Try.func6, Try.ntmps6
  go_upto_region 1 with (fail)
  have P := Lib.hid ((Has.new w (.cells #[.int .i64 lsn, .slice A n c] 24)).alloc (.cells #[.int .i64 k, .int .i64 cl, .int .i64 ep, .int .i64 mm, .int .i64 ls, .int .i64 pv, .int .i64 pg, .int .i64 sl, .bool wu, .string wd, .bool iu, .string ix, .int .i64 nx] 30))
  have X := Lib.hid (Has.new1 w (.cells #[.int .i64 lsn, .slice A n c] 24) (.cells #[.int .i64 k, .int .i64 cl, .int .i64 ep, .int .i64 mm, .int .i64 ls, .int .i64 pv, .int .i64 pg, .int .i64 sl, .bool wu, .string wd, .bool iu, .string ix, .int .i64 nx] 30))
  have B : Hid (Below w.heap.size w ((w.alloc (.cells #[.int .i64 lsn, .slice A n c] 24)).alloc (.cells #[.int .i64 k, .int .i64 cl, .int .i64 ep, .int .i64 mm, .int .i64 ls, .int .i64 pv, .int .i64 pg, .int .i64 sl, .bool wu, .string wd, .bool iu, .string ix, .int .i64 nx] 30))) := Lib.hid (bup (bnew w _) (bnew _ _))
  have I0 := Lib.hid (I.below B.out)
  generalize hw0 : World.alloc (World.alloc w _) _ = w0
  rw [hw0] at P X B I0
  clear hw0 I
  go_wp2_with fail
  refine (CA.out _).mono ?_
  rintro e1 w1 ⟨rfl, b1⟩
  replace P := Lib.hid (P.out.below b1)
  replace X := Lib.hid (X.out.below b1)
  replace B := Lib.hid (bup B.out b1)
  replace I0 := Lib.hid (I0.out.below b1)
  clear b1
  have p0 := P.out.cell 0 _ rfl
  have p1 := P.out.cell 1 _ rfl
  obtain ⟨x0, x1, x2, x3, x4, x5, x6, x7, x8, x9, x10, x11, x12⟩ := EntAt.of X.out
  have IE := Lib.hid (I0.out.alloc (.cells #[.int .i64 k, .int .i64 cl, .int .i64 ep, .int .i64 mm, .int .i64 ls, .int .i64 pv, .int .i64 pg, .int .i64 sl, .bool wu, .string wd, .bool iu, .string ix, .int .i64 nx] 30))
  go_wp2_with fail
  refine (CG.out w1 IE.out).mono ?_
  rintro e2 w2 ⟨rfl, b2'⟩
  have b2 := bup (bnew w1 (.cells #[.int .i64 k, .int .i64 cl, .int .i64 ep, .int .i64 mm, .int .i64 ls, .int .i64 pv, .int .i64 pg, .int .i64 sl, .bool wu, .string wd, .bool iu, .string ix, .int .i64 nx] 30)) b2'
  clear b2' IE
  clear p0 p1 x0 x1 x2 x3 x4 x5 x6 x7 x8 x9 x10 x11 x12
  replace P := Lib.hid (P.out.below b2)
  replace X := Lib.hid (X.out.below b2)
  replace B := Lib.hid (bup B.out b2)
  replace I0 := Lib.hid (I0.out.below b2)
  clear b2
  have p0 := P.out.cell 0 _ rfl
  have p1 := P.out.cell 1 _ rfl
  obtain ⟨x0, x1, x2, x3, x4, x5, x6, x7, x8, x9, x10, x11, x12⟩ := EntAt.of X.out
  cases G with
  | true =>
    go_wp2_with fail
    go_ret
    exact ⟨rfl, B.out⟩
  | false =>
  have hn := HN.out rfl
  have hk3 : (k == 1) = false ∨ k = 1 := by
    by_cases h : k = 1
    · exact .inr h
    · exact .inl (by simp [h])
  by_cases hr4 : r4 = 0
  case neg =>
    have hqb : ((r4 : Int) != 0) = true := by simp [hr4]
    clear FT hr4
    go_wp2_with fail
    refine (C1.out _ I0.out hn).mono ?_
    rintro e3 w3 ⟨A4, n4, c4, rfl, J4, b3⟩
    clear p0 p1 x0 x1 x2 x3 x4 x5 x6 x7 x8 x9 x10 x11 x12
    replace P := Lib.hid ((P.out.below b3).alloc (.cells #[.int .i64 r1, .slice A4 n4 c4] 24))
    replace X := Lib.hid ((X.out.below b3).alloc (.cells #[.int .i64 r1, .slice A4 n4 c4] 24))
    replace B := Lib.hid (bup (bup B.out b3) (bnew w3 (.cells #[.int .i64 r1, .slice A4 n4 c4] 24)))
    replace I0 := Lib.hid ((I0.out.below b3).alloc (.cells #[.int .i64 r1, .slice A4 n4 c4] 24))
    have Q := Lib.hid (Has.new w3 (.cells #[.int .i64 r1, .slice A4 n4 c4] 24))
    have K := Lib.hid (J4.alloc (.cells #[.int .i64 r1, .slice A4 n4 c4] 24))
    clear b3 J4
    go_upto_region 6 with (fail)
    generalize hw4 : World.alloc w3 _ = w4
    rw [hw4] at P X B I0 Q K
    clear hw4
    have p0 := P.out.cell 0 _ rfl
    have p1 := P.out.cell 1 _ rfl
    obtain ⟨x0, x1, x2, x3, x4, x5, x6, x7, x8, x9, x10, x11, x12⟩ := EntAt.of X.out
    have q0 := Q.out.cell 0 _ rfl
    have q1 := Q.out.cell 1 _ rfl
    go_wp2_with fail
    go_ret
    exact ⟨rfl, B.out⟩
  subst hr4
  cases r3 with
  | false =>
    clear FT
    go_wp2_with fail
    refine (C1.out _ I0.out hn).mono ?_
    rintro e3 w3 ⟨A4, n4, c4, rfl, J4, b3⟩
    clear p0 p1 x0 x1 x2 x3 x4 x5 x6 x7 x8 x9 x10 x11 x12
    replace P := Lib.hid ((P.out.below b3).alloc (.cells #[.int .i64 r1, .slice A4 n4 c4] 24))
    replace X := Lib.hid ((X.out.below b3).alloc (.cells #[.int .i64 r1, .slice A4 n4 c4] 24))
    replace B := Lib.hid (bup (bup B.out b3) (bnew w3 (.cells #[.int .i64 r1, .slice A4 n4 c4] 24)))
    replace I0 := Lib.hid ((I0.out.below b3).alloc (.cells #[.int .i64 r1, .slice A4 n4 c4] 24))
    have Q := Lib.hid (Has.new w3 (.cells #[.int .i64 r1, .slice A4 n4 c4] 24))
    have K := Lib.hid (J4.alloc (.cells #[.int .i64 r1, .slice A4 n4 c4] 24))
    clear b3 J4
    go_upto_region 6 with (fail)
    generalize hw4 : World.alloc w3 _ = w4
    rw [hw4] at P X B I0 Q K
    clear hw4
    have p0 := P.out.cell 0 _ rfl
    have p1 := P.out.cell 1 _ rfl
    obtain ⟨x0, x1, x2, x3, x4, x5, x6, x7, x8, x9, x10, x11, x12⟩ := EntAt.of X.out
    have q0 := Q.out.cell 0 _ rfl
    have q1 := Q.out.cell 1 _ rfl
    go_wp2_with fail
    go_ret
    exact ⟨rfl, B.out⟩
  | true =>
  rcases hk3 with hk3 | rfl
  case inl =>
    have hkb : ((k : Int) != 1) = true := by simp [bne, hk3]
    clear FT
    go_wp2_with fail
    refine (C1.out _ I0.out hn).mono ?_
    rintro e3 w3 ⟨A4, n4, c4, rfl, J4, b3⟩
    clear p0 p1 x0 x1 x2 x3 x4 x5 x6 x7 x8 x9 x10 x11 x12
    replace P := Lib.hid ((P.out.below b3).alloc (.cells #[.int .i64 r1, .slice A4 n4 c4] 24))
    replace X := Lib.hid ((X.out.below b3).alloc (.cells #[.int .i64 r1, .slice A4 n4 c4] 24))
    replace B := Lib.hid (bup (bup B.out b3) (bnew w3 (.cells #[.int .i64 r1, .slice A4 n4 c4] 24)))
    replace I0 := Lib.hid ((I0.out.below b3).alloc (.cells #[.int .i64 r1, .slice A4 n4 c4] 24))
    have Q := Lib.hid (Has.new w3 (.cells #[.int .i64 r1, .slice A4 n4 c4] 24))
    have K := Lib.hid (J4.alloc (.cells #[.int .i64 r1, .slice A4 n4 c4] 24))
    clear b3 J4
    go_upto_region 6 with (fail)
    generalize hw4 : World.alloc w3 _ = w4
    rw [hw4] at P X B I0 Q K
    clear hw4
    have p0 := P.out.cell 0 _ rfl
    have p1 := P.out.cell 1 _ rfl
    obtain ⟨x0, x1, x2, x3, x4, x5, x6, x7, x8, x9, x10, x11, x12⟩ := EntAt.of X.out
    have q0 := Q.out.cell 0 _ rfl
    have q1 := Q.out.cell 1 _ rfl
    go_wp2_with fail
    go_ret
    exact ⟨rfl, B.out⟩
  rcases FT.out rfl rfl rfl with ⟨_, hT, ha⟩ | ⟨hT, hR2, hn100, heq⟩
  · have C3 := C3.out
    rw [hT] at C3
    simp only [Ent.val, Ent.row, Ent.zero] at C3
    replace C3 := Lib.hid C3
    clear hT FT C5
    go_wp2_with fail
    refine (C1.out _ I0.out hn).mono ?_
    rintro e3 w3 ⟨A4, n4, c4, rfl, J4, b3⟩
    clear p0 p1 x0 x1 x2 x3 x4 x5 x6 x7 x8 x9 x10 x11 x12
    replace P := Lib.hid ((P.out.below b3).alloc (.cells #[.int .i64 r1, .slice A4 n4 c4] 24))
    replace X := Lib.hid ((X.out.below b3).alloc (.cells #[.int .i64 r1, .slice A4 n4 c4] 24))
    replace B := Lib.hid (bup (bup B.out b3) (bnew w3 (.cells #[.int .i64 r1, .slice A4 n4 c4] 24)))
    replace I0 := Lib.hid ((I0.out.below b3).alloc (.cells #[.int .i64 r1, .slice A4 n4 c4] 24))
    have Q := Lib.hid (Has.new w3 (.cells #[.int .i64 r1, .slice A4 n4 c4] 24))
    have K := Lib.hid (J4.alloc (.cells #[.int .i64 r1, .slice A4 n4 c4] 24))
    clear b3 J4
    go_upto_region 6 with (fail)
    generalize hw4 : World.alloc w3 _ = w4
    rw [hw4] at P X B I0 Q K
    clear hw4
    have p0 := P.out.cell 0 _ rfl
    have p1 := P.out.cell 1 _ rfl
    obtain ⟨x0, x1, x2, x3, x4, x5, x6, x7, x8, x9, x10, x11, x12⟩ := EntAt.of X.out
    have q0 := Q.out.cell 0 _ rfl
    have q1 := Q.out.cell 1 _ rfl
    go_wp2_with fail
    refine (C3.out _).mono ?_
    rintro e5 w5 ⟨rfl, b5⟩
    clear p0 p1 x0 x1 x2 x3 x4 x5 x6 x7 x8 x9 x10 x11 x12 q0 q1
    replace P := Lib.hid ((P.out.below b5).alloc (.cells #[.int .i64 0, .int .i64 0, .int .i64 0, .int .i64 0, .int .i64 0, .int .i64 0, .int .i64 0, .int .i64 0, .bool false, .string ⟨#[]⟩, .bool false, .string ⟨#[]⟩, .int .i64 0] 30))
    replace X := Lib.hid ((X.out.below b5).alloc (.cells #[.int .i64 0, .int .i64 0, .int .i64 0, .int .i64 0, .int .i64 0, .int .i64 0, .int .i64 0, .int .i64 0, .bool false, .string ⟨#[]⟩, .bool false, .string ⟨#[]⟩, .int .i64 0] 30))
    replace B := Lib.hid (bup (bup B.out b5) (bnew w5 (.cells #[.int .i64 0, .int .i64 0, .int .i64 0, .int .i64 0, .int .i64 0, .int .i64 0, .int .i64 0, .int .i64 0, .bool false, .string ⟨#[]⟩, .bool false, .string ⟨#[]⟩, .int .i64 0] 30)))
    replace I0 := Lib.hid ((I0.out.below b5).alloc (.cells #[.int .i64 0, .int .i64 0, .int .i64 0, .int .i64 0, .int .i64 0, .int .i64 0, .int .i64 0, .int .i64 0, .bool false, .string ⟨#[]⟩, .bool false, .string ⟨#[]⟩, .int .i64 0] 30))
    replace Q := Lib.hid ((Q.out.below b5).alloc (.cells #[.int .i64 0, .int .i64 0, .int .i64 0, .int .i64 0, .int .i64 0, .int .i64 0, .int .i64 0, .int .i64 0, .bool false, .string ⟨#[]⟩, .bool false, .string ⟨#[]⟩, .int .i64 0] 30))
    replace K := Lib.hid ((K.out.below b5).alloc (.cells #[.int .i64 0, .int .i64 0, .int .i64 0, .int .i64 0, .int .i64 0, .int .i64 0, .int .i64 0, .int .i64 0, .bool false, .string ⟨#[]⟩, .bool false, .string ⟨#[]⟩, .int .i64 0] 30))
    have Y := Lib.hid (Has.new w5 (.cells #[.int .i64 0, .int .i64 0, .int .i64 0, .int .i64 0, .int .i64 0, .int .i64 0, .int .i64 0, .int .i64 0, .bool false, .string ⟨#[]⟩, .bool false, .string ⟨#[]⟩, .int .i64 0] 30))
    clear b5
    go_upto_region 9 with (fail)
    generalize hw6 : World.alloc w5 _ = w6
    rw [hw6] at P X B I0 Q K Y
    clear hw6
    have p0 := P.out.cell 0 _ rfl
    have p1 := P.out.cell 1 _ rfl
    obtain ⟨x0, x1, x2, x3, x4, x5, x6, x7, x8, x9, x10, x11, x12⟩ := EntAt.of X.out
    have q0 := Q.out.cell 0 _ rfl
    have q1 := Q.out.cell 1 _ rfl
    obtain ⟨y0, y1, y2, y3, y4, y5, y6, y7, y8, y9, y10, y11, y12⟩ := EntAt.of Y.out
    have ha2 : a ≤ ls ∨ 1099511627776 < a := ha
    have ha3 : a ≤ ls ∨ (ls < a ∧ 1099511627776 < a) := by omega
    clear ha ha2
    rcases ha3 with ha | ⟨ha, ha2⟩ <;>
    · go_wp2_with fail
      go_ret
      refine ⟨?_, B.out⟩
      first | rfl | exact congrArg (fun b => Ending.returned (.bool b)) (by simp <;> omega)
  have C3 := C3.out
  rw [hT] at C3
  have C5 := C5.out
  try simp only at C5
  try simp only at hR2
  try simp only at hn100
  rw [hR2] at C5
  simp only [Ent.val, Ent.row, Ent.turn] at C3 C5
  replace C3 := Lib.hid C3
  replace C5 := Lib.hid C5
  have HEQ := Lib.hid heq
  have hn4 : Hid (r2.length ≤ 100) := Lib.hid hn100
  clear hT FT hR2 hn100 heq
  go_wp2_with fail
  refine (C1.out _ I0.out hn).mono ?_
  rintro e3 w3 ⟨A4, n4, c4, rfl, J4, b3⟩
  clear p0 p1 x0 x1 x2 x3 x4 x5 x6 x7 x8 x9 x10 x11 x12
  replace P := Lib.hid ((P.out.below b3).alloc (.cells #[.int .i64 r1, .slice A4 n4 c4] 24))
  replace X := Lib.hid ((X.out.below b3).alloc (.cells #[.int .i64 r1, .slice A4 n4 c4] 24))
  replace B := Lib.hid (bup (bup B.out b3) (bnew w3 (.cells #[.int .i64 r1, .slice A4 n4 c4] 24)))
  replace I0 := Lib.hid ((I0.out.below b3).alloc (.cells #[.int .i64 r1, .slice A4 n4 c4] 24))
  have Q := Lib.hid (Has.new w3 (.cells #[.int .i64 r1, .slice A4 n4 c4] 24))
  have K := Lib.hid (J4.alloc (.cells #[.int .i64 r1, .slice A4 n4 c4] 24))
  clear b3 J4
  go_upto_region 6 with (fail)
  generalize hw4 : World.alloc w3 _ = w4
  rw [hw4] at P X B I0 Q K
  clear hw4
  have p0 := P.out.cell 0 _ rfl
  have p1 := P.out.cell 1 _ rfl
  obtain ⟨x0, x1, x2, x3, x4, x5, x6, x7, x8, x9, x10, x11, x12⟩ := EntAt.of X.out
  have q0 := Q.out.cell 0 _ rfl
  have q1 := Q.out.cell 1 _ rfl
  have hnn4 : n4 ≤ 100 := by have := K.out.len; have := hn4.out; omega
  go_wp2_with fail
  refine (C3.out _).mono ?_
  rintro e5 w5 ⟨rfl, b5⟩
  clear p0 p1 x0 x1 x2 x3 x4 x5 x6 x7 x8 x9 x10 x11 x12 q0 q1
  replace P := Lib.hid ((P.out.below b5).alloc (.cells #[.int .i64 2, .int .i64 cl, .int .i64 ep, .int .i64 mm, .int .i64 a, .int .i64 ls, .int .i64 pg, .int .i64 sl, .bool iu, .string ix, .bool wu, .string wd, .int .i64 pv] 30))
  replace X := Lib.hid ((X.out.below b5).alloc (.cells #[.int .i64 2, .int .i64 cl, .int .i64 ep, .int .i64 mm, .int .i64 a, .int .i64 ls, .int .i64 pg, .int .i64 sl, .bool iu, .string ix, .bool wu, .string wd, .int .i64 pv] 30))
  replace B := Lib.hid (bup (bup B.out b5) (bnew w5 (.cells #[.int .i64 2, .int .i64 cl, .int .i64 ep, .int .i64 mm, .int .i64 a, .int .i64 ls, .int .i64 pg, .int .i64 sl, .bool iu, .string ix, .bool wu, .string wd, .int .i64 pv] 30)))
  replace I0 := Lib.hid ((I0.out.below b5).alloc (.cells #[.int .i64 2, .int .i64 cl, .int .i64 ep, .int .i64 mm, .int .i64 a, .int .i64 ls, .int .i64 pg, .int .i64 sl, .bool iu, .string ix, .bool wu, .string wd, .int .i64 pv] 30))
  replace Q := Lib.hid ((Q.out.below b5).alloc (.cells #[.int .i64 2, .int .i64 cl, .int .i64 ep, .int .i64 mm, .int .i64 a, .int .i64 ls, .int .i64 pg, .int .i64 sl, .bool iu, .string ix, .bool wu, .string wd, .int .i64 pv] 30))
  replace K := Lib.hid ((K.out.below b5).alloc (.cells #[.int .i64 2, .int .i64 cl, .int .i64 ep, .int .i64 mm, .int .i64 a, .int .i64 ls, .int .i64 pg, .int .i64 sl, .bool iu, .string ix, .bool wu, .string wd, .int .i64 pv] 30))
  have Y := Lib.hid (Has.new w5 (.cells #[.int .i64 2, .int .i64 cl, .int .i64 ep, .int .i64 mm, .int .i64 a, .int .i64 ls, .int .i64 pg, .int .i64 sl, .bool iu, .string ix, .bool wu, .string wd, .int .i64 pv] 30))
  clear b5
  go_upto_region 9 with (fail)
  generalize hw6 : World.alloc w5 _ = w6
  rw [hw6] at P X B I0 Q K Y
  clear hw6
  have p0 := P.out.cell 0 _ rfl
  have p1 := P.out.cell 1 _ rfl
  obtain ⟨x0, x1, x2, x3, x4, x5, x6, x7, x8, x9, x10, x11, x12⟩ := EntAt.of X.out
  have q0 := Q.out.cell 0 _ rfl
  have q1 := Q.out.cell 1 _ rfl
  obtain ⟨y0, y1, y2, y3, y4, y5, y6, y7, y8, y9, y10, y11, y12⟩ := EntAt.of Y.out
  go_wp2_with fail
  refine (C5.out _ _ _ _ K.out hnn4).mono ?_
  rintro e7 w7 ⟨A6, n6, c6, rfl, J6, b7⟩
  clear p0 p1 x0 x1 x2 x3 x4 x5 x6 x7 x8 x9 x10 x11 x12 q0 q1 y0 y1 y2 y3 y4 y5 y6 y7 y8 y9 y10 y11 y12
  replace P := Lib.hid ((P.out.below b7).alloc (.cells #[.int .i64 a, .slice A6 n6 c6] 24))
  replace X := Lib.hid ((X.out.below b7).alloc (.cells #[.int .i64 a, .slice A6 n6 c6] 24))
  replace B := Lib.hid (bup (bup B.out b7) (bnew w7 (.cells #[.int .i64 a, .slice A6 n6 c6] 24)))
  replace I0 := Lib.hid ((I0.out.below b7).alloc (.cells #[.int .i64 a, .slice A6 n6 c6] 24))
  replace Q := Lib.hid ((Q.out.below b7).alloc (.cells #[.int .i64 a, .slice A6 n6 c6] 24))
  replace K := Lib.hid ((K.out.below b7).alloc (.cells #[.int .i64 a, .slice A6 n6 c6] 24))
  replace Y := Lib.hid ((Y.out.below b7).alloc (.cells #[.int .i64 a, .slice A6 n6 c6] 24))
  have Z := Lib.hid (Has.new w7 (.cells #[.int .i64 a, .slice A6 n6 c6] 24))
  have M := Lib.hid (J6.alloc (.cells #[.int .i64 a, .slice A6 n6 c6] 24))
  clear b7 J6
  go_upto_region 12 with (fail)
  generalize hw8 : World.alloc w7 _ = w8
  rw [hw8] at P X B I0 Q K Y Z M
  clear hw8
  have p0 := P.out.cell 0 _ rfl
  have p1 := P.out.cell 1 _ rfl
  obtain ⟨x0, x1, x2, x3, x4, x5, x6, x7, x8, x9, x10, x11, x12⟩ := EntAt.of X.out
  have q0 := Q.out.cell 0 _ rfl
  have q1 := Q.out.cell 1 _ rfl
  obtain ⟨y0, y1, y2, y3, y4, y5, y6, y7, y8, y9, y10, y11, y12⟩ := EntAt.of Y.out
  have z0 := Z.out.cell 0 _ rfl
  have z1 := Z.out.cell 1 _ rfl
  have hn6 : n6 = n := by have h1 := M.out.len; have h2 := HlenL.out; omega
  subst hn6
  go_upto_region 14 with (fail)
  clear p0 p1 x0 x1 x2 x3 x4 x5 x6 x7 x8 x9 x10 x11 x12 q0 q1 y0 y1 y2 y3 y4 y5 y6 y7 y8 y9 y10 y11 y12 z0 z1
  obtain ⟨wb, hwb⟩ : ∃ wb : World, wb = w8 := ⟨_, rfl⟩
  rw [← hwb] at P B I0 Z M ⊢
  clear hwb Q K X Y
  go_wp2_with fail
  go_loopw [15] (fun i wr => ∃ j : Nat, j ≤ 32 ∧ i = .int .i64 j ∧ Hid (Below wb.heap.size wb wr)) (fun i _ => 32 - (intOf i).toNat)
  case atStart => exact ⟨0, by omega, rfl, Lib.hid (Below.refl _ _)⟩
  case round =>
    obtain ⟨j, hj, rfl, D⟩ := hrel
    have P0 := Lib.hid (P.out.below D.out)
    have Z0 := Lib.hid (Z.out.below D.out)
    have J0 := Lib.hid (I0.out.below D.out)
    have K0 := Lib.hid (M.out.below D.out)
    by_cases hlt : j < 32
    · have C4 := CB1.out j
      have C6 := fun A n c => CB2.out A n c j
      rw [HEQ.out j] at C6
      obtain ⟨y, hy⟩ : ∃ y, slAt lsn l (j : Int) = y := ⟨_, rfl⟩
      rw [hy] at C4 C6
      clear hy
      obtain ⟨yu, yd⟩ := y
      replace C4 := Lib.hid C4
      replace C6 := Lib.hid C6
      go_upto_region 17 with (fail)
      have p0 := cell_regrown (P0.out.cell 0 _ rfl)
      have p1 := cell_regrown (P0.out.cell 1 _ rfl)
      have z0 := cell_regrown (Z0.out.cell 0 _ rfl)
      have z1 := cell_regrown (Z0.out.cell 1 _ rfl)
      have h1 := J0.out
      have h2 := K0.out
      have c1 := fun d os => Calls.regrown_of (C4.out (grow (redrawn wr d) os) (h1.below (below_regrown _ _ _)))
      have c2 := fun d os => Calls.regrown_of (C6.out _ _ _ (grow (redrawn wr d) os) (h2.below (below_regrown _ _ _)))
      replace h1 := Lib.hid h1
      replace h2 := Lib.hid h2
      have CE := fun w => slNeqBin ⟨yu, yd⟩ ⟨yu, yd⟩ w
      rw [(slEq_iff _ _).2 rfl] at CE
      refine wp_region_quiet_below (by kernel_rfl) (by kernel_rfl) ?_
      repeat (quiet_step (first | (with_reducible exact c1 _ _) | (with_reducible exact c2 _ _)))
      refine wpQuiet_nil ?_
      intro _ hw7
      obtain ⟨⟨dq, osq⟩, hw8⟩ := hw7
      subst hw8
      go_wp2_with fail
      go_roundw
      case rel => exact ⟨j + 1, by omega, by go_num, Lib.hid (bup D.out (below_regrown _ _ _))⟩
      case measure => simp [intOf]; omega
    · obtain rfl : j = 32 := by omega
      have p1 := P0.out.cell 1 _ rfl
      have z1 := Z0.out.cell 1 _ rfl
      go_wp2_with fail
      go_ret
      refine ⟨?_, bup B.out D.out⟩
      first | rfl | exact congrArg (fun b => Ending.returned (.bool b)) (by simp)
end Go.Proofs.Ytpgeiopknjfdmaa
