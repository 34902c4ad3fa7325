/-
  The walk of a statement of layer 5: one slot alone.
-/
import Derived.Test.YtpgeiopknjfdmaaPaL1
import Derived.Test.YtpgeiopknjfdmaaPaF2
namespace Go.Proofs.Ytpgeiopknjfdmaa
open Go.RowKit Go.Sort
set_option linter.unusedVariables false
set_option linter.unusedSimpArgs false

set_option maxRecDepth 100000 in
set_option maxHeartbeats 16000000 in
theorem PatchApart_walk (lsn : Int) (A : Option Addr) (n c : Nat) (l : List Sl) (w : World) (I : IsSlots w A n c l) (_ : (Lit.int .i64 lsn).wf = true) (x : Ent) (hw : x.wd.size ≤ 140737488351232) (hi : x.ix.size ≤ 140737488351232) :
    Calls Try.prog 8 #[.agg #[.int .i64 lsn, .slice A n c], x.val] w fun e w' => e = .returned (.bool true) ∧ Below w.heap.size w w' := by
  have CA := Lib.hid paAwake_any
  have hlen := I.len
  have CG := fun (w : World) h => paGreat_any lsn A n c l (some ⟨w.heap.size, 0, none⟩) 1 1 [x] (w.alloc (.cells x.row 30)) h (one_ents x w hw hi)
  obtain ⟨G, hG⟩ : ∃ G, paGreat l [x] = G := ⟨_, rfl⟩
  have HN : Hid (G = false → n ≤ 100) := Lib.hid (fun e => by have := paGreat_small (hG.trans e); omega)
  rw [hG] at CG
  have C1 := fun w h hn => redo_any lsn A n c l x w h hn hw hi
  have HAT := fun (h : (redoR lsn l x).2.2.2 = 0) => redo_at h
  have HNO := fun (h : (redoR lsn l x).2.2.2 ≠ 0) => redo_not h
  have HLS : (redoR lsn l x).2.2.2 = 0 → ((redoR lsn l x).2.2.1 = false ∧ (redoR lsn l x).1 = lsn) ∨ ((redoR lsn l x).2.2.1 = true ∧ (redoR lsn l x).1 = x.lsn ∧ lsn < x.lsn) := fun h => by
    obtain ⟨_, _, _, h4⟩ := redo_ok h
    rcases h4 with ⟨_, e⟩ | ⟨h5, _, _, _, _, _, e⟩
    · exact .inl (by rw [e]; exact ⟨rfl, rfl⟩)
    · exact .inr (by rw [e]; exact ⟨rfl, rfl, h5⟩)
  obtain ⟨R, hR⟩ : ∃ R, redoR lsn l x = R := ⟨_, rfl⟩
  rw [hR] at C1 HAT HNO HLS
  obtain ⟨r1, r2, r3, r4⟩ := R
  have CB1 := Lib.hid (fun (j : Nat) w h => pat_any lsn A n c l (j : Int) w h)
  have CB2 := Lib.hid (fun A n c (j : Nat) w h => pat_any r1 A n c r2 (j : Int) w h)
  have CZ := fun A n c w h1 => psame_any 0 A n c [] 0 none 0 0 [] w h1 (IsSlots.nil w)
  rw [(pgSame_iff 0 0 [] []).2 ⟨rfl, rfl⟩] at CZ
  replace CZ := Lib.hid CZ
  clear hG hR
  obtain ⟨k, cl, ep, mm, ls, pv, pg, sl, wu, wd, iu, ix, nx⟩ := x
  simp only [Ent.val, Ent.row, Ent.is] at CG C1 HAT HLS hi ⊢
  replace CG := Lib.hid CG
  replace C1 := Lib.hid C1
  replace HAT := Lib.hid HAT
  replace HNO := Lib.hid HNO
  replace HLS := Lib.hid HLS
  go_enter Try.func8, Try.ntmps8
  go_upto_region 1 with (fail)
  have P := Lib.hid ((Has.new w (.cells #[.int .i64 lsn, .slice A n c] 24)).alloc (.cells #[.int .i64 k, .int .i64 cl, .int .i64 ep, .int .i64 mm, .int .i64 ls, .int .i64 pv, .int .i64 pg, .int .i64 sl, .bool wu, .string wd, .bool iu, .string ix, .int .i64 nx] 30))
  have X := Lib.hid (Has.new1 w (.cells #[.int .i64 lsn, .slice A n c] 24) (.cells #[.int .i64 k, .int .i64 cl, .int .i64 ep, .int .i64 mm, .int .i64 ls, .int .i64 pv, .int .i64 pg, .int .i64 sl, .bool wu, .string wd, .bool iu, .string ix, .int .i64 nx] 30))
  have B : Hid (Below w.heap.size w ((w.alloc (.cells #[.int .i64 lsn, .slice A n c] 24)).alloc (.cells #[.int .i64 k, .int .i64 cl, .int .i64 ep, .int .i64 mm, .int .i64 ls, .int .i64 pv, .int .i64 pg, .int .i64 sl, .bool wu, .string wd, .bool iu, .string ix, .int .i64 nx] 30))) := Lib.hid (bup (bnew w _) (bnew _ _))
  have I0 := Lib.hid (I.below B.out)
  generalize hw0 : World.alloc (World.alloc w _) _ = w0
  rw [hw0] at P X B I0
  clear hw0 I
  go_wp2_with fail
  refine (CA.out _).mono ?_
  rintro e1 w1 ⟨rfl, b1⟩
  replace P := Lib.hid (P.out.below b1)
  replace X := Lib.hid (X.out.below b1)
  replace B := Lib.hid (bup B.out b1)
  replace I0 := Lib.hid (I0.out.below b1)
  clear b1
  have p0 := P.out.cell 0 _ rfl
  have p1 := P.out.cell 1 _ rfl
  obtain ⟨x0, x1, x2, x3, x4, x5, x6, x7, x8, x9, x10, x11, x12⟩ := EntAt.of X.out
  have IE := Lib.hid (I0.out.alloc (.cells #[.int .i64 k, .int .i64 cl, .int .i64 ep, .int .i64 mm, .int .i64 ls, .int .i64 pv, .int .i64 pg, .int .i64 sl, .bool wu, .string wd, .bool iu, .string ix, .int .i64 nx] 30))
  go_wp2_with fail
  refine (CG.out w1 IE.out).mono ?_
  rintro e2 w2 ⟨rfl, b2'⟩
  have b2 := bup (bnew w1 (.cells #[.int .i64 k, .int .i64 cl, .int .i64 ep, .int .i64 mm, .int .i64 ls, .int .i64 pv, .int .i64 pg, .int .i64 sl, .bool wu, .string wd, .bool iu, .string ix, .int .i64 nx] 30)) b2'
  clear b2' IE
  clear p0 p1 x0 x1 x2 x3 x4 x5 x6 x7 x8 x9 x10 x11 x12
  replace P := Lib.hid (P.out.below b2)
  replace X := Lib.hid (X.out.below b2)
  replace B := Lib.hid (bup B.out b2)
  replace I0 := Lib.hid (I0.out.below b2)
  clear b2
  have p0 := P.out.cell 0 _ rfl
  have p1 := P.out.cell 1 _ rfl
  obtain ⟨x0, x1, x2, x3, x4, x5, x6, x7, x8, x9, x10, x11, x12⟩ := EntAt.of X.out
  cases G with
  | true =>
    go_wp2_with fail
    go_ret
    exact ⟨rfl, B.out⟩
  | false =>
  have hn := HN.out rfl
  by_cases hr4 : r4 = 0
  case neg =>
    have hno := HNO.out hr4
    simp only [Prod.mk.injEq] at hno
    obtain ⟨rfl, rfl, rfl, _⟩ := hno
    have hqb : ((r4 : Int) != 0) = true := by simp [hr4]
    clear HAT HLS HNO hr4
    go_wp2_with fail
    refine (C1.out _ I0.out hn).mono ?_
    rintro e3 w3 ⟨A4, n4, c4, rfl, J4, b3⟩
    clear p0 p1 x0 x1 x2 x3 x4 x5 x6 x7 x8 x9 x10 x11 x12
    replace P := Lib.hid ((P.out.below b3).alloc (.cells #[.int .i64 0, .slice A4 n4 c4] 24))
    replace X := Lib.hid ((X.out.below b3).alloc (.cells #[.int .i64 0, .slice A4 n4 c4] 24))
    replace B := Lib.hid (bup (bup B.out b3) (bnew w3 (.cells #[.int .i64 0, .slice A4 n4 c4] 24)))
    replace I0 := Lib.hid ((I0.out.below b3).alloc (.cells #[.int .i64 0, .slice A4 n4 c4] 24))
    have Q := Lib.hid (Has.new w3 (.cells #[.int .i64 0, .slice A4 n4 c4] 24))
    have K := Lib.hid (J4.alloc (.cells #[.int .i64 0, .slice A4 n4 c4] 24))
    clear b3 J4
    go_upto_region 6 with (fail)
    generalize hw4 : World.alloc w3 _ = w4
    rw [hw4] at P X B I0 Q K
    clear hw4
    have p0 := P.out.cell 0 _ rfl
    have p1 := P.out.cell 1 _ rfl
    obtain ⟨x0, x1, x2, x3, x4, x5, x6, x7, x8, x9, x10, x11, x12⟩ := EntAt.of X.out
    have q0 := Q.out.cell 0 _ rfl
    have q1 := Q.out.cell 1 _ rfl
    go_wp2_with fail
    refine (CZ.out _ _ _ _ K.out).mono ?_
    rintro e5 w5 ⟨rfl, b5⟩
    clear p0 p1 x0 x1 x2 x3 x4 x5 x6 x7 x8 x9 x10 x11 x12 q0 q1
    replace P := Lib.hid (P.out.below b5)
    replace X := Lib.hid (X.out.below b5)
    replace B := Lib.hid (bup B.out b5)
    replace I0 := Lib.hid (I0.out.below b5)
    replace Q := Lib.hid (Q.out.below b5)
    replace K := Lib.hid (K.out.below b5)
    clear b5
    have p0 := P.out.cell 0 _ rfl
    have p1 := P.out.cell 1 _ rfl
    obtain ⟨x0, x1, x2, x3, x4, x5, x6, x7, x8, x9, x10, x11, x12⟩ := EntAt.of X.out
    have q0 := Q.out.cell 0 _ rfl
    have q1 := Q.out.cell 1 _ rfl
    go_wp2_with fail
    go_ret
    exact ⟨congrArg (fun b => Ending.returned (.bool b)) (by simp), B.out⟩
  subst hr4
  have HAT2 : Hid (∀ j : Nat, slAt r1 r2 (j : Int) = if r3 = true ∧ (j : Int) = sl then ⟨iu, ix⟩ else slAt lsn l (j : Int)) := Lib.hid (fun j => HAT.out rfl j)
  have hls := HLS.out rfl
  clear HNO HLS
  go_wp2_with fail
  refine (C1.out _ I0.out hn).mono ?_
  rintro e3 w3 ⟨A4, n4, c4, rfl, J4, b3⟩
  clear p0 p1 x0 x1 x2 x3 x4 x5 x6 x7 x8 x9 x10 x11 x12
  replace P := Lib.hid ((P.out.below b3).alloc (.cells #[.int .i64 r1, .slice A4 n4 c4] 24))
  replace X := Lib.hid ((X.out.below b3).alloc (.cells #[.int .i64 r1, .slice A4 n4 c4] 24))
  replace B := Lib.hid (bup (bup B.out b3) (bnew w3 (.cells #[.int .i64 r1, .slice A4 n4 c4] 24)))
  replace I0 := Lib.hid ((I0.out.below b3).alloc (.cells #[.int .i64 r1, .slice A4 n4 c4] 24))
  have Q := Lib.hid (Has.new w3 (.cells #[.int .i64 r1, .slice A4 n4 c4] 24))
  have K := Lib.hid (J4.alloc (.cells #[.int .i64 r1, .slice A4 n4 c4] 24))
  clear b3 J4
  go_upto_region 6 with (fail)
  generalize hw4 : World.alloc w3 _ = w4
  rw [hw4] at P X B I0 Q K
  clear hw4
  obtain ⟨wb, hwb⟩ : ∃ wb : World, wb = w4 := ⟨_, rfl⟩
  rw [← hwb] at P X B I0 Q K ⊢
  clear hwb
  go_wp2_with fail
  go_loopw [8] (fun i wr => ∃ j : Nat, j ≤ 32 ∧ i = .int .i64 j ∧ Hid (Below wb.heap.size wb wr)) (fun i _ => 32 - (intOf i).toNat)
  case atStart => exact ⟨0, by omega, rfl, Lib.hid (Below.refl _ _)⟩
  case round =>
    obtain ⟨j, hj, rfl, D⟩ := hrel
    have P0 := Lib.hid (P.out.below D.out)
    have X0 := Lib.hid (X.out.below D.out)
    have Q0 := Lib.hid (Q.out.below D.out)
    have J0 := Lib.hid (I0.out.below D.out)
    have K0 := Lib.hid (K.out.below D.out)
    by_cases hlt : j < 32
    · have hat := HAT2.out j
      have C4 := CB1.out j
      have C5 := fun A n c => CB2.out A n c j
      obtain ⟨y, hy⟩ : ∃ y, slAt lsn l (j : Int) = y := ⟨_, rfl⟩
      obtain ⟨z, hz⟩ : ∃ z, slAt r1 r2 (j : Int) = z := ⟨_, rfl⟩
      rw [hy] at hat C4
      rw [hz] at hat C5
      clear hy hz
      obtain ⟨yu, yd⟩ := y
      have hc3 : (r3 = false ∧ z = ⟨yu, yd⟩) ∨ (r3 = true ∧ ((j : Int) == sl) = true ∧ z = ⟨iu, ix⟩) ∨ (r3 = true ∧ ((j : Int) == sl) = false ∧ z = ⟨yu, yd⟩) := by
        cases r3 with
        | false => exact .inl ⟨rfl, by rw [hat, if_neg (by simp)]⟩
        | true =>
          by_cases hjs : (j : Int) = sl
          · exact .inr (.inl ⟨rfl, by simp [hjs], by rw [hat, if_pos ⟨rfl, hjs⟩]⟩)
          · exact .inr (.inr ⟨rfl, by simp [hjs], by rw [hat, if_neg (fun e => hjs e.2)]⟩)
      clear hat
      replace C4 := Lib.hid C4
      replace C5 := Lib.hid C5
      clear hls
      rcases hc3 with ⟨rfl, rfl⟩ | ⟨rfl, hjs, rfl⟩ | ⟨rfl, hjs, rfl⟩
      · have p0 := P0.out.cell 0 _ rfl
        have p1 := P0.out.cell 1 _ rfl
        obtain ⟨x0, x1, x2, x3, x4, x5, x6, x7, x8, x9, x10, x11, x12⟩ := EntAt.of X0.out
        have q0 := Q0.out.cell 0 _ rfl
        have q1 := Q0.out.cell 1 _ rfl
        go_wp2_with fail
        refine (C4.out _ J0.out).mono ?_
        rintro e11 w11 ⟨rfl, b11⟩
        clear p0 p1 x0 x1 x2 x3 x4 x5 x6 x7 x8 x9 x10 x11 x12 q0 q1
        replace P0 := Lib.hid ((P0.out.below b11).alloc (.cells #[.bool yu, .string yd] 28))
        replace X0 := Lib.hid ((X0.out.below b11).alloc (.cells #[.bool yu, .string yd] 28))
        replace Q0 := Lib.hid ((Q0.out.below b11).alloc (.cells #[.bool yu, .string yd] 28))
        replace J0 := Lib.hid ((J0.out.below b11).alloc (.cells #[.bool yu, .string yd] 28))
        replace K0 := Lib.hid ((K0.out.below b11).alloc (.cells #[.bool yu, .string yd] 28))
        replace D := Lib.hid (bup (bup D.out b11) (bnew w11 (.cells #[.bool yu, .string yd] 28)))
        have S := Lib.hid (Has.new w11 (.cells #[.bool yu, .string yd] 28))
        clear b11
        go_upto_region 12 with (fail)
        generalize hw12 : World.alloc w11 _ = w12
        rw [hw12] at P0 X0 Q0 J0 K0 D S
        clear hw12
        have p0 := P0.out.cell 0 _ rfl
        have p1 := P0.out.cell 1 _ rfl
        obtain ⟨x0, x1, x2, x3, x4, x5, x6, x7, x8, x9, x10, x11, x12⟩ := EntAt.of X0.out
        have q0 := Q0.out.cell 0 _ rfl
        have q1 := Q0.out.cell 1 _ rfl
        have s0 := S.out.cell 0 _ rfl
        have s1 := S.out.cell 1 _ rfl
        go_upto_region 14 with (fail)
        clear p0 p1 x0 x1 x2 x3 x4 x5 x6 x7 x8 x9 x10 x11 x12 q0 q1 s0 s1
        have q0 := cell_regrown (Q0.out.cell 0 _ rfl)
        have q1 := cell_regrown (Q0.out.cell 1 _ rfl)
        have s0 := cell_regrown (S.out.cell 0 _ rfl)
        have s1 := cell_regrown (S.out.cell 1 _ rfl)
        have h1 := K0.out
        have c1 := fun d os => Calls.regrown_of (C5.out _ _ _ (grow (redrawn w12 d) os) (h1.below (below_regrown _ _ _)))
        replace h1 := Lib.hid h1
        have CE := fun w => slNeqBin ⟨yu, yd⟩ ⟨yu, yd⟩ w
        rw [(slEq_iff _ _).2 rfl] at CE
        refine wp_region_quiet_below (by kernel_rfl) (by kernel_rfl) ?_
        repeat (quiet_step (first | (with_reducible exact c1 _ _)))
        refine wpQuiet_nil ?_
        intro _ hw7
        obtain ⟨⟨dq, osq⟩, hw8⟩ := hw7
        subst hw8
        go_wp2_with fail
        go_roundw
        case rel => exact ⟨j + 1, by omega, by go_num, Lib.hid (bup D.out (below_regrown _ _ _))⟩
        case measure => simp [intOf]; omega
      · have p0 := P0.out.cell 0 _ rfl
        have p1 := P0.out.cell 1 _ rfl
        obtain ⟨x0, x1, x2, x3, x4, x5, x6, x7, x8, x9, x10, x11, x12⟩ := EntAt.of X0.out
        have q0 := Q0.out.cell 0 _ rfl
        have q1 := Q0.out.cell 1 _ rfl
        go_wp2_with fail
        refine (C4.out _ J0.out).mono ?_
        rintro e11 w11 ⟨rfl, b11⟩
        have hz11 : wb.heap.size ≤ w11.heap.size := Nat.le_trans D.out.size b11.size
        clear p0 p1 x0 x1 x2 x3 x4 x5 x6 x7 x8 x9 x10 x11 x12 q0 q1
        replace P0 := Lib.hid ((P0.out.below b11).alloc (.cells #[.bool yu, .string yd] 28))
        replace X0 := Lib.hid ((X0.out.below b11).alloc (.cells #[.bool yu, .string yd] 28))
        replace Q0 := Lib.hid ((Q0.out.below b11).alloc (.cells #[.bool yu, .string yd] 28))
        replace J0 := Lib.hid ((J0.out.below b11).alloc (.cells #[.bool yu, .string yd] 28))
        replace K0 := Lib.hid ((K0.out.below b11).alloc (.cells #[.bool yu, .string yd] 28))
        replace D := Lib.hid (bup (bup D.out b11) (bnew w11 (.cells #[.bool yu, .string yd] 28)))
        have S := Lib.hid (Has.new w11 (.cells #[.bool yu, .string yd] 28))
        clear b11
        go_upto_region 12 with (fail)
        generalize hw12 : World.alloc w11 _ = w12
        rw [hw12] at P0 X0 Q0 J0 K0 D S
        clear hw12
        have p0 := P0.out.cell 0 _ rfl
        have p1 := P0.out.cell 1 _ rfl
        obtain ⟨x0, x1, x2, x3, x4, x5, x6, x7, x8, x9, x10, x11, x12⟩ := EntAt.of X0.out
        have q0 := Q0.out.cell 0 _ rfl
        have q1 := Q0.out.cell 1 _ rfl
        have s0 := S.out.cell 0 _ rfl
        have s1 := S.out.cell 1 _ rfl
        have sf0 := S.out.free 0
        have sf1 := S.out.free 1
        have hgS : w11.heap.size < w12.heap.size := S.out.lt
        have hwbS := D.out.size
        have hsz11 : wb.heap.size ≤ w11.heap.size := hz11
        go_upto_region 14 with (fail)
        clear p0 p1 x0 x1 x2 x3 x4 x5 x6 x7 x8 x9 x10 x11 x12 q0 q1 s0 s1
        have S2 := Lib.hid ((S.out.set 0 (.bool iu)).set 1 (.string ix))
        have bs2 : But w11.heap.size w12 ((w12.setCell ⟨w11.heap.size, 0, none⟩ (.bool iu)).setCell ⟨w11.heap.size, 1, none⟩ (.string ix)) := (But.set _ 0 w12 _).trans (But.set _ 1 _ _)
        have D2 := Lib.hid (D.out.trans (bs2.below hsz11 hwbS))
        have Q2 := Lib.hid (Q.out.below D2.out)
        have K2 := Lib.hid (K.out.below D2.out)
        generalize hw13 : World.setCell _ _ _ = w13
        rw [hw13] at S2 Q2 K2 D2
        simp only [List.setIfInBounds_toArray, List.set_cons_succ, List.set_cons_zero] at S2
        clear hw13 sf0 sf1 bs2 S Q0 K0 D P0 X0 J0
        have q0 := cell_regrown (Q2.out.cell 0 _ rfl)
        have q1 := cell_regrown (Q2.out.cell 1 _ rfl)
        have s0 := cell_regrown (S2.out.cell 0 _ rfl)
        have s1 := cell_regrown (S2.out.cell 1 _ rfl)
        have h1 := K2.out
        have c1 := fun d os => Calls.regrown_of (C5.out _ _ _ (grow (redrawn w13 d) os) (h1.below (below_regrown _ _ _)))
        replace h1 := Lib.hid h1
        have CE := fun w => slNeqBin ⟨iu, ix⟩ ⟨iu, ix⟩ w
        rw [(slEq_iff _ _).2 rfl] at CE
        refine wp_region_quiet_below (by kernel_rfl) (by kernel_rfl) ?_
        repeat (quiet_step (first | (with_reducible exact c1 _ _)))
        refine wpQuiet_nil ?_
        intro _ hw7
        obtain ⟨⟨dq, osq⟩, hw8⟩ := hw7
        subst hw8
        go_wp2_with fail
        go_roundw
        case rel => exact ⟨j + 1, by omega, by go_num, Lib.hid (bup D2.out (below_regrown _ _ _))⟩
        case measure => simp [intOf]; omega
      · have p0 := P0.out.cell 0 _ rfl
        have p1 := P0.out.cell 1 _ rfl
        obtain ⟨x0, x1, x2, x3, x4, x5, x6, x7, x8, x9, x10, x11, x12⟩ := EntAt.of X0.out
        have q0 := Q0.out.cell 0 _ rfl
        have q1 := Q0.out.cell 1 _ rfl
        go_wp2_with fail
        refine (C4.out _ J0.out).mono ?_
        rintro e11 w11 ⟨rfl, b11⟩
        clear p0 p1 x0 x1 x2 x3 x4 x5 x6 x7 x8 x9 x10 x11 x12 q0 q1
        replace P0 := Lib.hid ((P0.out.below b11).alloc (.cells #[.bool yu, .string yd] 28))
        replace X0 := Lib.hid ((X0.out.below b11).alloc (.cells #[.bool yu, .string yd] 28))
        replace Q0 := Lib.hid ((Q0.out.below b11).alloc (.cells #[.bool yu, .string yd] 28))
        replace J0 := Lib.hid ((J0.out.below b11).alloc (.cells #[.bool yu, .string yd] 28))
        replace K0 := Lib.hid ((K0.out.below b11).alloc (.cells #[.bool yu, .string yd] 28))
        replace D := Lib.hid (bup (bup D.out b11) (bnew w11 (.cells #[.bool yu, .string yd] 28)))
        have S := Lib.hid (Has.new w11 (.cells #[.bool yu, .string yd] 28))
        clear b11
        go_upto_region 12 with (fail)
        generalize hw12 : World.alloc w11 _ = w12
        rw [hw12] at P0 X0 Q0 J0 K0 D S
        clear hw12
        have p0 := P0.out.cell 0 _ rfl
        have p1 := P0.out.cell 1 _ rfl
        obtain ⟨x0, x1, x2, x3, x4, x5, x6, x7, x8, x9, x10, x11, x12⟩ := EntAt.of X0.out
        have q0 := Q0.out.cell 0 _ rfl
        have q1 := Q0.out.cell 1 _ rfl
        have s0 := S.out.cell 0 _ rfl
        have s1 := S.out.cell 1 _ rfl
        go_upto_region 14 with (fail)
        clear p0 p1 x0 x1 x2 x3 x4 x5 x6 x7 x8 x9 x10 x11 x12 q0 q1 s0 s1
        have q0 := cell_regrown (Q0.out.cell 0 _ rfl)
        have q1 := cell_regrown (Q0.out.cell 1 _ rfl)
        have s0 := cell_regrown (S.out.cell 0 _ rfl)
        have s1 := cell_regrown (S.out.cell 1 _ rfl)
        have h1 := K0.out
        have c1 := fun d os => Calls.regrown_of (C5.out _ _ _ (grow (redrawn w12 d) os) (h1.below (below_regrown _ _ _)))
        replace h1 := Lib.hid h1
        have CE := fun w => slNeqBin ⟨yu, yd⟩ ⟨yu, yd⟩ w
        rw [(slEq_iff _ _).2 rfl] at CE
        refine wp_region_quiet_below (by kernel_rfl) (by kernel_rfl) ?_
        repeat (quiet_step (first | (with_reducible exact c1 _ _)))
        refine wpQuiet_nil ?_
        intro _ hw7
        obtain ⟨⟨dq, osq⟩, hw8⟩ := hw7
        subst hw8
        go_wp2_with fail
        go_roundw
        case rel => exact ⟨j + 1, by omega, by go_num, Lib.hid (bup D.out (below_regrown _ _ _))⟩
        case measure => simp [intOf]; omega
    · obtain rfl : j = 32 := by omega
      have p0 := P0.out.cell 0 _ rfl
      have q0 := Q0.out.cell 0 _ rfl
      have x4 := X0.out.cell 4 _ rfl
      rcases hls with ⟨rfl, rfl⟩ | ⟨rfl, rfl, hlt2⟩ <;>
      · go_wp2_with fail
        go_ret
        refine ⟨?_, bup B.out D.out⟩
        first | rfl | exact congrArg (fun b => Ending.returned (.bool b)) (by simp <;> omega)
end Go.Proofs.Ytpgeiopknjfdmaa
