/-
  The message of bytes, behind their check.
-/
import Derived.Test.YtakdagmkkelnfaaNoI
import Derived.Deep.Cut
namespace Go.Proofs.Ytakdagmkkelnfaa
open Go.RowKit Go.Sort NibPure SumPure
set_option linter.unusedVariables false
set_option linter.unusedSimpArgs false
attribute [local go_sem ↓] Go.wp_at_zero Go.wp_at_succ
set_option maxRecDepth 100000 in
theorem NDecPost.of {R R' : Ms × Int} {w : World} {e : Ending} {w' : World} (h : R = R') (p : NDecPost R' w e w') : NDecPost R w e w' := h ▸ p
set_option maxHeartbeats 64000000 in
set_option maxRecDepth 100000 in
theorem ndec_long (L : List UInt8) (w : World) (h4 : 4 ≤ L.length) (hl : L.length ≤ 9223372036854775807) :
    Calls Try.prog 11 #[.string (bs L)] w (NDecPost (decM L) w) := by
  obtain ⟨fs, hmu⟩ := msgUnd
  have Hu := Lib.hid hmu
  clear hmu
  obtain ⟨g, hg⟩ : ∃ g, getN (L.take 4) = g := ⟨_, rfl⟩
  obtain ⟨z, hz⟩ : ∃ z, sum (L.drop 4) = z := ⟨_, rfl⟩
  obtain ⟨DL, hDL⟩ : ∃ l, L.drop 4 = l := ⟨_, rfl⟩
  have hR : decM L = ((if g ≠ z then (Ms.zero, 20) else match decB DL with
    | none => (Ms.zero, 4)
    | some m => (m, 0)) : Ms × Int) := by unfold decM; rw [if_neg (by omega), hg, hz, hDL]; rfl
  have hzl : z < 4294967296 := by rw [← hz]; exact sum_lt _
  have hgl : g < 18446744073709551616 := by
    have := getN_lt (L.take 4)
    rw [List.length_take, Nat.min_eq_left h4, hg] at this
    omega
  have hdl : DL.length ≤ 9223372036854775807 := by rw [← hDL, List.length_drop]; omega
  have CG : Hid (∀ w, Calls Try.prog 20 #[.string (bs (L.take 4))] w fun e w' => e = .returned (.int .u64 (g : Int)) ∧ Below w.heap.size w w') := Lib.hid (fun w => by
    have := hget_any (bs (L.take 4)) (by rw [bs_size, List.length_take]; omega) w
    rw [bs_data, hg] at this
    exact this)
  have CS := Lib.hid (fun b w h => sumOf_one DL b w hdl h)
  rw [← hDL, hz, hDL] at CS
  obtain ⟨U, hU⟩ : ∃ U, bs L = U := ⟨_, rfl⟩
  have hU1 : U.extract 0 4 = bs (L.take 4) := by rw [← hU]; exact bs_take L 4
  have hU2 : U.extract 4 U.size = bs DL := by rw [← hU, ← hDL]; exact bs_skip L 4 _ (bs_size L)
  have hUs : (4 : Int) ≤ (U.size : Int) := by rw [← hU, bs_size]; omega
  have hUm : U.size ≤ 9223372036854775807 := by rw [← hU, bs_size]; omega
  obtain ⟨R, hRe⟩ : ∃ R, decM L = R := ⟨_, rfl⟩
  rw [hU, hRe]
  rw [hRe] at hR
  have hzw : IntKind.u64.wrap (z : Int) = (z : Int) := by rw [IntKind.wrap_u64]; omega
  have HR := Lib.hid hR
  clear hU hR hRe hg hz hDL h4 hl
  go_enter Try.func11, Try.ntmps11
  go_upto_region 3 with (fail)
  have O0 := Lib.hid (Has.new w (.cells #[.int .i64 0, .int .i64 0, .bool false, .bool false, .int .i64 0, .int .i64 0, .int .i64 0, .int .i64 0, .int .i64 0, .slice none 0 0, .slice none 0 0] 32))
  have B0 := Lib.hid (bnew w (.cells #[.int .i64 0, .int .i64 0, .bool false, .bool false, .int .i64 0, .int .i64 0, .int .i64 0, .int .i64 0, .int .i64 0, .slice none 0 0, .slice none 0 0] 32))
  generalize World.alloc w _ = wz at O0 B0 ⊢
  obtain ⟨nq, hnq⟩ : ∃ b, ((g : Int) != (z : Int)) = b := ⟨_, rfl⟩
  have hnn : (g != z) = nq := by
    rw [← hnq]
    by_cases h : g = z
    · subst h; simp
    · have h' : (g : Int) ≠ (z : Int) := by omega
      simp [bne, beq_false_of_ne h, beq_false_of_ne h']
  have HNQ := Lib.hid hnn
  go_cut [15] from 16 to 24 (fun v wx => v = .bool nq ∧ Hid (Below wz.heap.size wz wx))
  case first =>
    clear HR O0 B0
    first | (go_region_with
      (first
      | (go_at_call 20; ((with_reducible refine (CG.out _).mono ?_)); rintro e wG ⟨rfl, bG⟩; have hG := Lib.hid bG; clear bG)
      | (go_at_call 10; ((with_reducible refine (CS.out _ _ (Has.new _ _)).mono ?_)); rintro e wO ⟨rfl, bO⟩)
      | (go_at_call 10; ((with_reducible refine (CS.out _ _ ((Has.new _ _).below hG.out)).mono ?_)); rintro e wO ⟨rfl, bO⟩)
      | (go_at_call 10; ((with_reducible refine (CS.out _ _ (((Has.new _ _).drew).below hG.out)).mono ?_)); rintro e wO ⟨rfl, bO⟩))) | fail
    all_goals
      go_wp2_with fail
      go_meet
      refine ⟨rfl, Lib.hid ?_⟩
      first
      | exact bup ((Below.refl _ _).drew) (bup hG.out (bup (bnew _ _) bO))
      | exact bup ((bnew _ _).drew) (bup hG.out bO)
  case rest =>
  obtain ⟨rfl, BX⟩ := hcut
  have O1 := Lib.hid (O0.out.below BX.out)
  have B1 := Lib.hid (bup B0.out BX.out)
  clear O0 B0 BX CG CS hU1 hzw hnq hnn
  cases nq with
  | true =>
    have hgz : g ≠ z := by have := HNQ.out; simpa [bne] using this
    have hE := HR.out
    rw [if_pos hgz] at hE
    have HE : Hid (R = (Ms.zero, 20)) := Lib.hid hE
    clear HR hE
    go_wp2_with ((with_reducible refine at_store rfl ?_); refine wpList_put_row rfl _ _ _ rfl rfl w.heap.size _ rfl rfl _ _ O1.out (by kernel_rfl) rfl (by first | kernel_rfl | simp [Value.oneCell']) ?_; intro w8 Z8 B8)
    (try simp only [Exit.inBlock, Exit.then])
    refine bodyPost_ret (v := .tuple #[.agg #[.int .i64 0, .int .i64 0, .bool false, .bool false, .int .i64 0, .int .i64 0, .int .i64 0, .int .i64 0, .int .i64 0, .slice none 0 0, .slice none 0 0], .int .i64 20]) ?_ rfl (NDecPost.of HE.out ⟨_, rfl, ⟨none, 0, 0, none, 0, 0, rfl, IsSlots.nil _, IsEnts.nil _⟩, ?_⟩)
    · exact Eq.trans (results_cell_one (p := 2) (u := 3) rfl _ _ w.heap.size _ _ _ fs rfl Z8 Hu.out (by kernel_rfl)) rfl
    · exact B1.out.trans (B8.below (Nat.le_refl _) B1.out.size)
  | false =>
    have hgz : ¬ (g ≠ z) := by have := HNQ.out; simpa [bne] using this
    have hE := HR.out
    rw [if_neg hgz] at hE
    clear HR hgz HNQ
    obtain ⟨k, hk⟩ : ∃ k, (scI (DL, false)).1 = k := ⟨_, rfl⟩
    have hz0 := rd0_zero DL k hk
    have CI := Lib.hid (fun b w h => nscI_any b DL false w hdl h)
    rw [hk] at CI
    have h02 : (scI (DL, false)).2 = (rd0 DL).2 := rfl
    rw [h02] at CI
    obtain ⟨r0, hr0⟩ : ∃ r, rd0 DL = r := ⟨_, rfl⟩
    obtain ⟨r1, hr1⟩ : ∃ r, rd1 r0 = r := ⟨_, rfl⟩
    obtain ⟨r2, hr2⟩ : ∃ r, rd2 r1 = r := ⟨_, rfl⟩
    obtain ⟨r3, hr3⟩ : ∃ r, rd3 r2 = r := ⟨_, rfl⟩
    obtain ⟨r4, hr4⟩ : ∃ r, rd4 r3 = r := ⟨_, rfl⟩
    obtain ⟨r5, hr5⟩ : ∃ r, rd5 r4 = r := ⟨_, rfl⟩
    obtain ⟨r6, hr6⟩ : ∃ r, rd6 r5 = r := ⟨_, rfl⟩
    obtain ⟨r7, hr7⟩ : ∃ r, rd7 r6 = r := ⟨_, rfl⟩
    have hA : rdAll DL = r7 := by unfold rdAll; rw [hr0, hr1, hr2, hr3, hr4, hr5, hr6, hr7]
    have hdB : decB DL = if r7.2.2 = true ∨ r7.2.1 ≠ [] ∨ r7.1.good = false then none else some r7.1 := by unfold decB; rw [hA]
    rw [hdB] at hE
    have HE := Lib.hid hE
    clear hE
    rw [hr0] at hz0 CI
    have e0 : r0.1.kind = k := by rw [hz0]
    have e1 : r1.1.kind = k := by rw [← hr1, (k1 r0).1, e0]
    have e2 : r2.1.kind = k := by rw [← hr2, (k2 r1).1, e1]
    have e3 : r3.1.kind = k := by rw [← hr3, (k3 r2).1, e2]
    have e4 : r4.1.kind = k := by rw [← hr4, (k4 r3).1, e3]
    have e5 : r5.1.kind = k := by rw [← hr5, (k5 r4).1, e4]
    have e6 : r6.1.kind = k := by rw [← hr6, (k6 r5).1, e5]
    have s1 : r1 = if kP k then ({ r0.1 with page := (scI r0.2).1 }, (scI r0.2).2) else r0 := by rw [← hr1]; unfold rd1; rw [e0]
    have s2 : r2 = if kX k then ({ r1.1 with x := (scF r1.2).1 }, (scF r1.2).2) else r1 := by rw [← hr2]; unfold rd2; rw [e1]
    have s3 : r3 = if kN k then ({ r2.1 with need := (scF r2.2).1 }, (scF r2.2).2) else r2 := by rw [← hr3]; unfold rd3; rw [e2]
    have s4 : r4 = if kT k then rdT r3 else r3 := by rw [← hr4]; unfold rd4; rw [e3]
    have s5 : r5 = if kC k then ({ r4.1 with n := (scI r4.2).1 }, (scI r4.2).2) else r4 := by rw [← hr5]; unfold rd5; rw [e4]
    have s6 : r6 = if kI k r5.1.need then ({ r5.1 with lsn := (scP r5.2).1.1, sl := (scP r5.2).1.2 }, (scP r5.2).2) else r5 := by rw [← hr6]; unfold rd6; rw [e5]
    have s7 : r7 = if kE k then ({ r6.1 with en := (scE r6.2).1 }, (scE r6.2).2) else r6 := by rw [← hr7]; unfold rd7; rw [e6]
    have CSh := fun w => shapeOf_any k 0 false false 0 0 0 0 0 none 0 0 none 0 0 w
    obtain ⟨fp, g0⟩ : ∃ b, kP k = b := ⟨_, rfl⟩
    obtain ⟨fx, g1⟩ : ∃ b, kX k = b := ⟨_, rfl⟩
    obtain ⟨fn, g2⟩ : ∃ b, kN k = b := ⟨_, rfl⟩
    obtain ⟨ft, g3⟩ : ∃ b, kT k = b := ⟨_, rfl⟩
    obtain ⟨fc, g4⟩ : ∃ b, kC k = b := ⟨_, rfl⟩
    obtain ⟨fi0, g5⟩ : ∃ b, kI k false = b := ⟨_, rfl⟩
    obtain ⟨fe, g6⟩ : ∃ b, kE k = b := ⟨_, rfl⟩
    obtain ⟨bis, g7⟩ : ∃ b, kIs k = b := ⟨_, rfl⟩
    simp only [msgC, shC] at CSh
    rw [g0, g1, g2, g3, g4, g5, g6, g7] at CSh
    rw [g0] at s1
    rw [g1] at s2
    rw [g2] at s3
    rw [g3] at s4
    rw [g4] at s5
    rw [g6] at s7
    have CSh := Lib.hid CSh
    have S1 := Lib.hid s1
    have S2 := Lib.hid s2
    have S3 := Lib.hid s3
    have S4 := Lib.hid s4
    have S5 := Lib.hid s5
    have S6 := Lib.hid s6
    have S7 := Lib.hid s7
    have HZ0 := Lib.hid hz0
    have HKk := Lib.hid e5
    have HG := Lib.hid (And.intro g0 (And.intro g1 (And.intro g2 (And.intro g3 (And.intro g4 (And.intro g6 g7))))))
    have h0l : r0.2.1.length ≤ 9223372036854775807 := by rw [← hr0]; exact Nat.le_trans (scI_len (DL, false)) hdl
    clear hk h02 hr0 hr1 hr2 hr3 hr4 hr5 hr6 hr7 hA hdB e0 e1 e2 e3 e4 e5 e6 s1 s2 s3 s4 s5 s6 s7 g0 g1 g2 g3 g4 g5 g6 g7 hz0 hzl hgl hdl
    go_wp2_with fail
    refine (CI.out _ _ (Has.new _ _)).mono ?_
    rintro e w2 ⟨rfl, hc2, kc2⟩
    have C2 := Lib.hid hc2
    have OO2 : Hid (Has w2 w.heap.size (.cells #[.int .i64 0, .int .i64 0, .bool false, .bool false, .int .i64 0, .int .i64 0, .int .i64 0, .int .i64 0, .int .i64 0, .slice none 0 0, .slice none 0 0] 32)) := Lib.hid ((O1.out.alloc _).but kc2 (by have := O1.out.lt; omega))
    have BB2 : Hid (Below w.heap.size w w2) := Lib.hid ((bup B1.out (bnew _ _)).trans (kc2.below B1.out.size (by have := B1.out.size; simp; omega)))
    have hcb : w.heap.size < wc.heap.size := O1.out.lt
    have hcb2 : wc.heap.size < w2.heap.size := hc2.lt
    clear hc2 kc2 CI O1 B1
    go_wp2_with fail
    refine (CSh.out _).mono ?_
    rintro e w3 ⟨rfl, b3⟩
    have N0 : Hid (NSt w (w3.alloc (.cells #[.bool fp, .bool fx, .bool fn, .bool ft, .bool fc, .bool fi0, .bool fe] 55)) wc.heap.size w2.heap.size w3.heap.size #[.bool fp, .bool fx, .bool fn, .bool ft, .bool fc, .bool fi0, .bool fe] r0) := Lib.hid (by
      have bb := bup (bnew w2 (.cells #[.int .i64 k, .int .i64 0, .bool false, .bool false, .int .i64 0, .int .i64 0, .int .i64 0, .int .i64 0, .int .i64 0, .slice none 0 0, .slice none 0 0] 32)) (bup b3 (bnew w3 (.cells #[.bool fp, .bool fx, .bool fn, .bool ft, .bool fc, .bool fi0, .bool fe] 55)))
      refine ⟨C2.out.below bb, ⟨_, (((Has.new w2 (.cells #[.int .i64 k, .int .i64 0, .bool false, .bool false, .int .i64 0, .int .i64 0, .int .i64 0, .int .i64 0, .int .i64 0, .slice none 0 0, .slice none 0 0] 32)).below b3).alloc _), none, 0, 0, none, 0, 0, ?_, ?_, ?_⟩, Has.new w3 _, OO2.out.below bb, bup BB2.out bb, h0l, hcb, hcb2, ?_⟩
      · rw [HZ0.out]; rfl
      · rw [HZ0.out]; exact IsSlots.nil _
      · rw [HZ0.out]; exact IsEnts.nil _
      · have := b3.size; simp at this; omega)
    obtain ⟨cb, hcbe⟩ : ∃ c, wc.heap.size = c := ⟨_, rfl⟩
    obtain ⟨mb, hmbe⟩ : ∃ c, w2.heap.size = c := ⟨_, rfl⟩
    obtain ⟨sb, hsbe⟩ : ∃ c, w3.heap.size = c := ⟨_, rfl⟩
    clear b3 C2 OO2 BB2 CSh hcb hcb2 h0l HZ0
    go_upto_region 8 with (fail)
    rw [hcbe, hmbe, hsbe] at N0
    (try simp only [hcbe, hmbe, hsbe])
    generalize World.alloc w3 _ = w4 at N0 ⊢
    clear hcbe hmbe hsbe
    have y0 := N0.out.s.cell 0 _ rfl
    go_upto_if 39 with (fail)
    go_cut [] from 40 to 42 (fun wx => Hid (NSt w wx cb mb sb #[.bool fp, .bool fx, .bool fn, .bool ft, .bool fc, .bool fi0, .bool fe] r1))
    case first =>
      cases fp with
      | true =>
        have ee := S1.out
        simp only [if_true] at ee
        have CC := Lib.hid (fun w h => nscI_any cb r0.2.1 r0.2.2 w N0.out.len h)
        go_wp2_with fail
        refine (CC.out _ N0.out.c).mono ?_
        rintro e wy ⟨rfl, hc, kc⟩
        have N2 := Lib.hid (N0.out.scan hc kc (scI_len r0.2))
        clear hc kc CC
        obtain ⟨cs, hm, A, n, c, B, k', d, rfl, _, _⟩ := N2.out.m
        have pm := hm.cell 1 _ rfl
        have pf := hm.free 1
        have pl := hm.lt
        clear hm
        go_wp2_with fail
        go_meet
        exact Lib.hid (by rw [ee]; exact N2.out.set1 1 _ { r0.1 with page := (scI r0.2).1 } (fun _ _ _ _ _ _ => rfl) rfl rfl)
      | false =>
        have ee : r1 = r0 := by have := S1.out; simpa using this
        go_wp2_with fail
        go_meet
        exact Lib.hid (by rw [ee]; exact N0.out)
    case rest =>
    have N1 := Lib.hid hcut.out
    clear hcut N0 y0
    have N0 := N1
    clear N1
    have y1 := N0.out.s.cell 1 _ rfl
    go_upto_if 44 with (fail)
    go_cut [] from 45 to 47 (fun wx => Hid (NSt w wx cb mb sb #[.bool fp, .bool fx, .bool fn, .bool ft, .bool fc, .bool fi0, .bool fe] r2))
    case first =>
      cases fx with
      | true =>
        have ee := S2.out
        simp only [if_true] at ee
        have CC := Lib.hid (fun w h => nscF_any cb r1.2.1 r1.2.2 w N0.out.len h)
        go_wp2_with fail
        refine (CC.out _ N0.out.c).mono ?_
        rintro e wy ⟨rfl, hc, kc⟩
        have N2 := Lib.hid (N0.out.scan hc kc (scF_len r1.2))
        clear hc kc CC
        obtain ⟨cs, hm, A, n, c, B, k', d, rfl, _, _⟩ := N2.out.m
        have pm := hm.cell 2 _ rfl
        have pf := hm.free 2
        have pl := hm.lt
        clear hm
        go_wp2_with fail
        go_meet
        exact Lib.hid (by rw [ee]; exact N2.out.set1 2 _ { r1.1 with x := (scF r1.2).1 } (fun _ _ _ _ _ _ => rfl) rfl rfl)
      | false =>
        have ee : r2 = r1 := by have := S2.out; simpa using this
        go_wp2_with fail
        go_meet
        exact Lib.hid (by rw [ee]; exact N0.out)
    case rest =>
    have N1 := Lib.hid hcut.out
    clear hcut N0 y1
    have N0 := N1
    clear N1
    have y2 := N0.out.s.cell 2 _ rfl
    go_upto_if 49 with (fail)
    go_cut [] from 50 to 52 (fun wx => Hid (NSt w wx cb mb sb #[.bool fp, .bool fx, .bool fn, .bool ft, .bool fc, .bool fi0, .bool fe] r3))
    case first =>
      cases fn with
      | true =>
        have ee := S3.out
        simp only [if_true] at ee
        have CC := Lib.hid (fun w h => nscF_any cb r2.2.1 r2.2.2 w N0.out.len h)
        go_wp2_with fail
        refine (CC.out _ N0.out.c).mono ?_
        rintro e wy ⟨rfl, hc, kc⟩
        have N2 := Lib.hid (N0.out.scan hc kc (scF_len r2.2))
        clear hc kc CC
        obtain ⟨cs, hm, A, n, c, B, k', d, rfl, _, _⟩ := N2.out.m
        have pm := hm.cell 3 _ rfl
        have pf := hm.free 3
        have pl := hm.lt
        clear hm
        go_wp2_with fail
        go_meet
        exact Lib.hid (by rw [ee]; exact N2.out.set1 3 _ { r2.1 with need := (scF r2.2).1 } (fun _ _ _ _ _ _ => rfl) rfl rfl)
      | false =>
        have ee : r3 = r2 := by have := S3.out; simpa using this
        go_wp2_with fail
        go_meet
        exact Lib.hid (by rw [ee]; exact N0.out)
    case rest =>
    have N1 := Lib.hid hcut.out
    clear hcut N0 y2
    have N0 := N1
    clear N1
    have y3 := N0.out.s.cell 3 _ rfl
    go_upto_if 54 with (fail)
    go_cut [] from 55 to 62 (fun wx => Hid (NSt w wx cb mb sb #[.bool fp, .bool fx, .bool fn, .bool ft, .bool fc, .bool fi0, .bool fe] r4))
    case first =>
      cases ft with
      | true =>
        have ee := S4.out
        simp only [if_true] at ee
        have CC := Lib.hid (fun w h => nscI_any cb r3.2.1 r3.2.2 w N0.out.len h)
        have CC2 := Lib.hid (fun w l h => nscI_any cb (scI r3.2).2.1 (scI r3.2).2.2 w l h)
        have CC3 := Lib.hid (fun w l h => nscI_any cb (scI (scI r3.2).2).2.1 (scI (scI r3.2).2).2.2 w l h)
        go_wp2_with fail
        refine (CC.out _ N0.out.c).mono ?_
        rintro e wy ⟨rfl, hc, kc⟩
        have N2 := Lib.hid (N0.out.scan hc kc (scI_len r3.2))
        clear hc kc CC
        go_wp2_with fail
        refine (CC2.out _ N2.out.len N2.out.c).mono ?_
        rintro e wy2 ⟨rfl, hc, kc⟩
        have N3 := Lib.hid (N2.out.scan hc kc (scI_len (scI r3.2).2))
        clear hc kc CC2
        go_wp2_with fail
        refine (CC3.out _ N3.out.len N3.out.c).mono ?_
        rintro e wy3 ⟨rfl, hc, kc⟩
        have N4 := Lib.hid (N3.out.scan hc kc (scI_len (scI (scI r3.2).2).2))
        clear hc kc CC3
        obtain ⟨cs, hm, A, n, c, B, k', d, rfl, _, _⟩ := N4.out.m
        have pm5 := hm.cell 5 _ rfl
        have pm6 := hm.cell 6 _ rfl
        have pm7 := hm.cell 7 _ rfl
        have pf5 := hm.free 5
        have pf6 := hm.free 6
        have pf7 := hm.free 7
        have pl := hm.lt
        clear hm
        go_wp2_with fail
        go_meet
        exact Lib.hid (by rw [ee]; exact ((N4.out.set1 5 _ { r3.1 with tc := (scI r3.2).1 } (fun _ _ _ _ _ _ => rfl) rfl rfl).set1 6 _ { r3.1 with tc := (scI r3.2).1, te := (scI (scI r3.2).2).1 } (fun _ _ _ _ _ _ => rfl) rfl rfl).set1 7 _ { r3.1 with tc := (scI r3.2).1, te := (scI (scI r3.2).2).1, tn := (scI (scI (scI r3.2).2).2).1 } (fun _ _ _ _ _ _ => rfl) rfl rfl)
      | false =>
        have ee : r4 = r3 := by have := S4.out; simpa using this
        go_wp2_with fail
        go_meet
        exact Lib.hid (by rw [ee]; exact N0.out)
    case rest =>
    have N1 := Lib.hid hcut.out
    clear hcut N0 y3
    have N0 := N1
    clear N1
    have y4 := N0.out.s.cell 4 _ rfl
    go_upto_if 64 with (fail)
    go_cut [] from 65 to 67 (fun wx => Hid (NSt w wx cb mb sb #[.bool fp, .bool fx, .bool fn, .bool ft, .bool fc, .bool fi0, .bool fe] r5))
    case first =>
      cases fc with
      | true =>
        have ee := S5.out
        simp only [if_true] at ee
        have CC := Lib.hid (fun w h => nscI_any cb r4.2.1 r4.2.2 w N0.out.len h)
        go_wp2_with fail
        refine (CC.out _ N0.out.c).mono ?_
        rintro e wy ⟨rfl, hc, kc⟩
        have N2 := Lib.hid (N0.out.scan hc kc (scI_len r4.2))
        clear hc kc CC
        obtain ⟨cs, hm, A, n, c, B, k', d, rfl, _, _⟩ := N2.out.m
        have pm := hm.cell 4 _ rfl
        have pf := hm.free 4
        have pl := hm.lt
        clear hm
        go_wp2_with fail
        go_meet
        exact Lib.hid (by rw [ee]; exact N2.out.set1 4 _ { r4.1 with n := (scI r4.2).1 } (fun _ _ _ _ _ _ => rfl) rfl rfl)
      | false =>
        have ee : r5 = r4 := by have := S5.out; simpa using this
        go_wp2_with fail
        go_meet
        exact Lib.hid (by rw [ee]; exact N0.out)
    case rest =>
    have N1 := Lib.hid hcut.out
    clear hcut N0 y4
    have N0 := N1
    clear N1
    obtain ⟨cs, hm, A, n, c, B, k', d, rfl, hIS, hIE⟩ := N0.out.m
    have CSh := fun w => shapeOf_any r5.1.kind r5.1.page r5.1.x r5.1.need r5.1.n r5.1.tc r5.1.te r5.1.tn r5.1.lsn A n c B k' d w
    obtain ⟨fi, hfi⟩ : ∃ b, kI k r5.1.need = b := ⟨_, rfl⟩
    simp only [msgC, shC] at CSh
    rw [HKk.out] at CSh
    rw [HG.out.1, HG.out.2.1, HG.out.2.2.1, HG.out.2.2.2.1, HG.out.2.2.2.2.1, HG.out.2.2.2.2.2.1, HG.out.2.2.2.2.2.2, hfi] at CSh
    have HM := Lib.hid hm
    simp only [Ms.row, msgC] at HM
    rw [HKk.out] at HM
    have HFI := Lib.hid hfi
    replace CSh := Lib.hid CSh
    clear hm hIS hIE hfi
    have p0 := HM.out.cell 0 _ rfl
    have p1 := HM.out.cell 1 _ rfl
    have p2 := HM.out.cell 2 _ rfl
    have p3 := HM.out.cell 3 _ rfl
    have p4 := HM.out.cell 4 _ rfl
    have p5 := HM.out.cell 5 _ rfl
    have p6 := HM.out.cell 6 _ rfl
    have p7 := HM.out.cell 7 _ rfl
    have p8 := HM.out.cell 8 _ rfl
    have p9 := HM.out.cell 9 _ rfl
    have p10 := HM.out.cell 10 _ rfl
    go_wp2_with fail
    refine (CSh.out _).mono ?_
    rintro e w5 ⟨rfl, b5⟩
    clear p0 p1 p2 p3 p4 p5 p6 p7 p8 p9 p10 CSh HM
    have Y2 := Lib.hid (Has.new w5 (.cells #[.bool fp, .bool fx, .bool fn, .bool ft, .bool fc, .bool fi, .bool fe] 55))
    have N1 := Lib.hid (N0.out.below (bup b5 (bnew w5 (.cells #[.bool fp, .bool fx, .bool fn, .bool ft, .bool fc, .bool fi, .bool fe] 55))))
    clear N0 b5
    go_upto_region 19 with (fail)
    generalize World.alloc w5 _ = w6 at N1 Y2 ⊢
    have N0 := N1
    clear N1
    have z5 := Y2.out.cell 5 _ rfl
    go_upto_if 74 with (fail)
    go_cut [] from 75 to 77 (fun wx => Hid (NSt w wx cb mb sb #[.bool fp, .bool fx, .bool fn, .bool ft, .bool fc, .bool fi0, .bool fe] r6))
    case first =>
      cases fi with
      | true =>
        have ee := S6.out
        rw [HFI.out] at ee
        simp only [if_true] at ee
        have CC := Lib.hid (fun w h => nscP_any cb r5.2.1 r5.2.2 w N0.out.len h)
        go_wp2_with fail
        refine (CC.out _ N0.out.c).mono ?_
        rintro e wy ⟨A2, n2, c2, rfl, hI, hc, kc⟩
        have N2 := Lib.hid (N0.out.scan hc kc (scP_len r5.2))
        have I2 := Lib.hid hI
        clear hc kc CC hI
        obtain ⟨cs, hm, A, n, c, B, k', d, rfl, _, _⟩ := N2.out.m
        have pm8 := hm.cell 8 _ rfl
        have pm9 := hm.cell 9 _ rfl
        have pf8 := hm.free 8
        have pf9 := hm.free 9
        have pl := hm.lt
        clear hm
        go_wp2_with fail
        go_meet
        exact Lib.hid (by rw [ee]; exact N2.out.img I2.out)
      | false =>
        have ee : r6 = r5 := by have := S6.out; rw [HFI.out] at this; simpa using this
        go_wp2_with fail
        go_meet
        exact Lib.hid (by rw [ee]; exact N0.out)
    case rest =>
    have N1 := Lib.hid hcut.out
    clear hcut N0 z5 Y2
    have N0 := N1
    clear N1
    have y6 := N0.out.s.cell 6 _ rfl
    go_upto_if 79 with (fail)
    go_cut [] from 80 to 82 (fun wx => Hid (NSt w wx cb mb sb #[.bool fp, .bool fx, .bool fn, .bool ft, .bool fc, .bool fi0, .bool fe] r7))
    case first =>
      cases fe with
      | true =>
        have ee := S7.out
        simp only [if_true] at ee
        have CC := Lib.hid (fun w h => nscE_any cb r6.2.1 r6.2.2 w N0.out.len h)
        go_wp2_with fail
        refine (CC.out _ N0.out.c).mono ?_
        rintro e wy ⟨A2, n2, c2, rfl, hI, _, hc, kc⟩
        have N2 := Lib.hid (N0.out.scan hc kc (scE_len r6.2))
        have I2 := Lib.hid hI
        clear hc kc CC hI
        obtain ⟨cs, hm, A, n, c, B, k', d, rfl, _, _⟩ := N2.out.m
        have pm := hm.cell 10 _ rfl
        have pf := hm.free 10
        have pl := hm.lt
        clear hm
        go_wp2_with fail
        go_meet
        exact Lib.hid (by rw [ee]; exact N2.out.ents I2.out)
      | false =>
        have ee : r7 = r6 := by have := S7.out; simpa using this
        go_wp2_with fail
        go_meet
        exact Lib.hid (by rw [ee]; exact N0.out)
    case rest =>
    have N1 := Lib.hid hcut.out
    clear hcut N0 y6
    have N0 := N1
    clear N1
    clear S1 S2 S3 S4 S5 S6 S7 HKk HG HFI
    obtain ⟨M, q, bd⟩ := r7
    obtain ⟨hC, ⟨cs, hm, A, n, c, B, k', d, rfl, hIS, hIE⟩, _, hO, hB, _, hn⟩ := N0.out
    have HC := Lib.hid hC
    have HO := Lib.hid hO
    have HB := Lib.hid hB
    have HIS := Lib.hid hIS
    have HIE := Lib.hid hIE
    have HM := Lib.hid hm
    have CGd := Lib.hid (fun w h1 h2 => ngood_any M A n c B k' d w h1 h2)
    (try simp only at HC HO HB HIS HIE)
    have c0 := HC.out.cell 0 _ rfl
    have c1 := HC.out.cell 1 _ rfl
    clear hC hm hIS hIE hO hB hn N0
    (try simp only)
    cases bd with
    | true =>
      have HE2 : Hid (R = (Ms.zero, 4)) := Lib.hid (by have hE := HE.out; rw [hE]; simp)
      clear HE
      go_wp2_with ((with_reducible refine at_store rfl ?_); refine wpList_put_row rfl _ _ _ rfl rfl w.heap.size _ rfl rfl _ _ HO.out (by kernel_rfl) rfl (by first | kernel_rfl | simp [Value.oneCell']) ?_; intro w8 Z8 B8)
      (try simp only [Exit.inBlock, Exit.then])
      refine bodyPost_ret (v := .tuple #[.agg #[.int .i64 0, .int .i64 0, .bool false, .bool false, .int .i64 0, .int .i64 0, .int .i64 0, .int .i64 0, .int .i64 0, .slice none 0 0, .slice none 0 0], .int .i64 4]) ?_ rfl (NDecPost.of HE2.out ⟨_, rfl, ⟨none, 0, 0, none, 0, 0, rfl, IsSlots.nil _, IsEnts.nil _⟩, ?_⟩)
      · exact Eq.trans (results_cell_one (p := 2) (u := 3) rfl _ _ w.heap.size _ _ _ fs rfl Z8 Hu.out (by kernel_rfl)) rfl
      · exact HB.out.trans (B8.below (Nat.le_refl _) HB.out.size)
    | false =>
      obtain ⟨UQ, hUQ⟩ : ∃ u, bs q = u := ⟨_, rfl⟩
      rw [hUQ] at c0
      by_cases hq : q = []
      · have hu1 : UQ.toList = [] := by rw [← hUQ, hq]; exact bs_toList []
        have hu2 : UQ.toList.isEmpty = true := by rw [hu1]; rfl
        have hu3 : (!UQ.toList.isEmpty) = false := by rw [hu1]; rfl
        have hq' : ¬ (q ≠ []) := by simpa using hq
        cases hgd : M.good with
        | false =>
          rw [hgd] at CGd
          have HE2 : Hid (R = (Ms.zero, 4)) := Lib.hid (by have hE := HE.out; rw [hE]; simp [hgd])
          clear HE
          simp only [Ms.row, msgC] at HM CGd
          clear hq hq' hgd hUQ
          have x0 := HM.out.cell 0 _ rfl
          have x1 := HM.out.cell 1 _ rfl
          have x2 := HM.out.cell 2 _ rfl
          have x3 := HM.out.cell 3 _ rfl
          have x4 := HM.out.cell 4 _ rfl
          have x5 := HM.out.cell 5 _ rfl
          have x6 := HM.out.cell 6 _ rfl
          have x7 := HM.out.cell 7 _ rfl
          have x8 := HM.out.cell 8 _ rfl
          have x9 := HM.out.cell 9 _ rfl
          have x10 := HM.out.cell 10 _ rfl
          go_wp2_with fail
          refine (CGd.out _ HIS.out HIE.out).mono ?_
          rintro e w7 ⟨rfl, b7⟩
          clear x0 x1 x2 x3 x4 x5 x6 x7 x8 x9 x10 CGd
          have HO := Lib.hid (HO.out.below b7)
          have HB := Lib.hid (bup HB.out b7)
          go_wp2_with ((with_reducible refine at_store rfl ?_); refine wpList_put_row rfl _ _ _ rfl rfl w.heap.size _ rfl rfl _ _ HO.out (by kernel_rfl) rfl (by first | kernel_rfl | simp [Value.oneCell']) ?_; intro w8 Z8 B8)
          (try simp only [Exit.inBlock, Exit.then])
          refine bodyPost_ret (v := .tuple #[.agg #[.int .i64 0, .int .i64 0, .bool false, .bool false, .int .i64 0, .int .i64 0, .int .i64 0, .int .i64 0, .int .i64 0, .slice none 0 0, .slice none 0 0], .int .i64 4]) ?_ rfl (NDecPost.of HE2.out ⟨_, rfl, ⟨none, 0, 0, none, 0, 0, rfl, IsSlots.nil _, IsEnts.nil _⟩, ?_⟩)
          · exact Eq.trans (results_cell_one (p := 2) (u := 3) rfl _ _ w.heap.size _ _ _ fs rfl Z8 Hu.out (by kernel_rfl)) rfl
          · exact HB.out.trans (B8.below (Nat.le_refl _) HB.out.size)
        | true =>
          rw [hgd] at CGd
          have HE2 : Hid (R = (M, 0)) := Lib.hid (by have hE := HE.out; rw [hE]; simp [hq, hgd])
          clear HE
          have HR2 := Lib.hid (rfl : M.row A n c B k' d = M.row A n c B k' d)
          obtain ⟨MR, hMR⟩ : ∃ r, M.row A n c B k' d = r := ⟨_, rfl⟩
          have HMR := Lib.hid hMR
          simp only [Ms.row, msgC] at HM CGd
          clear hq hq' hgd hUQ hMR HR2
          have x0 := HM.out.cell 0 _ rfl
          have x1 := HM.out.cell 1 _ rfl
          have x2 := HM.out.cell 2 _ rfl
          have x3 := HM.out.cell 3 _ rfl
          have x4 := HM.out.cell 4 _ rfl
          have x5 := HM.out.cell 5 _ rfl
          have x6 := HM.out.cell 6 _ rfl
          have x7 := HM.out.cell 7 _ rfl
          have x8 := HM.out.cell 8 _ rfl
          have x9 := HM.out.cell 9 _ rfl
          have x10 := HM.out.cell 10 _ rfl
          go_wp2_with fail
          refine (CGd.out _ HIS.out HIE.out).mono ?_
          rintro e w7 ⟨rfl, b7⟩
          clear x0 x1 x2 x3 x4 x5 x6 x7 x8 x9 x10 CGd
          have HO := Lib.hid (HO.out.below b7)
          have HB := Lib.hid (bup HB.out b7)
          have HM := Lib.hid (HM.out.below b7)
          have HIS := Lib.hid (HIS.out.below b7)
          have HIE := Lib.hid (HIE.out.below b7)
          have x0 := HM.out.cell 0 _ rfl
          have x1 := HM.out.cell 1 _ rfl
          have x2 := HM.out.cell 2 _ rfl
          have x3 := HM.out.cell 3 _ rfl
          have x4 := HM.out.cell 4 _ rfl
          have x5 := HM.out.cell 5 _ rfl
          have x6 := HM.out.cell 6 _ rfl
          have x7 := HM.out.cell 7 _ rfl
          have x8 := HM.out.cell 8 _ rfl
          have x9 := HM.out.cell 9 _ rfl
          have x10 := HM.out.cell 10 _ rfl
          go_wp2_with ((with_reducible refine at_store rfl ?_); refine wpList_put_row rfl _ _ _ rfl rfl w.heap.size _ rfl rfl _ _ HO.out (by kernel_rfl) rfl (by first | kernel_rfl | simp [Value.oneCell']) ?_; intro w8 Z8 B8)
          (try simp only [Exit.inBlock, Exit.then])
          refine bodyPost_ret (v := .tuple #[.agg #[.int .i64 M.kind, .int .i64 M.page, .bool M.x, .bool M.need, .int .i64 M.n, .int .i64 M.tc, .int .i64 M.te, .int .i64 M.tn, .int .i64 M.lsn, .slice A n c, .slice B k' d], .int .i64 0]) ?_ rfl (NDecPost.of HE2.out ⟨_, rfl, ⟨A, n, c, B, k', d, rfl, HIS.out.apartM (m := Ms.zero) HO.out B8, HIE.out.apart HO.out (by simp) B8⟩, ?_⟩)
          · exact Eq.trans (results_cell_one (p := 2) (u := 3) rfl _ _ w.heap.size _ _ _ fs rfl Z8 Hu.out (by kernel_rfl)) rfl
          · exact HB.out.trans (B8.below (Nat.le_refl _) HB.out.size)
      · have hu1 : UQ.toList ≠ [] := by rw [← hUQ, bs_toList]; exact hq
        have hu2 : UQ.toList.isEmpty = false := by cases h : UQ.toList with | nil => exact absurd h hu1 | cons a b => rfl
        have hu3 : (!UQ.toList.isEmpty) = true := by rw [hu2]; rfl
        have HE2 : Hid (R = (Ms.zero, 4)) := Lib.hid (by have hE := HE.out; rw [hE]; simp [hq])
        clear HE
        clear hq hUQ
        go_wp2_with ((with_reducible refine at_store rfl ?_); refine wpList_put_row rfl _ _ _ rfl rfl w.heap.size _ rfl rfl _ _ HO.out (by kernel_rfl) rfl (by first | kernel_rfl | simp [Value.oneCell']) ?_; intro w8 Z8 B8)
        (try simp only [Exit.inBlock, Exit.then])
        refine bodyPost_ret (v := .tuple #[.agg #[.int .i64 0, .int .i64 0, .bool false, .bool false, .int .i64 0, .int .i64 0, .int .i64 0, .int .i64 0, .int .i64 0, .slice none 0 0, .slice none 0 0], .int .i64 4]) ?_ rfl (NDecPost.of HE2.out ⟨_, rfl, ⟨none, 0, 0, none, 0, 0, rfl, IsSlots.nil _, IsEnts.nil _⟩, ?_⟩)
        · exact Eq.trans (results_cell_one (p := 2) (u := 3) rfl _ _ w.heap.size _ _ _ fs rfl Z8 Hu.out (by kernel_rfl)) rfl
        · exact HB.out.trans (B8.below (Nat.le_refl _) HB.out.size)
theorem ndec_any (s : ByteArray) (w : World) (hs : s.size ≤ 9223372036854775807) : Calls Try.prog 11 #[.string s] w (NDecPost (decM s.data.toList) w) := by
  have e : s.data.toList.length = s.size := Array.length_toList
  by_cases h : s.size < 4
  · have := ndec_short s w h
    rwa [show decM s.data.toList = (Ms.zero, 3) by unfold decM; rw [if_pos (by omega)]]
  · exact ndec_long s.data.toList w (by omega) (by omega)
end Go.Proofs.Ytakdagmkkelnfaa
