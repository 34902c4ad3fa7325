/-
  The message of bytes, as the document says it.
-/
import Derived.Test.YtakdagmkkelnfaaNoR3
import Derived.Test.YtakdagmkkelnfaaNoR6
import Derived.Test.YtakdagmkkelnfaaEntRenc
import Derived.Deep.Cut
namespace Go.Proofs.Ytakdagmkkelnfaa
open Go.RowKit Go.Sort NibPure SumPure
set_option linter.unusedVariables false
set_option linter.unusedSimpArgs false
attribute [local go_sem ↓] Go.wp_at_zero Go.wp_at_succ
theorem getN4 (a b c d : UInt8) : getN [a, b, c, d] = ((a.toNat * 256 + b.toNat) * 256 + c.toNat) * 256 + d.toNat := by simp [getN]
set_option maxRecDepth 100000 in
set_option maxHeartbeats 32000000 in
theorem rdc_short (s : ByteArray) (w : World) (hs : s.size < 4) :
    Calls Try.prog 18 #[.string s] w (NDecPost (Ms.zero, 3) w) := by
  obtain ⟨fs, hmu⟩ := msgUnd
  have Hu := Lib.hid hmu
  clear hmu
  have hsi : (s.size : Int) < 4 := by omega
  go_enter Try.func18, Try.ntmps18
  go_wp2_with fail
  (try simp only [Exit.inBlock, Exit.then])
  refine bodyPost_ret (v := .tuple #[.agg #[.int .i64 0, .int .i64 0, .bool false, .bool false, .int .i64 0, .int .i64 0, .int .i64 0, .int .i64 0, .int .i64 0, .slice none 0 0, .slice none 0 0], .int .i64 3]) ?_ rfl ⟨_, rfl, ⟨none, 0, 0, none, 0, 0, rfl, IsSlots.nil _, IsEnts.nil _⟩, ?_⟩
  · exact Eq.trans (results_cell_one (p := 2) (u := 3) rfl _ _ w.heap.size _ _ _ fs rfl (Has.new _ _) Hu.out (by kernel_rfl)) rfl
  · exact bnew w _
set_option maxHeartbeats 64000000 in
set_option maxRecDepth 100000 in
theorem rdc_long (L : List UInt8) (w : World) (h4 : 4 ≤ L.length) (hl : L.length ≤ 9223372036854775807) :
    Calls Try.prog 18 #[.string (bs L)] w (NDecPost (decM L) w) := by
  obtain ⟨fs, hmu⟩ := msgUnd
  have Hu := Lib.hid hmu
  clear hmu
  obtain ⟨g, hg⟩ : ∃ g, getN (L.take 4) = g := ⟨_, rfl⟩
  obtain ⟨z, hz⟩ : ∃ z, sum (L.drop 4) = z := ⟨_, rfl⟩
  obtain ⟨DL, hDL⟩ : ∃ l, L.drop 4 = l := ⟨_, rfl⟩
  have hR : decM L = ((if g ≠ z then (Ms.zero, 20) else match decB DL with
    | none => (Ms.zero, 4)
    | some m => (m, 0)) : Ms × Int) := by unfold decM; rw [if_neg (by omega), hg, hz, hDL]; rfl
  have hzl : z < 4294967296 := by rw [← hz]; exact sum_lt _
  have hdl : DL.length ≤ 9223372036854775807 := by rw [← hDL, List.length_drop]; omega
  have CS := fun w => refOf_any (bs DL) w (by rw [bs_size]; exact hdl)
  rw [bs_data, ← hDL, hz, hDL] at CS
  have CS := Lib.hid CS
  obtain ⟨c0, c1, c2, c3, T, hLT⟩ : ∃ c0 c1 c2 c3 T, L = c0 :: c1 :: c2 :: c3 :: T := by
    match L, h4 with
    | a :: b :: c :: d :: T, _ => exact ⟨a, b, c, d, T, rfl⟩
  have hg2 : ((c0.toNat * 256 + c1.toNat) * 256 + c2.toNat) * 256 + c3.toNat = g := by rw [← hg, hLT]; exact (getN4 c0 c1 c2 c3).symm
  obtain ⟨U, hU⟩ : ∃ U, bs L = U := ⟨_, rfl⟩
  have hU2 : U.extract 4 U.size = bs DL := by rw [← hU, ← hDL]; exact bs_skip L 4 _ (bs_size L)
  have hUs : 4 ≤ U.size := by rw [← hU, bs_size]; omega
  have hU0 : U[0]'(by omega) = c0 := by subst hLT; subst hU; rfl
  have hU1 : U[1]'(by omega) = c1 := by subst hLT; subst hU; rfl
  have hU3 : U[2]'(by omega) = c2 := by subst hLT; subst hU; rfl
  have hU4 : U[3]'(by omega) = c3 := by subst hLT; subst hU; rfl
  have hUm : U.size ≤ 9223372036854775807 := by rw [← hU, bs_size]; omega
  obtain ⟨R, hRe⟩ : ∃ R, decM L = R := ⟨_, rfl⟩
  rw [hU, hRe]
  rw [hRe] at hR
  have HR := Lib.hid hR
  clear hU hR hRe hg hz hDL h4 hl hLT
  go_enter Try.func18, Try.ntmps18
  go_upto_region 3 with (fail)
  have O0 := Lib.hid (Has.new w (.cells #[.int .i64 0, .int .i64 0, .bool false, .bool false, .int .i64 0, .int .i64 0, .int .i64 0, .int .i64 0, .int .i64 0, .slice none 0 0, .slice none 0 0] 32))
  have B0 := Lib.hid (bnew w (.cells #[.int .i64 0, .int .i64 0, .bool false, .bool false, .int .i64 0, .int .i64 0, .int .i64 0, .int .i64 0, .int .i64 0, .slice none 0 0, .slice none 0 0] 32))
  generalize World.alloc w _ = wz at O0 B0 ⊢
  have hgl : g < 4294967296 := by
    have := c0.toNat_lt
    have := c1.toNat_lt
    have := c2.toNat_lt
    have := c3.toNat_lt
    omega
  go_cut [4] from 19 to 36 (fun v wx => v = .int .u32 (g : Int) ∧ Hid (Below wz.heap.size wz wx))
  case first =>
    clear HR O0 B0 CS
    go_quiet (fail)
    go_wp2_with fail
    go_meet
    refine ⟨?_, Lib.hid ?_⟩
    · exact congrArg (Value.int IntKind.u32) (by omega)
    · exact draws_below _ _
  case rest =>
  obtain ⟨rfl, BX⟩ := hcut
  have O1 := Lib.hid (O0.out.below BX.out)
  have B1 := Lib.hid (bup B0.out BX.out)
  clear O0 B0 BX hU0 hU1 hU3 hU4 hg2 c0 c1 c2 c3 T
  obtain ⟨nq, hnq⟩ : ∃ b, ((z : Int) != (g : Int)) = b := ⟨_, rfl⟩
  have hnn : (g != z) = nq := by
    rw [← hnq]
    by_cases h : g = z
    · subst h; simp
    · have h' : (z : Int) ≠ (g : Int) := by omega
      simp [bne, beq_false_of_ne h, beq_false_of_ne h']
  have HNQ := Lib.hid hnn
  clear hnn
  have hUs4 : (4 : Int) ≤ (U.size : Int) := by omega
  go_wp2_with fail
  refine (CS.out _).mono ?_
  rintro e wS ⟨rfl, rfl⟩
  clear CS
  cases nq with
  | true =>
    have hgz : g ≠ z := by have := HNQ.out; simpa [bne] using this
    have hE := HR.out
    rw [if_pos hgz] at hE
    have HE : Hid (R = (Ms.zero, 20)) := Lib.hid hE
    clear HR hE
    go_wp2_with ((with_reducible refine at_store rfl ?_); refine wpList_put_row rfl _ _ _ rfl rfl w.heap.size _ rfl rfl _ _ O1.out (by kernel_rfl) rfl (by first | kernel_rfl | simp [Value.oneCell']) ?_; intro w8 Z8 B8)
    (try simp only [Exit.inBlock, Exit.then])
    refine bodyPost_ret (v := .tuple #[.agg #[.int .i64 0, .int .i64 0, .bool false, .bool false, .int .i64 0, .int .i64 0, .int .i64 0, .int .i64 0, .int .i64 0, .slice none 0 0, .slice none 0 0], .int .i64 20]) ?_ rfl (NDecPost.ofR HE.out ⟨_, rfl, ⟨none, 0, 0, none, 0, 0, rfl, IsSlots.nil _, IsEnts.nil _⟩, ?_⟩)
    · exact Eq.trans (results_cell_one (p := 2) (u := 3) rfl _ _ w.heap.size _ _ _ fs rfl Z8 Hu.out (by kernel_rfl)) rfl
    · exact B1.out.trans (B8.below (Nat.le_refl _) B1.out.size)
  | false =>
    have hgz : ¬ (g ≠ z) := by have := HNQ.out; simpa [bne] using this
    have hE := HR.out
    rw [if_neg hgz] at hE
    clear HR hgz HNQ
    obtain ⟨k, hk⟩ : ∃ k, (scI (DL, false)).1 = k := ⟨_, rfl⟩
    have hz0 := rd0_zero DL k hk
    have CI := Lib.hid (fun b w h => rcI_any b DL false w hdl h)
    rw [hk] at CI
    have h02 : (scI (DL, false)).2 = (rd0 DL).2 := rfl
    rw [h02] at CI
    obtain ⟨r0, hr0⟩ : ∃ r, rd0 DL = r := ⟨_, rfl⟩
    obtain ⟨r1, hr1⟩ : ∃ r, rd1 r0 = r := ⟨_, rfl⟩
    obtain ⟨r2, hr2⟩ : ∃ r, rd2 r1 = r := ⟨_, rfl⟩
    obtain ⟨r3, hr3⟩ : ∃ r, rd3 r2 = r := ⟨_, rfl⟩
    obtain ⟨r4, hr4⟩ : ∃ r, rd4 r3 = r := ⟨_, rfl⟩
    obtain ⟨r5, hr5⟩ : ∃ r, rd5 r4 = r := ⟨_, rfl⟩
    obtain ⟨r6, hr6⟩ : ∃ r, rd6 r5 = r := ⟨_, rfl⟩
    obtain ⟨r7, hr7⟩ : ∃ r, rd7 r6 = r := ⟨_, rfl⟩
    have hA : rdAll DL = r7 := by unfold rdAll; rw [hr0, hr1, hr2, hr3, hr4, hr5, hr6, hr7]
    have hdB : decB DL = if r7.2.2 = true ∨ r7.2.1 ≠ [] ∨ r7.1.good = false then none else some r7.1 := by unfold decB; rw [hA]
    rw [hdB] at hE
    have HE := Lib.hid hE
    clear hE
    rw [hr0] at hz0 CI
    have e0 : r0.1.kind = k := by rw [hz0]
    have e1 : r1.1.kind = k := by rw [← hr1, (k1 r0).1, e0]
    have e2 : r2.1.kind = k := by rw [← hr2, (k2 r1).1, e1]
    have e3 : r3.1.kind = k := by rw [← hr3, (k3 r2).1, e2]
    have e4 : r4.1.kind = k := by rw [← hr4, (k4 r3).1, e3]
    have e5 : r5.1.kind = k := by rw [← hr5, (k5 r4).1, e4]
    have e6 : r6.1.kind = k := by rw [← hr6, (k6 r5).1, e5]
    have n0 : r0.1.en = [] := by rw [hz0]
    have n6 : r6.1.en = [] := by rw [← hr6, (k6 r5).2.1, ← hr5, (k5 r4).2.1, ← hr4, (k4 r3).2.1, ← hr3, (k3 r2).2.1, ← hr2, (k2 r1).2.1, ← hr1, (k1 r0).2, n0]
    have l5 : r5.1.sl = [] := by rw [← hr5, sl5, ← hr4, sl4, ← hr3, sl3, ← hr2, sl2, ← hr1, sl1, hz0]
    have l6 : kE k = true → r6.1.sl = [] := fun h => by rw [← hr6]; unfold rd6; rw [e5, kE_kI h]; exact l5
    have bad7 : r6.2.2 = true → R = (Ms.zero, 4) := fun h => by
      have h7 := rd7_bad h
      rw [hr7] at h7
      have hE := HE.out
      rw [hE, if_pos (.inl h7)]
    have s1 : r1 = if kP k then ({ r0.1 with page := (scI r0.2).1 }, (scI r0.2).2) else r0 := by rw [← hr1]; unfold rd1; rw [e0]
    have s2 : r2 = if kX k then ({ r1.1 with x := (scF r1.2).1 }, (scF r1.2).2) else r1 := by rw [← hr2]; unfold rd2; rw [e1]
    have s3 : r3 = if kN k then ({ r2.1 with need := (scF r2.2).1 }, (scF r2.2).2) else r2 := by rw [← hr3]; unfold rd3; rw [e2]
    have s4 : r4 = if kT k then rdT r3 else r3 := by rw [← hr4]; unfold rd4; rw [e3]
    have s5 : r5 = if kC k then ({ r4.1 with n := (scI r4.2).1 }, (scI r4.2).2) else r4 := by rw [← hr5]; unfold rd5; rw [e4]
    have s6 : r6 = if kI k r5.1.need then ({ r5.1 with lsn := (scP r5.2).1.1, sl := (scP r5.2).1.2 }, (scP r5.2).2) else r5 := by rw [← hr6]; unfold rd6; rw [e5]
    have s7 : r7 = if kE k then ({ r6.1 with en := (scE r6.2).1 }, (scE r6.2).2) else r6 := by rw [← hr7]; unfold rd7; rw [e6]
    obtain ⟨q1, q2, q3, q4, q5, _, q7, _⟩ := hasL_in k false
    obtain ⟨_, _, _, _, _, q6, _, _⟩ := hasL_in k r5.1.need
    have CH := Lib.hid (fun w => rhas_any k 0 false false 0 0 0 0 0 none 0 0 none 0 0 w)
    have CP := Lib.hid (fun w => rletter_any 112 k false _ q1 w)
    have CX := Lib.hid (fun w => rletter_any 120 k false _ q2 w)
    have CN := Lib.hid (fun w => rletter_any 110 k false _ q3 w)
    have CT := Lib.hid (fun w => rletter_any 116 k false _ q4 w)
    have CC := Lib.hid (fun w => rletter_any 107 k false _ q5 w)
    have CL := Lib.hid (fun w => rletter_any 105 k r5.1.need _ q6 w)
    have CE := Lib.hid (fun w => rletter_any 101 k false _ q7 w)
    obtain ⟨UF, hUF⟩ : ∃ U, bs (hasL k false) = U := ⟨_, rfl⟩
    obtain ⟨fp, g0⟩ : ∃ b, kP k = b := ⟨_, rfl⟩
    obtain ⟨fx, g1⟩ : ∃ b, kX k = b := ⟨_, rfl⟩
    obtain ⟨fn, g2⟩ : ∃ b, kN k = b := ⟨_, rfl⟩
    obtain ⟨ft, g3⟩ : ∃ b, kT k = b := ⟨_, rfl⟩
    obtain ⟨fc, g4⟩ : ∃ b, kC k = b := ⟨_, rfl⟩
    obtain ⟨fi, g5⟩ : ∃ b, kI k r5.1.need = b := ⟨_, rfl⟩
    obtain ⟨fe, g6⟩ : ∃ b, kE k = b := ⟨_, rfl⟩
    rw [hUF] at CH CP CX CN CT CC CE
    rw [g0] at s1 CP
    rw [g1] at s2 CX
    rw [g2] at s3 CN
    rw [g3] at s4 CT
    rw [g4] at s5 CC
    rw [g5] at s6 CL
    rw [g6] at s7 CE l6
    have S1 := Lib.hid s1
    have S2 := Lib.hid s2
    have S3 := Lib.hid s3
    have S4 := Lib.hid s4
    have S5 := Lib.hid s5
    have S6 := Lib.hid s6
    have S7 := Lib.hid s7
    have HZ0 := Lib.hid hz0
    have HKk := Lib.hid e5
    have HN6 := Lib.hid n6
    have HL6 := Lib.hid l6
    have HB7 := Lib.hid bad7
    have h0l : r0.2.1.length ≤ 9223372036854775807 := by rw [← hr0]; exact Nat.le_trans (scI_len (DL, false)) hdl
    clear hk h02 hr0 hr1 hr2 hr3 hr4 hr5 hr6 hr7 hA hdB e0 e1 e2 e3 e4 e5 e6 n0 n6 l5 l6 bad7 s1 s2 s3 s4 s5 s6 s7 g0 g1 g2 g3 g4 g5 g6 hz0 hzl hgl hdl q1 q2 q3 q4 q5 q6 q7 hUF
    go_wp2_with fail
    refine (CI.out _ _ (Has.new _ _)).mono ?_
    rintro e w2 ⟨rfl, hc2, kc2⟩
    have C2 := Lib.hid hc2
    have OO2 : Hid (Has w2 w.heap.size (.cells #[.int .i64 0, .int .i64 0, .bool false, .bool false, .int .i64 0, .int .i64 0, .int .i64 0, .int .i64 0, .int .i64 0, .slice none 0 0, .slice none 0 0] 32)) := Lib.hid ((O1.out.alloc _).but kc2 (by have := O1.out.lt; omega))
    have BB2 : Hid (Below w.heap.size w w2) := Lib.hid ((bup B1.out (bnew _ _)).trans (kc2.below B1.out.size (by have := B1.out.size; simp; omega)))
    have hcb : w.heap.size < wc.heap.size := O1.out.lt
    have hcb2 : wc.heap.size < w2.heap.size := hc2.lt
    clear hc2 kc2 CI O1 B1
    go_upto_region 8 with (fail)
    have N0 : Hid (RSt w (w2.alloc (.cells #[.int .i64 k, .int .i64 0, .bool false, .bool false, .int .i64 0, .int .i64 0, .int .i64 0, .int .i64 0, .int .i64 0, .slice none 0 0, .slice none 0 0] 32)) wc.heap.size w2.heap.size none 0 0 none 0 0 r0) := Lib.hid (by
      have bb := bnew w2 (.cells #[.int .i64 k, .int .i64 0, .bool false, .bool false, .int .i64 0, .int .i64 0, .int .i64 0, .int .i64 0, .int .i64 0, .slice none 0 0, .slice none 0 0] 32)
      refine ⟨C2.out.below bb, ?_, ?_, ?_, OO2.out.below bb, bup BB2.out bb, h0l, hcb, hcb2⟩
      · rw [HZ0.out]; exact Has.new w2 _
      · rw [HZ0.out]; exact IsSlots.nil _
      · rw [HZ0.out]; exact IsEnts.nil _)
    obtain ⟨cb, hcbe⟩ : ∃ c, wc.heap.size = c := ⟨_, rfl⟩
    obtain ⟨mb, hmbe⟩ : ∃ c, w2.heap.size = c := ⟨_, rfl⟩
    clear C2 OO2 BB2 hcb hcb2 h0l
    rw [hcbe, hmbe] at N0
    (try simp only [hcbe, hmbe])
    generalize World.alloc w2 _ = w4 at N0 ⊢
    clear hcbe hmbe
    have hm := N0.out.fm
    rw [HZ0.out] at hm
    have HM := Lib.hid hm
    simp only [Ms.row, msgC] at HM
    clear hm HZ0
    have p0 := HM.out.cell 0 _ rfl
    have p1 := HM.out.cell 1 _ rfl
    have p2 := HM.out.cell 2 _ rfl
    have p3 := HM.out.cell 3 _ rfl
    have p4 := HM.out.cell 4 _ rfl
    have p5 := HM.out.cell 5 _ rfl
    have p6 := HM.out.cell 6 _ rfl
    have p7 := HM.out.cell 7 _ rfl
    have p8 := HM.out.cell 8 _ rfl
    have p9 := HM.out.cell 9 _ rfl
    have p10 := HM.out.cell 10 _ rfl
    go_wp2_with fail
    refine (CH.out _).mono ?_
    rintro e wb ⟨rfl, b1⟩
    clear p0 p1 p2 p3 p4 p5 p6 p7 p8 p9 p10 HM CH
    replace N0 := Lib.hid (N0.out.below b1)
    clear b1
    obtain ⟨A, n, c, N0⟩ : ∃ A n c, Hid (RSt w wb cb mb A n c none 0 0 r0) := ⟨_, _, _, N0⟩
    go_wp2_with fail
    refine (CP.out _).mono ?_
    rintro e wb ⟨rfl, b1⟩
    replace N0 := Lib.hid (N0.out.below b1)
    clear b1 CP
    go_upto_if 53 with (fail)
    go_cut [] from 54 to 56 (fun wx => ∃ A n c, Hid (RSt w wx cb mb A n c none 0 0 r1))
    case first =>
      cases fp with
      | true =>
        have ee := S1.out
        simp only [if_true] at ee
        have CC2 := Lib.hid (fun w h => rcI_any cb r0.2.1 r0.2.2 w N0.out.len h)
        go_wp2_with fail
        refine (CC2.out _ N0.out.fc).mono ?_
        rintro e wy ⟨rfl, hc, kc⟩
        have N2 := Lib.hid (N0.out.scan hc kc (scI_len r0.2))
        clear hc kc CC2
        have hm := N2.out.fm
        have pm := hm.cell 1 _ rfl
        have pf := hm.free 1
        have pl := hm.lt
        clear hm
        go_wp2_with fail
        go_meet
        exact ⟨A, n, c, Lib.hid (by rw [ee]; exact N2.out.set1 1 _ { r0.1 with page := (scI r0.2).1 } rfl rfl rfl)⟩
      | false =>
        have ee : r1 = r0 := by have := S1.out; simpa using this
        go_wp2_with fail
        go_meet
        exact ⟨A, n, c, Lib.hid (by rw [ee]; exact N0.out)⟩
    case rest =>
    clear N0 A n c
    obtain ⟨A, n, c, N0⟩ := hcut
    go_wp2_with fail
    refine (CX.out _).mono ?_
    rintro e wb ⟨rfl, b1⟩
    replace N0 := Lib.hid (N0.out.below b1)
    clear b1 CX
    go_upto_if 58 with (fail)
    go_cut [] from 59 to 61 (fun wx => ∃ A n c, Hid (RSt w wx cb mb A n c none 0 0 r2))
    case first =>
      cases fx with
      | true =>
        have ee := S2.out
        simp only [if_true] at ee
        have CC2 := Lib.hid (fun w h => rcF_any cb r1.2.1 r1.2.2 w N0.out.len h)
        go_wp2_with fail
        refine (CC2.out _ N0.out.fc).mono ?_
        rintro e wy ⟨rfl, hc, kc⟩
        have N2 := Lib.hid (N0.out.scan hc kc (scF_len r1.2))
        clear hc kc CC2
        have hm := N2.out.fm
        have pm := hm.cell 2 _ rfl
        have pf := hm.free 2
        have pl := hm.lt
        clear hm
        go_wp2_with fail
        go_meet
        exact ⟨A, n, c, Lib.hid (by rw [ee]; exact N2.out.set1 2 _ { r1.1 with x := (scF r1.2).1 } rfl rfl rfl)⟩
      | false =>
        have ee : r2 = r1 := by have := S2.out; simpa using this
        go_wp2_with fail
        go_meet
        exact ⟨A, n, c, Lib.hid (by rw [ee]; exact N0.out)⟩
    case rest =>
    clear N0 A n c
    obtain ⟨A, n, c, N0⟩ := hcut
    go_wp2_with fail
    refine (CN.out _).mono ?_
    rintro e wb ⟨rfl, b1⟩
    replace N0 := Lib.hid (N0.out.below b1)
    clear b1 CN
    go_upto_if 63 with (fail)
    go_cut [] from 64 to 66 (fun wx => ∃ A n c, Hid (RSt w wx cb mb A n c none 0 0 r3))
    case first =>
      cases fn with
      | true =>
        have ee := S3.out
        simp only [if_true] at ee
        have CC2 := Lib.hid (fun w h => rcF_any cb r2.2.1 r2.2.2 w N0.out.len h)
        go_wp2_with fail
        refine (CC2.out _ N0.out.fc).mono ?_
        rintro e wy ⟨rfl, hc, kc⟩
        have N2 := Lib.hid (N0.out.scan hc kc (scF_len r2.2))
        clear hc kc CC2
        have hm := N2.out.fm
        have pm := hm.cell 3 _ rfl
        have pf := hm.free 3
        have pl := hm.lt
        clear hm
        go_wp2_with fail
        go_meet
        exact ⟨A, n, c, Lib.hid (by rw [ee]; exact N2.out.set1 3 _ { r2.1 with need := (scF r2.2).1 } rfl rfl rfl)⟩
      | false =>
        have ee : r3 = r2 := by have := S3.out; simpa using this
        go_wp2_with fail
        go_meet
        exact ⟨A, n, c, Lib.hid (by rw [ee]; exact N0.out)⟩
    case rest =>
    clear N0 A n c
    obtain ⟨A, n, c, N0⟩ := hcut
    go_wp2_with fail
    refine (CT.out _).mono ?_
    rintro e wb ⟨rfl, b1⟩
    replace N0 := Lib.hid (N0.out.below b1)
    clear b1 CT
    go_upto_if 68 with (fail)
    go_cut [] from 69 to 80 (fun wx => ∃ A n c, Hid (RSt w wx cb mb A n c none 0 0 r4))
    case first =>
      cases ft with
      | true =>
        have ee := S4.out
        simp only [if_true] at ee
        have CC2 := Lib.hid (fun w l h => rcI_any cb r3.2.1 r3.2.2 w l h)
        have CC3 := Lib.hid (fun w l h => rcI_any cb (scI r3.2).2.1 (scI r3.2).2.2 w l h)
        have CC4 := Lib.hid (fun w l h => rcI_any cb (scI (scI r3.2).2).2.1 (scI (scI r3.2).2).2.2 w l h)
        go_wp2_with fail
        refine (CC2.out _ N0.out.len N0.out.fc).mono ?_
        rintro e wy ⟨rfl, hc, kc⟩
        have N2 := Lib.hid (N0.out.scan hc kc (scI_len r3.2))
        clear hc kc CC2
        have hm := N2.out.fm
        have pm := hm.cell 5 _ rfl
        have pf := hm.free 5
        have pl := hm.lt
        clear hm
        go_upto_region 17 with (fail)
        have N3 := Lib.hid (N2.out.set1 5 _ { r3.1 with tc := (scI r3.2).1 } rfl rfl rfl)
        clear pm pf pl
        generalize World.setCell wy _ _ = wy1 at N3 ⊢
        go_wp2_with fail
        refine (CC3.out _ N3.out.len N3.out.fc).mono ?_
        rintro e wy2 ⟨rfl, hc, kc⟩
        have N4 := Lib.hid (N3.out.scan hc kc (scI_len (scI r3.2).2))
        clear hc kc CC3
        have hm := N4.out.fm
        have pm := hm.cell 6 _ rfl
        have pf := hm.free 6
        have pl := hm.lt
        clear hm
        go_upto_region 18 with (fail)
        have N5 := Lib.hid (N4.out.set1 6 _ { r3.1 with tc := (scI r3.2).1, te := (scI (scI r3.2).2).1 } rfl rfl rfl)
        clear pm pf pl
        generalize World.setCell wy2 _ _ = wy3 at N5 ⊢
        go_wp2_with fail
        refine (CC4.out _ N5.out.len N5.out.fc).mono ?_
        rintro e wy4 ⟨rfl, hc, kc⟩
        have N6 := Lib.hid (N5.out.scan hc kc (scI_len (scI (scI r3.2).2).2))
        clear hc kc CC4
        have hm := N6.out.fm
        have pm := hm.cell 7 _ rfl
        have pf := hm.free 7
        have pl := hm.lt
        clear hm
        go_wp2_with fail
        go_meet
        exact ⟨A, n, c, Lib.hid (by rw [ee]; exact N6.out.set1 7 _ { r3.1 with tc := (scI r3.2).1, te := (scI (scI r3.2).2).1, tn := (scI (scI (scI r3.2).2).2).1 } rfl rfl rfl)⟩
      | false =>
        have ee : r4 = r3 := by have := S4.out; simpa using this
        go_wp2_with fail
        go_meet
        exact ⟨A, n, c, Lib.hid (by rw [ee]; exact N0.out)⟩
    case rest =>
    clear N0 A n c
    obtain ⟨A, n, c, N0⟩ := hcut
    go_wp2_with fail
    refine (CC.out _).mono ?_
    rintro e wb ⟨rfl, b1⟩
    replace N0 := Lib.hid (N0.out.below b1)
    clear b1 CC
    go_upto_if 82 with (fail)
    go_cut [] from 83 to 85 (fun wx => ∃ A n c, Hid (RSt w wx cb mb A n c none 0 0 r5))
    case first =>
      cases fc with
      | true =>
        have ee := S5.out
        simp only [if_true] at ee
        have CC2 := Lib.hid (fun w h => rcI_any cb r4.2.1 r4.2.2 w N0.out.len h)
        go_wp2_with fail
        refine (CC2.out _ N0.out.fc).mono ?_
        rintro e wy ⟨rfl, hc, kc⟩
        have N2 := Lib.hid (N0.out.scan hc kc (scI_len r4.2))
        clear hc kc CC2
        have hm := N2.out.fm
        have pm := hm.cell 4 _ rfl
        have pf := hm.free 4
        have pl := hm.lt
        clear hm
        go_wp2_with fail
        go_meet
        exact ⟨A, n, c, Lib.hid (by rw [ee]; exact N2.out.set1 4 _ { r4.1 with n := (scI r4.2).1 } rfl rfl rfl)⟩
      | false =>
        have ee : r5 = r4 := by have := S5.out; simpa using this
        go_wp2_with fail
        go_meet
        exact ⟨A, n, c, Lib.hid (by rw [ee]; exact N0.out)⟩
    case rest =>
    clear N0 A n c
    obtain ⟨A, n, c, N0⟩ := hcut
    have CH2 := fun w => rhas_any r5.1.kind r5.1.page r5.1.x r5.1.need r5.1.n r5.1.tc r5.1.te r5.1.tn r5.1.lsn A n c none 0 0 w
    rw [HKk.out] at CH2
    replace CH2 := Lib.hid CH2
    have HM := Lib.hid N0.out.fm
    simp only [Ms.row, msgC] at HM
    rw [HKk.out] at HM
    have p0 := HM.out.cell 0 _ rfl
    have p1 := HM.out.cell 1 _ rfl
    have p2 := HM.out.cell 2 _ rfl
    have p3 := HM.out.cell 3 _ rfl
    have p4 := HM.out.cell 4 _ rfl
    have p5 := HM.out.cell 5 _ rfl
    have p6 := HM.out.cell 6 _ rfl
    have p7 := HM.out.cell 7 _ rfl
    have p8 := HM.out.cell 8 _ rfl
    have p9 := HM.out.cell 9 _ rfl
    have p10 := HM.out.cell 10 _ rfl
    go_wp2_with fail
    refine (CH2.out _).mono ?_
    rintro e wb ⟨rfl, b1⟩
    clear p0 p1 p2 p3 p4 p5 p6 p7 p8 p9 p10 HM CH2
    replace N0 := Lib.hid (N0.out.below b1)
    clear b1
    go_wp2_with fail
    refine (CL.out _).mono ?_
    rintro e wb2 ⟨rfl, b1⟩
    replace N0 := Lib.hid (N0.out.below b1)
    clear b1 CL
    go_upto_if 88 with (fail)
    go_cut [] from 89 to 125 (fun wx => ∃ A n c, Hid (RSt w wx cb mb A n c none 0 0 r6))
    case first =>
      cases fi with
      | false =>
        have ee : r6 = r5 := by have := S6.out; simpa using this
        go_wp2_with fail
        go_meet
        exact ⟨A, n, c, Lib.hid (by rw [ee]; exact N0.out)⟩
      | true =>
        have ee := S6.out
        simp only [if_true] at ee
        have EE := Lib.hid ee
        clear ee S7
        obtain ⟨M5, q5, bd5⟩ := r5
        simp only at EE
        have c0 := N0.out.fc.cell 0 _ rfl
        have c1 := N0.out.fc.cell 1 _ rfl
        have f0 := N0.out.fc.free 0
        have f1 := N0.out.fc.free 1
        have pl := N0.out.fc.lt
        have hq5 := N0.out.len
        simp only at c0 c1 hq5
        obtain ⟨U5, hU5⟩ : ∃ U, bs q5 = U := ⟨_, rfl⟩
        have hsz : U5.size = q5.length := by rw [← hU5, bs_size]
        rw [hU5] at c0
        by_cases hs : q5.length < 240
        · have hUs5 : (U5.size : Int) < 240 := by omega
          have HE2 : Hid (R = (Ms.zero, 4)) := Lib.hid (HB7.out (by rw [EE.out]; unfold scP; rw [if_pos hs]))
          have HO := Lib.hid N0.out.fo
          have HB := Lib.hid N0.out.fb
          clear hU5 hsz hs hq5 EE HB7
          go_wp2_with ((with_reducible refine at_store rfl ?_); refine wpList_put_row rfl _ _ _ rfl rfl w.heap.size _ rfl rfl _ _ HO.out (by kernel_rfl) rfl (by first | kernel_rfl | simp [Value.oneCell']) ?_; intro w8 Z8 B8)
          (try simp only [Exit.inBlock, Exit.then])
          refine bodyPost_ret (v := .tuple #[.agg #[.int .i64 0, .int .i64 0, .bool false, .bool false, .int .i64 0, .int .i64 0, .int .i64 0, .int .i64 0, .int .i64 0, .slice none 0 0, .slice none 0 0], .int .i64 4]) ?_ rfl (NDecPost.ofR HE2.out ⟨_, rfl, ⟨none, 0, 0, none, 0, 0, rfl, IsSlots.nil _, IsEnts.nil _⟩, ?_⟩)
          · exact Eq.trans (results_cell_one (p := 2) (u := 3) rfl _ _ w.heap.size _ _ _ fs rfl Z8 Hu.out (by kernel_rfl)) rfl
          · exact HB.out.trans (B8.below (Nat.le_refl _) HB.out.size)
        · have hUs5 : (240 : Int) ≤ (U5.size : Int) := by omega
          have hUm5 : U5.size ≤ 9223372036854775807 := by omega
          have CD := fun w => rdec_any (bs (q5.take 240)) (by rw [bs_size, List.length_take]; omega) w
          rw [bs_data] at CD
          have her := pgDecR_form (q5.take 240)
          have hP : scP (q5, bd5) = (((pgDecR (pgDec (q5.take 240))).1, (pgDecR (pgDec (q5.take 240))).2.1), q5.drop 240, bd5 || ((pgDecR (pgDec (q5.take 240))).2.2 != 0)) := by unfold scP; rw [if_neg hs]
          have hEE := EE.out
          rw [hP] at hEE
          obtain ⟨RR, hRR⟩ : ∃ R, pgDecR (pgDec (q5.take 240)) = R := ⟨_, rfl⟩
          rw [hRR] at CD her hEE
          obtain ⟨plsn, psl, per⟩ := RR
          simp only at her hEE
          have her : per = 0 ∨ per = 4 := her.imp id (fun h => h.1)
          clear EE hRR hP
          have EE := Lib.hid hEE
          replace CD := Lib.hid CD
          have hu1 : U5.extract 0 240 = bs (q5.take 240) := by rw [← hU5]; exact bs_take q5 240
          have hu2 : U5.extract 240 U5.size = bs (q5.drop 240) := by rw [← hU5]; exact bs_skip q5 240 _ (bs_size q5)
          have HU2 := Lib.hid hu2
          have HU5 := Lib.hid hU5
          clear hEE hU5 hsz hs hu2
          go_wp2_with fail
          refine (CD.out _).mono ?_
          rintro e w1 ⟨A2, n2, c2, rfl, hI, b1⟩
          have I5 := Lib.hid (hI.alloc (.cells #[.int .i64 plsn, .slice A2 n2 c2] 29))
          have N5 := Lib.hid ((N0.out.below b1).below (bnew w1 (.cells #[.int .i64 plsn, .slice A2 n2 c2] 29)))
          have P5 := Lib.hid (Has.new w1 (.cells #[.int .i64 plsn, .slice A2 n2 c2] 29))
          have hne1 : w1.heap.size ≠ cb := by have := (N0.out.fc.below b1).lt; omega
          have hne2 : w1.heap.size ≠ mb := by have := (N0.out.fm.below b1).lt; omega
          clear hI b1 CD c0 c1 f0 f1 pl hu1 N0
          go_upto_region 25 with (fail)
          obtain ⟨pb, hpb⟩ : ∃ p, w1.heap.size = p := ⟨_, rfl⟩
          rw [hpb] at P5 hne1 hne2
          (try simp only [hpb])
          generalize World.alloc w1 _ = w5 at I5 N5 P5 ⊢
          clear hpb
          have c0 := N5.out.fc.cell 0 _ rfl
          have c1 := N5.out.fc.cell 1 _ rfl
          have f1 := N5.out.fc.free 1
          have pl := N5.out.fc.lt
          simp only at c0 c1
          cases bd5 with
          | true =>
            rcases her with rfl | rfl
            · skip
              go_upto_region 26 with (fail)
              clear c0 c1 f1 pl
              have kk := But.set cb 1 w5 (.bool true)
              have hc := N5.out.fc.set 1 (.bool true)
              have N6 := Lib.hid (N5.out.scan (q := q5) (bd := true) hc kk (Nat.le_refl _))
              have P6 := Lib.hid (P5.out.but kk hne1)
              have I6 := Lib.hid (I5.out.apartS N5.out.fc kk)
              clear kk hc
              generalize World.setCell w5 _ _ = w6 at N6 P6 I6 ⊢
              have p0 := P6.out.cell 0 _ rfl
              have p1 := P6.out.cell 1 _ rfl
              have hm := N6.out.fm
              have m8 := hm.cell 8 _ rfl
              have m9 := hm.cell 9 _ rfl
              have m8f := hm.free 8
              have m9f := hm.free 9
              have ml := hm.lt
              clear hm
              go_upto_region 27 with (fail)
              clear p0 p1 m8 m9 m8f m9f ml
              have N7 := Lib.hid (N6.out.img (lsn := plsn) I6.out)
              generalize World.setCell (World.setCell w6 _ _) _ _ = w7 at N7 ⊢
              have c0 := N7.out.fc.cell 0 _ rfl
              have f0 := N7.out.fc.free 0
              have cl := N7.out.fc.lt
              simp only at c0
              rw [HU5.out] at c0
              have hu2 := HU2.out
              go_wp2_with fail
              go_meet
              refine ⟨A2, n2, c2, Lib.hid ?_⟩
              rw [EE.out]
              exact N7.out.scan (N7.out.fc.set 0 _) (But.set cb 0 w7 _) (by simp)
            · skip
              go_upto_region 26 with (fail)
              clear c0 c1 f1 pl
              have kk := But.set cb 1 w5 (.bool true)
              have hc := N5.out.fc.set 1 (.bool true)
              have N6 := Lib.hid (N5.out.scan (q := q5) (bd := true) hc kk (Nat.le_refl _))
              have P6 := Lib.hid (P5.out.but kk hne1)
              have I6 := Lib.hid (I5.out.apartS N5.out.fc kk)
              clear kk hc
              generalize World.setCell w5 _ _ = w6 at N6 P6 I6 ⊢
              have p0 := P6.out.cell 0 _ rfl
              have p1 := P6.out.cell 1 _ rfl
              have hm := N6.out.fm
              have m8 := hm.cell 8 _ rfl
              have m9 := hm.cell 9 _ rfl
              have m8f := hm.free 8
              have m9f := hm.free 9
              have ml := hm.lt
              clear hm
              go_upto_region 27 with (fail)
              clear p0 p1 m8 m9 m8f m9f ml
              have N7 := Lib.hid (N6.out.img (lsn := plsn) I6.out)
              generalize World.setCell (World.setCell w6 _ _) _ _ = w7 at N7 ⊢
              have c0 := N7.out.fc.cell 0 _ rfl
              have f0 := N7.out.fc.free 0
              have cl := N7.out.fc.lt
              simp only at c0
              rw [HU5.out] at c0
              have hu2 := HU2.out
              go_wp2_with fail
              go_meet
              refine ⟨A2, n2, c2, Lib.hid ?_⟩
              rw [EE.out]
              exact N7.out.scan (N7.out.fc.set 0 _) (But.set cb 0 w7 _) (by simp)
          | false =>
            rcases her with rfl | rfl
            · skip
              go_upto_region 26 with (fail)
              clear c0 c1 f1 pl
              have kk := But.set cb 1 w5 (.bool false)
              have hc := N5.out.fc.set 1 (.bool false)
              have N6 := Lib.hid (N5.out.scan (q := q5) (bd := false) hc kk (Nat.le_refl _))
              have P6 := Lib.hid (P5.out.but kk hne1)
              have I6 := Lib.hid (I5.out.apartS N5.out.fc kk)
              clear kk hc
              generalize World.setCell w5 _ _ = w6 at N6 P6 I6 ⊢
              have p0 := P6.out.cell 0 _ rfl
              have p1 := P6.out.cell 1 _ rfl
              have hm := N6.out.fm
              have m8 := hm.cell 8 _ rfl
              have m9 := hm.cell 9 _ rfl
              have m8f := hm.free 8
              have m9f := hm.free 9
              have ml := hm.lt
              clear hm
              go_upto_region 27 with (fail)
              clear p0 p1 m8 m9 m8f m9f ml
              have N7 := Lib.hid (N6.out.img (lsn := plsn) I6.out)
              generalize World.setCell (World.setCell w6 _ _) _ _ = w7 at N7 ⊢
              have c0 := N7.out.fc.cell 0 _ rfl
              have f0 := N7.out.fc.free 0
              have cl := N7.out.fc.lt
              simp only at c0
              rw [HU5.out] at c0
              have hu2 := HU2.out
              go_wp2_with fail
              go_meet
              refine ⟨A2, n2, c2, Lib.hid ?_⟩
              rw [EE.out]
              exact N7.out.scan (N7.out.fc.set 0 _) (But.set cb 0 w7 _) (by simp)
            · skip
              go_upto_region 26 with (fail)
              clear c0 c1 f1 pl
              have kk := But.set cb 1 w5 (.bool true)
              have hc := N5.out.fc.set 1 (.bool true)
              have N6 := Lib.hid (N5.out.scan (q := q5) (bd := true) hc kk (Nat.le_refl _))
              have P6 := Lib.hid (P5.out.but kk hne1)
              have I6 := Lib.hid (I5.out.apartS N5.out.fc kk)
              clear kk hc
              generalize World.setCell w5 _ _ = w6 at N6 P6 I6 ⊢
              have p0 := P6.out.cell 0 _ rfl
              have p1 := P6.out.cell 1 _ rfl
              have hm := N6.out.fm
              have m8 := hm.cell 8 _ rfl
              have m9 := hm.cell 9 _ rfl
              have m8f := hm.free 8
              have m9f := hm.free 9
              have ml := hm.lt
              clear hm
              go_upto_region 27 with (fail)
              clear p0 p1 m8 m9 m8f m9f ml
              have N7 := Lib.hid (N6.out.img (lsn := plsn) I6.out)
              generalize World.setCell (World.setCell w6 _ _) _ _ = w7 at N7 ⊢
              have c0 := N7.out.fc.cell 0 _ rfl
              have f0 := N7.out.fc.free 0
              have cl := N7.out.fc.lt
              simp only at c0
              rw [HU5.out] at c0
              have hu2 := HU2.out
              go_wp2_with fail
              go_meet
              refine ⟨A2, n2, c2, Lib.hid ?_⟩
              rw [EE.out]
              exact N7.out.scan (N7.out.fc.set 0 _) (But.set cb 0 w7 _) (by simp)
    case rest =>
    clear N0
    obtain ⟨A, n, c, N0⟩ := hcut
    clear S1 S2 S3 S4 S5 S6 HKk HB7
    go_wp2_with fail
    refine (CE.out _).mono ?_
    rintro e wb ⟨rfl, b1⟩
    replace N0 := Lib.hid (N0.out.below b1)
    clear b1 CE
    go_upto_if 127 with (fail)
    go_cut [] from 128 to 189 (fun wx => ∃ A n c B k' d, Hid (RSt w wx cb mb A n c B k' d r7))
    case first =>
      cases fe with
      | false =>
        have ee : r7 = r6 := by have := S7.out; simpa using this
        go_wp2_with fail
        go_meet
        exact ⟨A, n, c, none, 0, 0, Lib.hid (by rw [ee]; exact N0.out)⟩
      | true =>
        have ee := S7.out
        simp only [if_true] at ee
        have hl6 := HL6.out rfl
        have hn6 := HN6.out
        obtain ⟨M6, q6, bd6⟩ := r6
        simp only at hl6 hn6 ee
        have CI := Lib.hid (rcI_any cb q6 bd6 _ N0.out.len N0.out.fc)
        have hlen : (scI (q6, bd6)).2.1.length ≤ q6.length := takeI_rest q6
        have hq6 := N0.out.len
        simp only at hq6
        obtain ⟨zz, hzz⟩ : ∃ z, scI (q6, bd6) = z := ⟨_, rfl⟩
        unfold scE at ee
        rw [hzz] at ee CI hlen
        obtain ⟨n9, r9, bad9⟩ := zz
        simp only at ee CI hlen
        have hn64 : -9223372036854775808 ≤ n9 ∧ n9 ≤ 9223372036854775807 := by
          have : (takeI q6).1 = n9 := by have := congrArg Prod.fst hzz; exact this
          rw [← this]
          unfold takeI
          cases hd : dec q6 with
          | none => simp
          | some p => obtain ⟨m, q⟩ := p; exact (enc_dec hd).2
        obtain ⟨T, hT⟩ : ∃ T, esF 18 n9 [] (r9, bad9) = T := ⟨_, rfl⟩
        rw [hT] at ee
        have HT := Lib.hid hT
        have EE := Lib.hid ee
        have hr9 : r9.length ≤ 9223372036854775807 := by omega
        have HN := Lib.hid hn64
        have HS6 : Hid (IsSlots w A n c []) := Lib.hid (by have := N0.out.sS; simp only at this; rw [hl6] at this; exact this.empty)
        have HLs := Lib.hid hl6
        have HLen := Lib.hid hlen
        clear hzz ee hT hlen hq6 hn6 hn64 hl6 HL6 HN6 S7 HE
        go_wp2_with fail
        refine CI.out.mono ?_
        rintro e w8 ⟨rfl, hc, kc⟩
        have N1 := Lib.hid (N0.out.scan (q := r9) (bd := bad9) hc kc HLen.out)
        have Q0 : Hid (RLp w w8 w8.heap.size cb mb M6 A n c none 0 0 r9 bad9) := Lib.hid ⟨hc, N1.out.fm, N1.out.fo, N1.out.fb, Nat.le_refl _, N1.out.n1.1, N1.out.n1.2, N1.out.fm.lt⟩
        clear hc kc CI N0 N1 HLen
        go_wp2_with fail
        have R0 : Hid (w8.ownsRow w8.heap.size 64 13 (.slice none 0 0) 0 (flatE [])) := Lib.hid (World.ownsRow_nil _ _ _ _)
        have S0 : Hid (∀ x ∈ ([] : List Ent), smallE x) := Lib.hid (fun x h => by cases h)
        obtain ⟨base, hbase⟩ : ∃ b, w8.heap.size = b := ⟨_, rfl⟩
        rw [hbase] at Q0 R0
        clear hbase
        go_loopw [11] (fun i wr => ∃ (l : List Ent) (m : Nat) (q : List UInt8) (bd : Bool) (A' : Option Addr) (cap' : Nat), i = .int .i64 m ∧ m ≤ 17 ∧ m ≤ cap' ∧ cap' ≤ 9223372036854775807 ∧ Hid (l.length = m) ∧ Hid (q.length ≤ r9.length) ∧ Hid (esF (18 - m) n9 l (q, bd) = T) ∧ Hid (wr.ownsRow base 64 13 (.slice A' m cap') m (flatE l)) ∧ Hid (∀ x ∈ l, smallE x) ∧ Hid (RLp w wr base cb mb M6 A n c A' m cap' q bd)) (fun i _ => 18 - (intOf i).toNat)
        case atStart => exact ⟨[], 0, r9, bad9, none, 0, rfl, by omega, by omega, by omega, Lib.hid rfl, Lib.hid (Nat.le_refl _), HT, R0, S0, Q0⟩
        case round =>
          obtain ⟨l, m, q, bd, A', cap', rfl, hm, hmc, hcm, HLn, HQl, HF, HO, HSm, HQ⟩ := hrel
          clear R0 S0 Q0 HT
          have c0 := HQ.out.fc.cell 0 _ rfl
          have c1 := HQ.out.fc.cell 1 _ rfl
          have f0 := HQ.out.fc.free 0
          have f1 := HQ.out.fc.free 1
          have pl := HQ.out.fc.lt
          have m10 : wr.cell? ⟨mb, 10, none⟩ = some (.slice A' m cap') := HQ.out.fm.cell 10 _ rfl
          have hn1 := HN.out.1
          have hn2 := HN.out.2
          have HQl2 := HQl
          cases bd with
          | true =>
            by_cases hmn : (m : Int) < n9
            · by_cases hm17 : (m : Int) < 17
              · skip
                have TT : Hid (T = (l, q, true)) := Lib.hid (by rw [← HF.out]; exact esF_bad _ _ _ _)
                clear HF HQl
                go_wp2_with fail
                go_meet
                obtain ⟨A2, c2, e2, hI, hfr⟩ := ents_of (w := wr) (v := .slice A' m cap') (by rw [HLn.out]; exact HO.out) HSm.out
                obtain ⟨rfl, rfl⟩ : A' = A2 ∧ cap' = c2 := by injection e2 with e1 e2 e3; exact ⟨e1, e3⟩
                rw [HLn.out] at hI
                have st : RSt w wr cb mb A n c A' m cap' ({ M6 with en := l }, q, true) := ⟨HQ.out.fc, HQ.out.fm, by show IsSlots wr A n c M6.sl; rw [HLs.out]; exact HS6.out.empty, hI, HQ.out.fo, HQ.out.fb, by have := HQl2.out; show q.length ≤ _; omega, HQ.out.n1.1, HQ.out.n1.2.1⟩
                refine ⟨A, n, c, A', m, cap', Lib.hid ?_⟩
                rw [EE.out, TT.out]
                have := st.scan (q := q) (bd := true) (st.fc.set 1 (.bool true)) (But.set cb 1 wr (.bool true)) (Nat.le_refl _)
                exact this
              · skip
                have TT : Hid (T = (l, q, true)) := Lib.hid (by rw [← HF.out]; exact esF_bad _ _ _ _)
                clear HF HQl
                go_wp2_with fail
                go_meet
                obtain ⟨A2, c2, e2, hI, hfr⟩ := ents_of (w := wr) (v := .slice A' m cap') (by rw [HLn.out]; exact HO.out) HSm.out
                obtain ⟨rfl, rfl⟩ : A' = A2 ∧ cap' = c2 := by injection e2 with e1 e2 e3; exact ⟨e1, e3⟩
                rw [HLn.out] at hI
                have st : RSt w wr cb mb A n c A' m cap' ({ M6 with en := l }, q, true) := ⟨HQ.out.fc, HQ.out.fm, by show IsSlots wr A n c M6.sl; rw [HLs.out]; exact HS6.out.empty, hI, HQ.out.fo, HQ.out.fb, by have := HQl2.out; show q.length ≤ _; omega, HQ.out.n1.1, HQ.out.n1.2.1⟩
                refine ⟨A, n, c, A', m, cap', Lib.hid ?_⟩
                rw [EE.out, TT.out]
                have := st.scan (q := q) (bd := true) (st.fc.set 1 (.bool true)) (But.set cb 1 wr (.bool true)) (Nat.le_refl _)
                exact this
            · skip
              have TT : Hid (T = (l, q, true)) := Lib.hid (by rw [← HF.out]; exact esF_bad _ _ _ _)
              clear HF HQl
              go_wp2_with fail
              go_meet
              obtain ⟨A2, c2, e2, hI, hfr⟩ := ents_of (w := wr) (v := .slice A' m cap') (by rw [HLn.out]; exact HO.out) HSm.out
              obtain ⟨rfl, rfl⟩ : A' = A2 ∧ cap' = c2 := by injection e2 with e1 e2 e3; exact ⟨e1, e3⟩
              rw [HLn.out] at hI
              have st : RSt w wr cb mb A n c A' m cap' ({ M6 with en := l }, q, true) := ⟨HQ.out.fc, HQ.out.fm, by show IsSlots wr A n c M6.sl; rw [HLs.out]; exact HS6.out.empty, hI, HQ.out.fo, HQ.out.fb, by have := HQl2.out; show q.length ≤ _; omega, HQ.out.n1.1, HQ.out.n1.2.1⟩
              refine ⟨A, n, c, A', m, cap', Lib.hid ?_⟩
              rw [EE.out, TT.out]
              have := st.scan (q := q) (bd := true) (st.fc.set 1 (.bool true)) (But.set cb 1 wr (.bool true)) (Nat.le_refl _)
              exact this
          | false =>
            by_cases hmn : (m : Int) < n9
            · by_cases hm17 : (m : Int) < 17
              · have hm17n : m < 17 := by omega
                obtain ⟨x, q2, er, hd, her, hF2, hsx, hq2⟩ := esF_more HF.out HLn.out hmn hm17n
                have CD := fun w => rdecode_any (bs q) (by rw [bs_size]; have := HQl.out; omega) w
                rw [bs_data, hd] at CD
                have HF2 := Lib.hid hF2
                have HSx := Lib.hid hsx
                have HQ2 : Hid (q2.length ≤ r9.length) := Lib.hid (by have := HQl.out; omega)
                have hrow : Hid (flatE (l ++ [x]) = flatE l ++ x.row.toList) := Lib.hid (by rw [flatE_append]; simp [flatE])
                clear hF2 hsx hq2 hd HF HQl HQl2
                obtain ⟨X, hXe⟩ : ∃ X, X = x := ⟨_, rfl⟩
                rw [← hXe] at HF2 HSx hrow
                have HXe := Lib.hid hXe
                clear hXe
                obtain ⟨k', c', e', n', lsn', p', pg', sl', wu, wd, iu, ix, nx⟩ := x
                simp only [Ent.val, Ent.row] at CD
                replace CD := Lib.hid CD
                rcases her with rfl | rfl
                · skip
                  go_wp2_with fail
                  refine (CD.out _).mono ?_
                  rintro e'' w2 ⟨rfl, b1⟩
                  have E3 := Lib.hid (Has.new w2 (.cells #[.int .i64 k', .int .i64 c', .int .i64 e', .int .i64 n', .int .i64 lsn', .int .i64 p', .int .i64 pg', .int .i64 sl', .bool wu, .string wd, .bool iu, .string ix, .int .i64 nx] 64))
                  have Q3 := Lib.hid ((HQ.out.below b1).below (bnew w2 (.cells #[.int .i64 k', .int .i64 c', .int .i64 e', .int .i64 n', .int .i64 lsn', .int .i64 p', .int .i64 pg', .int .i64 sl', .bool wu, .string wd, .bool iu, .string ix, .int .i64 nx] 64)))
                  have O3 := Lib.hid (ownsRow_below (ownsRow_below HO.out b1) (bnew w2 (.cells #[.int .i64 k', .int .i64 c', .int .i64 e', .int .i64 n', .int .i64 lsn', .int .i64 p', .int .i64 pg', .int .i64 sl', .bool wu, .string wd, .bool iu, .string ix, .int .i64 nx] 64)))
                  have hne1 : w2.heap.size ≠ cb := by have := (HQ.out.fc.below b1).lt; omega
                  have hne2 : w2.heap.size ≠ mb := by have := (HQ.out.fm.below b1).lt; omega
                  clear b1 CD c0 c1 f0 f1 pl m10
                  go_upto_region 34 with (fail)
                  obtain ⟨eb, heb⟩ : ∃ p, w2.heap.size = p := ⟨_, rfl⟩
                  rw [heb] at E3 hne1 hne2
                  (try simp only [heb])
                  generalize World.alloc w2 _ = w3 at E3 Q3 O3 ⊢
                  clear heb
                  have c1 := Q3.out.fc.cell 1 _ rfl
                  have f1 := Q3.out.fc.free 1
                  have pl := Q3.out.fc.lt
                  go_upto_region 35 with (fail)
                  clear c1 f1 pl
                  have kk := But.set cb 1 w3 (.bool false)
                  have Q4 := Lib.hid (Q3.out.cset (q' := q) (bd' := false) (Q3.out.fc.set 1 (.bool false)) kk)
                  have O4 := Lib.hid (Q3.out.row O3.out (by have := Q3.out.n1; omega) kk)
                  have E4 := Lib.hid (E3.out.but kk hne1)
                  clear kk
                  generalize World.setCell w3 _ _ = w4 at Q4 O4 E4 ⊢
                  have hb4 := Q4.out.fs
                  have m10 : w4.cell? ⟨mb, 10, none⟩ = some (.slice A' m cap') := Q4.out.fm.cell 10 _ rfl
                  obtain ⟨c0, c1, c2, c3, c4, c5, c6, c7, c8, c9, c10, c11, c12⟩ := EntAt.of E4.out
                  go_wp2_with (at_builtin; refine grow_new entElem rfl (.tmp 167) (.tmp 169) rfl base w4 (.slice A' m cap') m (flatE l) rfl O4.out 1 #[.int .i64 k', .int .i64 c', .int .i64 e', .int .i64 n', .int .i64 lsn', .int .i64 p', .int .i64 pg', .int .i64 sl', .bool wu, .string wd, .bool iu, .string ix, .int .i64 nx] rfl rfl (by simp [Value.oneCell']) (by omega) (by omega) hb4 ?_; intro v7 w7 R7 g7 b7; obtain ⟨A7, cap7, rfl, h71, h72⟩ := ownsRow_form R7; (have R7' := Lib.hid R7); (have Q7 := Lib.hid (Q4.out.low b7)); (have m10 : w7.cell? ⟨mb, 10, none⟩ = some (.slice A' m cap') := Q7.out.fm.cell 10 _ rfl); (have mf := Q7.out.fm.free 10); (have ml := Q7.out.fm.lt); (have c0 := Q7.out.fc.cell 0 _ rfl); (have f0 := Q7.out.fc.free 0); (have cl := Q7.out.fc.lt); (have hcm := Q7.out.n1.2.1); clear R7 g7 b7)
                  clear c0 c1 c2 c3 c4 c5 c6 c7 c8 c9 c10 c11 c12
                  have hl2 : Hid ((l ++ [X]).length = m + 1) := Lib.hid (by rw [List.length_append, HLn.out]; rfl)
                  have hro : Hid (w7.ownsRow base 64 13 (.slice A7 (m + 1) cap7) (m + 1) (flatE (l ++ [X]))) := Lib.hid (by rw [hrow.out, HXe.out]; exact R7'.out)
                  have hsm : Hid (∀ y ∈ l ++ [X], smallE y) := Lib.hid (fun y hy => by
                    rcases List.mem_append.1 hy with h | h
                    · exact HSm.out y h
                    · simp at h; subst h; exact HSx.out)
                  have kk := But.set mb 10 w7 (.slice A7 (m + 1) cap7)
                  have Q8 := Lib.hid (Q7.out.mset A7 (m + 1) cap7)
                  have O8 := Lib.hid (Q7.out.row hro.out (by have := Q7.out.n1; omega) kk)
                  have kk2 := But.set cb 0 (w7.setCell ⟨mb, 10, none⟩ (.slice A7 (m + 1) cap7)) (.string (bs q2))
                  have Q9 := Lib.hid (Q8.out.cset (q' := q2) (bd' := false) (Q8.out.fc.set 0 (.string (bs q2))) kk2)
                  have O9 := Lib.hid (Q8.out.row O8.out (by have := Q7.out.n1; omega) kk2)
                  clear kk kk2 O8 Q8
                  go_roundw
                  case rel => exact ⟨l ++ [X], m + 1, q2, false, A7, cap7, by go_num, by omega, h71, h72, hl2, HQ2, HF2, O9, hsm, Q9⟩
                  case measure => simp [intOf]; omega
                · skip
                  go_wp2_with fail
                  refine (CD.out _).mono ?_
                  rintro e'' w2 ⟨rfl, b1⟩
                  have E3 := Lib.hid (Has.new w2 (.cells #[.int .i64 k', .int .i64 c', .int .i64 e', .int .i64 n', .int .i64 lsn', .int .i64 p', .int .i64 pg', .int .i64 sl', .bool wu, .string wd, .bool iu, .string ix, .int .i64 nx] 64))
                  have Q3 := Lib.hid ((HQ.out.below b1).below (bnew w2 (.cells #[.int .i64 k', .int .i64 c', .int .i64 e', .int .i64 n', .int .i64 lsn', .int .i64 p', .int .i64 pg', .int .i64 sl', .bool wu, .string wd, .bool iu, .string ix, .int .i64 nx] 64)))
                  have O3 := Lib.hid (ownsRow_below (ownsRow_below HO.out b1) (bnew w2 (.cells #[.int .i64 k', .int .i64 c', .int .i64 e', .int .i64 n', .int .i64 lsn', .int .i64 p', .int .i64 pg', .int .i64 sl', .bool wu, .string wd, .bool iu, .string ix, .int .i64 nx] 64)))
                  have hne1 : w2.heap.size ≠ cb := by have := (HQ.out.fc.below b1).lt; omega
                  have hne2 : w2.heap.size ≠ mb := by have := (HQ.out.fm.below b1).lt; omega
                  clear b1 CD c0 c1 f0 f1 pl m10
                  go_upto_region 34 with (fail)
                  obtain ⟨eb, heb⟩ : ∃ p, w2.heap.size = p := ⟨_, rfl⟩
                  rw [heb] at E3 hne1 hne2
                  (try simp only [heb])
                  generalize World.alloc w2 _ = w3 at E3 Q3 O3 ⊢
                  clear heb
                  have c1 := Q3.out.fc.cell 1 _ rfl
                  have f1 := Q3.out.fc.free 1
                  have pl := Q3.out.fc.lt
                  go_upto_region 35 with (fail)
                  clear c1 f1 pl
                  have kk := But.set cb 1 w3 (.bool true)
                  have Q4 := Lib.hid (Q3.out.cset (q' := q) (bd' := true) (Q3.out.fc.set 1 (.bool true)) kk)
                  have O4 := Lib.hid (Q3.out.row O3.out (by have := Q3.out.n1; omega) kk)
                  have E4 := Lib.hid (E3.out.but kk hne1)
                  clear kk
                  generalize World.setCell w3 _ _ = w4 at Q4 O4 E4 ⊢
                  have hb4 := Q4.out.fs
                  have m10 : w4.cell? ⟨mb, 10, none⟩ = some (.slice A' m cap') := Q4.out.fm.cell 10 _ rfl
                  obtain ⟨c0, c1, c2, c3, c4, c5, c6, c7, c8, c9, c10, c11, c12⟩ := EntAt.of E4.out
                  go_wp2_with (at_builtin; refine grow_new entElem rfl (.tmp 167) (.tmp 169) rfl base w4 (.slice A' m cap') m (flatE l) rfl O4.out 1 #[.int .i64 k', .int .i64 c', .int .i64 e', .int .i64 n', .int .i64 lsn', .int .i64 p', .int .i64 pg', .int .i64 sl', .bool wu, .string wd, .bool iu, .string ix, .int .i64 nx] rfl rfl (by simp [Value.oneCell']) (by omega) (by omega) hb4 ?_; intro v7 w7 R7 g7 b7; obtain ⟨A7, cap7, rfl, h71, h72⟩ := ownsRow_form R7; (have R7' := Lib.hid R7); (have Q7 := Lib.hid (Q4.out.low b7)); (have m10 : w7.cell? ⟨mb, 10, none⟩ = some (.slice A' m cap') := Q7.out.fm.cell 10 _ rfl); (have mf := Q7.out.fm.free 10); (have ml := Q7.out.fm.lt); (have c0 := Q7.out.fc.cell 0 _ rfl); (have f0 := Q7.out.fc.free 0); (have cl := Q7.out.fc.lt); (have hcm := Q7.out.n1.2.1); clear R7 g7 b7)
                  clear c0 c1 c2 c3 c4 c5 c6 c7 c8 c9 c10 c11 c12
                  have hl2 : Hid ((l ++ [X]).length = m + 1) := Lib.hid (by rw [List.length_append, HLn.out]; rfl)
                  have hro : Hid (w7.ownsRow base 64 13 (.slice A7 (m + 1) cap7) (m + 1) (flatE (l ++ [X]))) := Lib.hid (by rw [hrow.out, HXe.out]; exact R7'.out)
                  have hsm : Hid (∀ y ∈ l ++ [X], smallE y) := Lib.hid (fun y hy => by
                    rcases List.mem_append.1 hy with h | h
                    · exact HSm.out y h
                    · simp at h; subst h; exact HSx.out)
                  have kk := But.set mb 10 w7 (.slice A7 (m + 1) cap7)
                  have Q8 := Lib.hid (Q7.out.mset A7 (m + 1) cap7)
                  have O8 := Lib.hid (Q7.out.row hro.out (by have := Q7.out.n1; omega) kk)
                  have kk2 := But.set cb 0 (w7.setCell ⟨mb, 10, none⟩ (.slice A7 (m + 1) cap7)) (.string (bs q2))
                  have Q9 := Lib.hid (Q8.out.cset (q' := q2) (bd' := true) (Q8.out.fc.set 0 (.string (bs q2))) kk2)
                  have O9 := Lib.hid (Q8.out.row O8.out (by have := Q7.out.n1; omega) kk2)
                  clear kk kk2 O8 Q8
                  go_roundw
                  case rel => exact ⟨l ++ [X], m + 1, q2, true, A7, cap7, by go_num, by omega, h71, h72, hl2, HQ2, HF2, O9, hsm, Q9⟩
                  case measure => simp [intOf]; omega
              · have hm172 : (17 : Int) ≤ (m : Int) := by omega
                have hnm : (n9 != (m : Int)) = true := by simp [bne]; omega
                have TT : Hid (T = (l, q, false)) := Lib.hid (by rw [← HF.out]; exact esF_stop (by rw [HLn.out]; omega))
                clear HF HQl
                go_wp2_with fail
                go_meet
                obtain ⟨A2, c2, e2, hI, hfr⟩ := ents_of (w := wr) (v := .slice A' m cap') (by rw [HLn.out]; exact HO.out) HSm.out
                obtain ⟨rfl, rfl⟩ : A' = A2 ∧ cap' = c2 := by injection e2 with e1 e2 e3; exact ⟨e1, e3⟩
                rw [HLn.out] at hI
                have st : RSt w wr cb mb A n c A' m cap' ({ M6 with en := l }, q, false) := ⟨HQ.out.fc, HQ.out.fm, by show IsSlots wr A n c M6.sl; rw [HLs.out]; exact HS6.out.empty, hI, HQ.out.fo, HQ.out.fb, by have := HQl2.out; show q.length ≤ _; omega, HQ.out.n1.1, HQ.out.n1.2.1⟩
                refine ⟨A, n, c, A', m, cap', Lib.hid ?_⟩
                rw [EE.out, TT.out]
                have := st.scan (q := q) (bd := true) (st.fc.set 1 (.bool true)) (But.set cb 1 wr (.bool true)) (Nat.le_refl _)
                rw [show (n9 != (l.length : Int)) = true by rw [HLn.out]; exact hnm]; exact this
            · have hmn2 : n9 ≤ (m : Int) := by omega
              cases hnm : (n9 != (m : Int)) with
              | true =>
                have TT : Hid (T = (l, q, false)) := Lib.hid (by rw [← HF.out]; exact esF_stop (by rw [HLn.out]; omega))
                clear HF HQl
                go_wp2_with fail
                go_meet
                obtain ⟨A2, c2, e2, hI, hfr⟩ := ents_of (w := wr) (v := .slice A' m cap') (by rw [HLn.out]; exact HO.out) HSm.out
                obtain ⟨rfl, rfl⟩ : A' = A2 ∧ cap' = c2 := by injection e2 with e1 e2 e3; exact ⟨e1, e3⟩
                rw [HLn.out] at hI
                have st : RSt w wr cb mb A n c A' m cap' ({ M6 with en := l }, q, false) := ⟨HQ.out.fc, HQ.out.fm, by show IsSlots wr A n c M6.sl; rw [HLs.out]; exact HS6.out.empty, hI, HQ.out.fo, HQ.out.fb, by have := HQl2.out; show q.length ≤ _; omega, HQ.out.n1.1, HQ.out.n1.2.1⟩
                refine ⟨A, n, c, A', m, cap', Lib.hid ?_⟩
                rw [EE.out, TT.out]
                have := st.scan (q := q) (bd := true) (st.fc.set 1 (.bool true)) (But.set cb 1 wr (.bool true)) (Nat.le_refl _)
                rw [show (n9 != (l.length : Int)) = true by rw [HLn.out]; exact hnm]; exact this
              | false =>
                have TT : Hid (T = (l, q, false)) := Lib.hid (by rw [← HF.out]; exact esF_stop (by rw [HLn.out]; omega))
                clear HF HQl
                go_wp2_with fail
                go_meet
                obtain ⟨A2, c2, e2, hI, hfr⟩ := ents_of (w := wr) (v := .slice A' m cap') (by rw [HLn.out]; exact HO.out) HSm.out
                obtain ⟨rfl, rfl⟩ : A' = A2 ∧ cap' = c2 := by injection e2 with e1 e2 e3; exact ⟨e1, e3⟩
                rw [HLn.out] at hI
                have st : RSt w wr cb mb A n c A' m cap' ({ M6 with en := l }, q, false) := ⟨HQ.out.fc, HQ.out.fm, by show IsSlots wr A n c M6.sl; rw [HLs.out]; exact HS6.out.empty, hI, HQ.out.fo, HQ.out.fb, by have := HQl2.out; show q.length ≤ _; omega, HQ.out.n1.1, HQ.out.n1.2.1⟩
                refine ⟨A, n, c, A', m, cap', Lib.hid ?_⟩
                rw [EE.out, TT.out]
                have := st.scan (q := q) (bd := false) (st.fc.set 1 (.bool false)) (But.set cb 1 wr (.bool false)) (Nat.le_refl _)
                rw [show (n9 != (l.length : Int)) = false by rw [HLn.out]; exact hnm]; exact this
    case rest =>
    clear N0 S7 HN6 HL6
    obtain ⟨A, n, c, B, k', d, N0⟩ := hcut
    obtain ⟨M, q, bd⟩ := r7
    obtain ⟨hC, hm, hIS, hIE, hO, hB, _, hn⟩ := N0.out
    have HC := Lib.hid hC
    have HO := Lib.hid hO
    have HB := Lib.hid hB
    have HIS := Lib.hid hIS
    have HIE := Lib.hid hIE
    have HM := Lib.hid hm
    have CGd := Lib.hid (fun w h1 h2 => rmgood_any M A n c B k' d w h1 h2)
    (try simp only at HC HO HB HIS HIE HM)
    have c0 := HC.out.cell 0 _ rfl
    have c1 := HC.out.cell 1 _ rfl
    clear hC hm hIS hIE hO hB hn N0
    (try simp only)
    cases bd with
    | true =>
      have HE2 : Hid (R = (Ms.zero, 4)) := Lib.hid (by have hE := HE.out; rw [hE]; simp)
      clear HE
      go_wp2_with ((with_reducible refine at_store rfl ?_); refine wpList_put_row rfl _ _ _ rfl rfl w.heap.size _ rfl rfl _ _ HO.out (by kernel_rfl) rfl (by first | kernel_rfl | simp [Value.oneCell']) ?_; intro w8 Z8 B8)
      (try simp only [Exit.inBlock, Exit.then])
      refine bodyPost_ret (v := .tuple #[.agg #[.int .i64 0, .int .i64 0, .bool false, .bool false, .int .i64 0, .int .i64 0, .int .i64 0, .int .i64 0, .int .i64 0, .slice none 0 0, .slice none 0 0], .int .i64 4]) ?_ rfl (NDecPost.ofR HE2.out ⟨_, rfl, ⟨none, 0, 0, none, 0, 0, rfl, IsSlots.nil _, IsEnts.nil _⟩, ?_⟩)
      · exact Eq.trans (results_cell_one (p := 2) (u := 3) rfl _ _ w.heap.size _ _ _ fs rfl Z8 Hu.out (by kernel_rfl)) rfl
      · exact HB.out.trans (B8.below (Nat.le_refl _) HB.out.size)
    | false =>
      obtain ⟨UQ, hUQ⟩ : ∃ u, bs q = u := ⟨_, rfl⟩
      rw [hUQ] at c0
      by_cases hq : q = []
      · have hu1 : UQ.toList = [] := by rw [← hUQ, hq]; exact bs_toList []
        have hu2 : UQ.toList.isEmpty = true := by rw [hu1]; rfl
        have hu3 : (!UQ.toList.isEmpty) = false := by rw [hu1]; rfl
        have hq' : ¬ (q ≠ []) := by simpa using hq
        cases hgd : M.good with
        | false =>
          rw [hgd] at CGd
          have HE2 : Hid (R = (Ms.zero, 4)) := Lib.hid (by have hE := HE.out; rw [hE]; simp [hgd])
          clear HE
          simp only [Ms.row, msgC] at HM CGd
          clear hq hq' hgd hUQ
          have x0 := HM.out.cell 0 _ rfl
          have x1 := HM.out.cell 1 _ rfl
          have x2 := HM.out.cell 2 _ rfl
          have x3 := HM.out.cell 3 _ rfl
          have x4 := HM.out.cell 4 _ rfl
          have x5 := HM.out.cell 5 _ rfl
          have x6 := HM.out.cell 6 _ rfl
          have x7 := HM.out.cell 7 _ rfl
          have x8 := HM.out.cell 8 _ rfl
          have x9 := HM.out.cell 9 _ rfl
          have x10 := HM.out.cell 10 _ rfl
          go_wp2_with fail
          refine (CGd.out _ HIS.out HIE.out).mono ?_
          rintro e w7 ⟨rfl, b7⟩
          clear x0 x1 x2 x3 x4 x5 x6 x7 x8 x9 x10 CGd
          have HO := Lib.hid (HO.out.below b7)
          have HB := Lib.hid (bup HB.out b7)
          go_wp2_with ((with_reducible refine at_store rfl ?_); refine wpList_put_row rfl _ _ _ rfl rfl w.heap.size _ rfl rfl _ _ HO.out (by kernel_rfl) rfl (by first | kernel_rfl | simp [Value.oneCell']) ?_; intro w8 Z8 B8)
          (try simp only [Exit.inBlock, Exit.then])
          refine bodyPost_ret (v := .tuple #[.agg #[.int .i64 0, .int .i64 0, .bool false, .bool false, .int .i64 0, .int .i64 0, .int .i64 0, .int .i64 0, .int .i64 0, .slice none 0 0, .slice none 0 0], .int .i64 4]) ?_ rfl (NDecPost.ofR HE2.out ⟨_, rfl, ⟨none, 0, 0, none, 0, 0, rfl, IsSlots.nil _, IsEnts.nil _⟩, ?_⟩)
          · exact Eq.trans (results_cell_one (p := 2) (u := 3) rfl _ _ w.heap.size _ _ _ fs rfl Z8 Hu.out (by kernel_rfl)) rfl
          · exact HB.out.trans (B8.below (Nat.le_refl _) HB.out.size)
        | true =>
          rw [hgd] at CGd
          have HE2 : Hid (R = (M, 0)) := Lib.hid (by have hE := HE.out; rw [hE]; simp [hq, hgd])
          clear HE
          simp only [Ms.row, msgC] at HM CGd
          clear hq hq' hgd hUQ
          have x0 := HM.out.cell 0 _ rfl
          have x1 := HM.out.cell 1 _ rfl
          have x2 := HM.out.cell 2 _ rfl
          have x3 := HM.out.cell 3 _ rfl
          have x4 := HM.out.cell 4 _ rfl
          have x5 := HM.out.cell 5 _ rfl
          have x6 := HM.out.cell 6 _ rfl
          have x7 := HM.out.cell 7 _ rfl
          have x8 := HM.out.cell 8 _ rfl
          have x9 := HM.out.cell 9 _ rfl
          have x10 := HM.out.cell 10 _ rfl
          go_wp2_with fail
          refine (CGd.out _ HIS.out HIE.out).mono ?_
          rintro e w7 ⟨rfl, b7⟩
          clear x0 x1 x2 x3 x4 x5 x6 x7 x8 x9 x10 CGd
          have HO := Lib.hid (HO.out.below b7)
          have HB := Lib.hid (bup HB.out b7)
          have HM := Lib.hid (HM.out.below b7)
          have HIS := Lib.hid (HIS.out.below b7)
          have HIE := Lib.hid (HIE.out.below b7)
          have x0 := HM.out.cell 0 _ rfl
          have x1 := HM.out.cell 1 _ rfl
          have x2 := HM.out.cell 2 _ rfl
          have x3 := HM.out.cell 3 _ rfl
          have x4 := HM.out.cell 4 _ rfl
          have x5 := HM.out.cell 5 _ rfl
          have x6 := HM.out.cell 6 _ rfl
          have x7 := HM.out.cell 7 _ rfl
          have x8 := HM.out.cell 8 _ rfl
          have x9 := HM.out.cell 9 _ rfl
          have x10 := HM.out.cell 10 _ rfl
          go_wp2_with ((with_reducible refine at_store rfl ?_); refine wpList_put_row rfl _ _ _ rfl rfl w.heap.size _ rfl rfl _ _ HO.out (by kernel_rfl) rfl (by first | kernel_rfl | simp [Value.oneCell']) ?_; intro w8 Z8 B8)
          (try simp only [Exit.inBlock, Exit.then])
          refine bodyPost_ret (v := .tuple #[.agg #[.int .i64 M.kind, .int .i64 M.page, .bool M.x, .bool M.need, .int .i64 M.n, .int .i64 M.tc, .int .i64 M.te, .int .i64 M.tn, .int .i64 M.lsn, .slice A n c, .slice B k' d], .int .i64 0]) ?_ rfl (NDecPost.ofR HE2.out ⟨_, rfl, ⟨A, n, c, B, k', d, rfl, HIS.out.apartM (m := Ms.zero) HO.out B8, HIE.out.apart HO.out (by simp) B8⟩, ?_⟩)
          · exact Eq.trans (results_cell_one (p := 2) (u := 3) rfl _ _ w.heap.size _ _ _ fs rfl Z8 Hu.out (by kernel_rfl)) rfl
          · exact HB.out.trans (B8.below (Nat.le_refl _) HB.out.size)
      · have hu1 : UQ.toList ≠ [] := by rw [← hUQ, bs_toList]; exact hq
        have hu2 : UQ.toList.isEmpty = false := by cases h : UQ.toList with | nil => exact absurd h hu1 | cons a b => rfl
        have hu3 : (!UQ.toList.isEmpty) = true := by rw [hu2]; rfl
        have HE2 : Hid (R = (Ms.zero, 4)) := Lib.hid (by have hE := HE.out; rw [hE]; simp [hq])
        clear HE
        clear hq hUQ
        go_wp2_with ((with_reducible refine at_store rfl ?_); refine wpList_put_row rfl _ _ _ rfl rfl w.heap.size _ rfl rfl _ _ HO.out (by kernel_rfl) rfl (by first | kernel_rfl | simp [Value.oneCell']) ?_; intro w8 Z8 B8)
        (try simp only [Exit.inBlock, Exit.then])
        refine bodyPost_ret (v := .tuple #[.agg #[.int .i64 0, .int .i64 0, .bool false, .bool false, .int .i64 0, .int .i64 0, .int .i64 0, .int .i64 0, .int .i64 0, .slice none 0 0, .slice none 0 0], .int .i64 4]) ?_ rfl (NDecPost.ofR HE2.out ⟨_, rfl, ⟨none, 0, 0, none, 0, 0, rfl, IsSlots.nil _, IsEnts.nil _⟩, ?_⟩)
        · exact Eq.trans (results_cell_one (p := 2) (u := 3) rfl _ _ w.heap.size _ _ _ fs rfl Z8 Hu.out (by kernel_rfl)) rfl
        · exact HB.out.trans (B8.below (Nat.le_refl _) HB.out.size)
theorem rdc_any (s : ByteArray) (w : World) (hs : s.size ≤ 9223372036854775807) : Calls Try.prog 18 #[.string s] w (NDecPost (decM s.data.toList) w) := by
  have e : s.data.toList.length = s.size := Array.length_toList
  by_cases h : s.size < 4
  · have := rdc_short s w h
    rwa [show decM s.data.toList = (Ms.zero, 3) by unfold decM; rw [if_pos (by omega)]]
  · exact rdc_long s.data.toList w (by omega) (by omega)
end Go.Proofs.Ytakdagmkkelnfaa
