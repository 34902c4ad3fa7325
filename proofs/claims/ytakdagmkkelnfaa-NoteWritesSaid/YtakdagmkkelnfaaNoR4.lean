/-
  A message's bytes, as the document says it.
-/
import Derived.Test.YtakdagmkkelnfaaNoR3
import Derived.Test.YtakdagmkkelnfaaNoE
import Derived.Test.YtakdagmkkelnfaaEntRenc
import Derived.Deep.Cut
import Derived.Lib.QuietBelow
namespace Go.Proofs.Ytakdagmkkelnfaa
open Go.RowKit Go.Sort NibPure SumPure
set_option linter.unusedVariables false
set_option linter.unusedSimpArgs false
/-- The four bytes of a number, as they are laid. -/
theorem high4 (z : Nat) : highN z 4 = [UInt8.ofNat (z / 16777216 % 256), UInt8.ofNat (z / 65536 % 256), UInt8.ofNat (z / 256 % 256), UInt8.ofNat (z % 256)] := by
  unfold highN hiK
  rw [show List.range 4 = [0, 1, 2, 3] from rfl]
  simp
theorem high4_vals (z : Nat) : byteVals (highN z 4) = [.int .u8 ((z : Int) / 16777216 % 256), .int .u8 ((z : Int) / 65536 % 256), .int .u8 ((z : Int) / 256 % 256), .int .u8 ((z : Int) % 256)] := by
  rw [high4]
  simp only [byteVals, List.map_cons, List.map_nil]
  rw [← u8_is _ (Nat.mod_lt _ (by omega)), ← u8_is _ (Nat.mod_lt _ (by omega)), ← u8_is _ (Nat.mod_lt _ (by omega)), ← u8_is _ (Nat.mod_lt _ (by omega))]
  simp
set_option maxRecDepth 100000 in
set_option maxHeartbeats 16000000 in
theorem rmencode_good (m : Ms) (A : Option Addr) (sn sc : Nat) (B : Option Addr) (en ec : Nat) (w : World) (hS : IsSlots w A sn sc m.sl) (hE : IsEnts w B en ec m.en) (hg : m.good = true) :
    Calls Try.prog 16 #[.agg (m.row A sn sc B en ec)] w fun r w' => r = .returned (.tuple #[.string (bs (withSum m.body)), .int .i64 0]) ∧ Below w.heap.size w w' := by
  have CG := Lib.hid (fun w hS hE => rmgood_any m A sn sc B en ec w hS hE)
  rw [hg] at CG
  have G := good_m hg
  have hgis := G.is
  have hgp := G.p
  have hgt := fun h => known_bd (G.t h)
  have hgc := G.c
  have hgi := G.i
  have hgall := G.g
  have hee : m.en.length ≤ 16 := by
    cases hf : kE m.kind with
    | true => exact G.e hf
    | false => rw [G.e0 hf]; simp
  have hbl := (body_len hg).2
  have hel0 := G.e0
  clear G hg
  obtain ⟨q1, q2, q3, q4, q5, q6, q7, q8⟩ := hasL_in m.kind m.need
  have CP := Lib.hid (fun w => rletter_any 112 m.kind m.need _ q1 w)
  have CX := Lib.hid (fun w => rletter_any 120 m.kind m.need _ q2 w)
  have CN := Lib.hid (fun w => rletter_any 110 m.kind m.need _ q3 w)
  have CT := Lib.hid (fun w => rletter_any 116 m.kind m.need _ q4 w)
  have CC := Lib.hid (fun w => rletter_any 107 m.kind m.need _ q5 w)
  have CI := Lib.hid (fun w => rletter_any 105 m.kind m.need _ q6 w)
  have CE := Lib.hid (fun w => rletter_any 101 m.kind m.need _ q7 w)
  clear q1 q2 q3 q4 q5 q6 q7 q8
  have hb0 : m.b0 = enc m.kind := rfl
  obtain ⟨a0, ha0⟩ : ∃ l, m.b0 = l := ⟨_, rfl⟩
  obtain ⟨a1, ha1⟩ : ∃ l, m.b1 = l := ⟨_, rfl⟩
  obtain ⟨a2, ha2⟩ : ∃ l, m.b2 = l := ⟨_, rfl⟩
  obtain ⟨a3, ha3⟩ : ∃ l, m.b3 = l := ⟨_, rfl⟩
  obtain ⟨a4, ha4⟩ : ∃ l, m.b4 = l := ⟨_, rfl⟩
  obtain ⟨a5, ha5⟩ : ∃ l, m.b5 = l := ⟨_, rfl⟩
  obtain ⟨a6, ha6⟩ : ∃ l, m.b6 = l := ⟨_, rfl⟩
  obtain ⟨a7, ha7⟩ : ∃ l, m.b7 = l := ⟨_, rfl⟩
  have s1 : a1 = if kP m.kind then a0 ++ enc m.page else a0 := by rw [← ha1, ← ha0]; rfl
  have s2 : a2 = if kX m.kind then a1 ++ enc (b2i m.x) else a1 := by rw [← ha2, ← ha1]; rfl
  have s3 : a3 = if kN m.kind then a2 ++ enc (b2i m.need) else a2 := by rw [← ha3, ← ha2]; rfl
  have s4 : a4 = if kT m.kind then a3 ++ (enc m.tc ++ enc m.te ++ enc m.tn) else a3 := by rw [← ha4, ← ha3]; rfl
  have s5 : a5 = if kC m.kind then a4 ++ enc m.n else a4 := by rw [← ha5, ← ha4]; rfl
  have s6 : a6 = if kI m.kind m.need then a5 ++ pgBytes m.lsn m.sl else a5 := by rw [← ha6, ← ha5]; rfl
  have s7 : a7 = if kE m.kind then a6 ++ enc m.en.length else a6 := by rw [← ha7, ← ha6]; rfl
  have hbody : m.body = a7 ++ entsEnc m.en := by rw [← ha7]; rfl
  rw [hb0] at ha0
  rw [hbody] at hbl ⊢
  obtain ⟨RR, hRR⟩ : ∃ R, withSum (a7 ++ entsEnc m.en) = R := ⟨_, rfl⟩
  rw [hRR]
  clear ha1 ha2 ha3 ha4 ha5 ha6 ha7 hb0 hbody
  obtain ⟨k, pg, x, need, n, tc, te, tn, lsn, sl, el⟩ := m
  simp only [Ms.row, msgC] at *
  have HRR := Lib.hid hRR
  clear hRR
  have HS := Lib.hid hS
  have HE := Lib.hid hE
  have hcap := hE.cap
  have hmost := hE.most
  have C1 := Lib.hid (fun w => rhas_any k pg x need n tc te tn lsn A sn sc B en ec w)
  obtain ⟨U, hU⟩ : ∃ U, bs (hasL k need) = U := ⟨_, rfl⟩
  obtain ⟨fp, g0⟩ : ∃ b, kP k = b := ⟨_, rfl⟩
  obtain ⟨fx, g1⟩ : ∃ b, kX k = b := ⟨_, rfl⟩
  obtain ⟨fn, g2⟩ : ∃ b, kN k = b := ⟨_, rfl⟩
  obtain ⟨ft, g3⟩ : ∃ b, kT k = b := ⟨_, rfl⟩
  obtain ⟨fc, g4⟩ : ∃ b, kC k = b := ⟨_, rfl⟩
  obtain ⟨fi, g5⟩ : ∃ b, kI k need = b := ⟨_, rfl⟩
  obtain ⟨fe, g6⟩ : ∃ b, kE k = b := ⟨_, rfl⟩
  rw [hU] at C1 CP CX CN CT CC CI CE
  rw [g0] at hgp s1 CP
  rw [g1] at s2 CX
  rw [g2] at s3 CN
  rw [g3] at hgt s4 CT
  rw [g4] at hgc s5 CC
  rw [g5] at hgi s6 CI
  rw [g6] at s7 CE hel0
  have n0 : a0.length ≤ 10 := by rw [← ha0]; exact enc_len k
  have n1 : a1.length ≤ 20 := by have := enc_len pg; rw [s1]; split <;> (try simp only [List.length_append]) <;> omega
  have n2 : a2.length ≤ 30 := by have := enc_len (b2i x); rw [s2]; split <;> (try simp only [List.length_append]) <;> omega
  have n3 : a3.length ≤ 40 := by have := enc_len (b2i need); rw [s3]; split <;> (try simp only [List.length_append]) <;> omega
  have n4 : a4.length ≤ 70 := by have := enc_len tc; have := enc_len te; have := enc_len tn; rw [s4]; split <;> (try simp only [List.length_append]) <;> omega
  have n5 : a5.length ≤ 80 := by have := enc_len n; rw [s5]; split <;> (try simp only [List.length_append]) <;> omega
  have n6 : a6.length ≤ 320 := by
    rw [s6]
    split
    · rename_i hf; rw [List.length_append, pgBytes_len (hgi hf)]; omega
    · omega
  have n7 : a7.length ≤ 330 := by have := enc_len (el.length : Int); rw [s7]; split <;> (try simp only [List.length_append]) <;> omega
  have S1 := Lib.hid s1
  have S2 := Lib.hid s2
  have S3 := Lib.hid s3
  have S4 := Lib.hid s4
  have S5 := Lib.hid s5
  have S6 := Lib.hid s6
  have S7 := Lib.hid s7
  have S0 := Lib.hid ha0
  have N0 := Lib.hid n0
  have N1 := Lib.hid n1
  have N2 := Lib.hid n2
  have N3 := Lib.hid n3
  have N4 := Lib.hid n4
  have N5 := Lib.hid n5
  have N6 := Lib.hid n6
  have N7 := Lib.hid n7
  have GP := Lib.hid hgp
  have GT := Lib.hid hgt
  have GC := Lib.hid hgc
  have GI := Lib.hid hgi
  have GA := Lib.hid hgall
  have GE := Lib.hid hee
  have GB := Lib.hid hbl
  have HEL := Lib.hid hel0
  have C2 := Lib.hid (fun w => refInt_any k w (by omega) (by omega))
  rw [ha0] at C2
  clear g0 g1 g2 g3 g4 g5 g6 s1 s2 s3 s4 s5 s6 s7 ha0 n0 n1 n2 n3 n4 n5 n6 n7 hgp hgt hgc hgi hgall hee hS hE hgis hU hbl hel0
  go_enter Try.func16, Try.ntmps16
  go_wp2_with fail
  refine (CG.out _ (HS.out.alloc _) (HE.out.below (bnew w _))).mono ?_
  rintro e w1 ⟨rfl, b1⟩
  have X := Lib.hid ((Has.new w _).below b1)
  have BW := Lib.hid (bup (bnew w _) b1)
  clear b1 CG
  have x0 := X.out.cell 0 _ rfl
  have x1 := X.out.cell 1 _ rfl
  have x2 := X.out.cell 2 _ rfl
  have x3 := X.out.cell 3 _ rfl
  have x4 := X.out.cell 4 _ rfl
  have x5 := X.out.cell 5 _ rfl
  have x6 := X.out.cell 6 _ rfl
  have x7 := X.out.cell 7 _ rfl
  have x8 := X.out.cell 8 _ rfl
  have x9 := X.out.cell 9 _ rfl
  have x10 := X.out.cell 10 _ rfl
  go_wp2_with fail
  refine (C1.out _).mono ?_
  rintro e wb ⟨rfl, b1⟩
  clear x0 x1 x2 x3 x4 x5 x6 x7 x8 x9 x10
  replace X := Lib.hid (X.out.below b1)
  replace BW := Lib.hid (bup BW.out b1)
  clear b1
  clear C1
  have x0 := X.out.cell 0 _ rfl
  go_wp2_with fail
  refine (C2.out _).mono ?_
  rintro e wb ⟨rfl, b1⟩
  clear x0
  replace X := Lib.hid (X.out.below b1)
  replace BW := Lib.hid (bup BW.out b1)
  clear b1
  clear C2
  go_wp2_with fail
  refine (CP.out _).mono ?_
  rintro e wb ⟨rfl, b1⟩
  replace X := Lib.hid (X.out.below b1)
  replace BW := Lib.hid (bup BW.out b1)
  clear b1
  clear CP
  go_upto_if 21 with (fail)
  go_cut [5] from 22 to 26 (fun v wx => v = .string (bs a1) ∧ Hid (Below w.heap.size w wx) ∧ Hid (Has wx w.heap.size (.cells #[.int .i64 k, .int .i64 pg, .bool x, .bool need, .int .i64 n, .int .i64 tc, .int .i64 te, .int .i64 tn, .int .i64 lsn, .slice A sn sc, .slice B en ec] 32)))
  case first =>
    cases fp with
    | true =>
      have SS : a1 = a0 ++ (enc pg) := by have := S1.out; simpa using this
      have hadd : ∀ w, (Op.stringOp .add (bs a0) (bs (enc pg))).run Try.prog w = .ok (.string (bs a1)) w := fun w => by rw [SS]; exact add_lists' a0 (enc pg) (by have := N0.out; have := enc_len pg; omega) w
      clear SS
      have hb := GP.out rfl
      have x1 := X.out.cell 1 _ rfl
      go_wp2_with fail
      refine (refInt_any pg _ (by omega) (by omega)).mono ?_
      rintro e wc2 ⟨rfl, b1⟩
      go_wp2_with fail
      go_meet
      exact ⟨rfl, Lib.hid (bup BW.out b1), Lib.hid (X.out.below b1)⟩
    | false =>
      obtain rfl : a1 = a0 := by have := S1.out; simpa using this
      go_wp2_with fail
      go_meet
      exact ⟨rfl, BW, X⟩
  case rest =>
    obtain ⟨rfl, BW', X'⟩ := hcut
    clear BW X
    have BW := BW'
    have X := X'
    clear BW' X'
    go_wp2_with fail
    refine (CX.out _).mono ?_
    rintro e wb ⟨rfl, b1⟩
    replace X := Lib.hid (X.out.below b1)
    replace BW := Lib.hid (bup BW.out b1)
    clear b1
    clear CX
    go_upto_if 28 with (fail)
    go_cut [5] from 29 to 33 (fun v wx => v = .string (bs a2) ∧ Hid (Below w.heap.size w wx) ∧ Hid (Has wx w.heap.size (.cells #[.int .i64 k, .int .i64 pg, .bool x, .bool need, .int .i64 n, .int .i64 tc, .int .i64 te, .int .i64 tn, .int .i64 lsn, .slice A sn sc, .slice B en ec] 32)))
    case first =>
      cases fx with
      | true =>
        have SS : a2 = a1 ++ (enc (b2i x)) := by have := S2.out; simpa using this
        have hadd : ∀ w, (Op.stringOp .add (bs a1) (bs (enc (b2i x)))).run Try.prog w = .ok (.string (bs a2)) w := fun w => by rw [SS]; exact add_lists' a1 (enc (b2i x)) (by have := N1.out; have := enc_len (b2i x); omega) w
        clear SS
        have x2 := X.out.cell 2 _ rfl
        go_wp2_with fail
        refine (rone_any x _).mono ?_
        rintro e wc2 ⟨rfl, b1⟩
        go_wp2_with fail
        go_meet
        exact ⟨rfl, Lib.hid (bup BW.out b1), Lib.hid (X.out.below b1)⟩
      | false =>
        obtain rfl : a2 = a1 := by have := S2.out; simpa using this
        go_wp2_with fail
        go_meet
        exact ⟨rfl, BW, X⟩
    case rest =>
      obtain ⟨rfl, BW', X'⟩ := hcut
      clear BW X
      have BW := BW'
      have X := X'
      clear BW' X'
      go_wp2_with fail
      refine (CN.out _).mono ?_
      rintro e wb ⟨rfl, b1⟩
      replace X := Lib.hid (X.out.below b1)
      replace BW := Lib.hid (bup BW.out b1)
      clear b1
      clear CN
      go_upto_if 35 with (fail)
      go_cut [5] from 36 to 40 (fun v wx => v = .string (bs a3) ∧ Hid (Below w.heap.size w wx) ∧ Hid (Has wx w.heap.size (.cells #[.int .i64 k, .int .i64 pg, .bool x, .bool need, .int .i64 n, .int .i64 tc, .int .i64 te, .int .i64 tn, .int .i64 lsn, .slice A sn sc, .slice B en ec] 32)))
      case first =>
        cases fn with
        | true =>
          have SS : a3 = a2 ++ (enc (b2i need)) := by have := S3.out; simpa using this
          have hadd : ∀ w, (Op.stringOp .add (bs a2) (bs (enc (b2i need)))).run Try.prog w = .ok (.string (bs a3)) w := fun w => by rw [SS]; exact add_lists' a2 (enc (b2i need)) (by have := N2.out; have := enc_len (b2i need); omega) w
          clear SS
          have x3 := X.out.cell 3 _ rfl
          go_wp2_with fail
          refine (rone_any need _).mono ?_
          rintro e wc2 ⟨rfl, b1⟩
          go_wp2_with fail
          go_meet
          exact ⟨rfl, Lib.hid (bup BW.out b1), Lib.hid (X.out.below b1)⟩
        | false =>
          obtain rfl : a3 = a2 := by have := S3.out; simpa using this
          go_wp2_with fail
          go_meet
          exact ⟨rfl, BW, X⟩
      case rest =>
        obtain ⟨rfl, BW', X'⟩ := hcut
        clear BW X
        have BW := BW'
        have X := X'
        clear BW' X'
        go_wp2_with fail
        refine (CT.out _).mono ?_
        rintro e wb ⟨rfl, b1⟩
        replace X := Lib.hid (X.out.below b1)
        replace BW := Lib.hid (bup BW.out b1)
        clear b1
        clear CT
        go_upto_if 42 with (fail)
        go_cut [5] from 43 to 58 (fun v wx => v = .string (bs a4) ∧ Hid (Below w.heap.size w wx) ∧ Hid (Has wx w.heap.size (.cells #[.int .i64 k, .int .i64 pg, .bool x, .bool need, .int .i64 n, .int .i64 tc, .int .i64 te, .int .i64 tn, .int .i64 lsn, .slice A sn sc, .slice B en ec] 32)))
        case first =>
          cases ft with
          | true =>
            have SS : a4 = a3 ++ (enc tc ++ (enc te ++ enc tn)) := by have := S4.out; simpa using this
            have hadd : ∀ w, (Op.stringOp .add (bs a3) (bs (enc tc ++ (enc te ++ enc tn)))).run Try.prog w = .ok (.string (bs a4)) w := fun w => by rw [SS]; exact add_lists' a3 (enc tc ++ (enc te ++ enc tn)) (by have := N3.out; have := enc_len tc; have := enc_len te; have := enc_len tn; simp only [List.length_append]; omega) w
            have hadd1 : ∀ w, (Op.stringOp .add (bs a3) (bs (enc tc))).run Try.prog w = .ok (.string (bs (a3 ++ enc tc))) w := fun w => add_lists' a3 (enc tc) (by have := N3.out; have := enc_len tc; omega) w
            have hadd2 : ∀ w, (Op.stringOp .add (bs (a3 ++ enc tc)) (bs (enc te))).run Try.prog w = .ok (.string (bs (a3 ++ (enc tc ++ enc te)))) w := fun w => by rw [← List.append_assoc]; exact add_lists' (a3 ++ enc tc) (enc te) (by have := N3.out; have := enc_len tc; have := enc_len te; simp only [List.length_append]; omega) w
            have hadd3 : ∀ w, (Op.stringOp .add (bs (a3 ++ (enc tc ++ enc te))) (bs (enc tn))).run Try.prog w = .ok (.string (bs a4)) w := fun w => by rw [show a4 = (a3 ++ (enc tc ++ enc te)) ++ enc tn by rw [SS]; simp only [List.append_assoc]]; exact add_lists' (a3 ++ (enc tc ++ enc te)) (enc tn) (by have := N3.out; have := enc_len tc; have := enc_len te; have := enc_len tn; simp only [List.length_append]; omega) w
            clear hadd
            clear SS
            have hb := GT.out rfl
            have c1 := fun d os => Calls.regrown_of (refInt_any tc (grow (redrawn wb d) os) (by omega) (by omega))
            have c2 := fun d os => Calls.regrown_of (refInt_any te (grow (redrawn wb d) os) (by omega) (by omega))
            have c3 := fun d os => Calls.regrown_of (refInt_any tn (grow (redrawn wb d) os) (by omega) (by omega))
            have x5 := cell_regrown (X.out.cell 5 _ rfl)
            have x6 := cell_regrown (X.out.cell 6 _ rfl)
            have x7 := cell_regrown (X.out.cell 7 _ rfl)
            clear hb
            go_upto_region 12 with (fail)
            refine wp_region_quiet_below (by kernel_rfl) (by kernel_rfl) ?_
            repeat (quiet_step (first | (with_reducible exact c1 _ _) | (with_reducible exact c2 _ _) | (with_reducible exact c3 _ _)))
            refine wpQuiet_nil ?_
            intro _ hw4
            obtain ⟨⟨dq, osq⟩, hw5⟩ := hw4
            subst hw5
            have b1 := below_regrown wb dq osq
            go_wp2_with fail
            go_meet
            exact ⟨rfl, Lib.hid (bup BW.out b1), Lib.hid (X.out.below b1)⟩
          | false =>
            obtain rfl : a4 = a3 := by have := S4.out; simpa using this
            go_wp2_with fail
            go_meet
            exact ⟨rfl, BW, X⟩
        case rest =>
          obtain ⟨rfl, BW', X'⟩ := hcut
          clear BW X
          have BW := BW'
          have X := X'
          clear BW' X'
          go_wp2_with fail
          refine (CC.out _).mono ?_
          rintro e wb ⟨rfl, b1⟩
          replace X := Lib.hid (X.out.below b1)
          replace BW := Lib.hid (bup BW.out b1)
          clear b1
          clear CC
          go_upto_if 60 with (fail)
          go_cut [5] from 61 to 65 (fun v wx => v = .string (bs a5) ∧ Hid (Below w.heap.size w wx) ∧ Hid (Has wx w.heap.size (.cells #[.int .i64 k, .int .i64 pg, .bool x, .bool need, .int .i64 n, .int .i64 tc, .int .i64 te, .int .i64 tn, .int .i64 lsn, .slice A sn sc, .slice B en ec] 32)))
          case first =>
            cases fc with
            | true =>
              have SS : a5 = a4 ++ (enc n) := by have := S5.out; simpa using this
              have hadd : ∀ w, (Op.stringOp .add (bs a4) (bs (enc n))).run Try.prog w = .ok (.string (bs a5)) w := fun w => by rw [SS]; exact add_lists' a4 (enc n) (by have := N4.out; have := enc_len n; omega) w
              clear SS
              have hb := GC.out rfl
              have x4 := X.out.cell 4 _ rfl
              go_wp2_with fail
              refine (refInt_any n _ (by omega) (by omega)).mono ?_
              rintro e wc2 ⟨rfl, b1⟩
              go_wp2_with fail
              go_meet
              exact ⟨rfl, Lib.hid (bup BW.out b1), Lib.hid (X.out.below b1)⟩
            | false =>
              obtain rfl : a5 = a4 := by have := S5.out; simpa using this
              go_wp2_with fail
              go_meet
              exact ⟨rfl, BW, X⟩
          case rest =>
            obtain ⟨rfl, BW', X'⟩ := hcut
            clear BW X
            have BW := BW'
            have X := X'
            clear BW' X'
            go_wp2_with fail
            refine (CI.out _).mono ?_
            rintro e wb ⟨rfl, b1⟩
            replace X := Lib.hid (X.out.below b1)
            replace BW := Lib.hid (bup BW.out b1)
            clear b1
            clear CI
            go_upto_if 67 with (fail)
            go_cut [5] from 68 to 76 (fun v wx => v = .string (bs a6) ∧ Hid (Below w.heap.size w wx) ∧ Hid (Has wx w.heap.size (.cells #[.int .i64 k, .int .i64 pg, .bool x, .bool need, .int .i64 n, .int .i64 tc, .int .i64 te, .int .i64 tn, .int .i64 lsn, .slice A sn sc, .slice B en ec] 32)))
            case first =>
              cases fi with
              | true =>
                have SS : a6 = a5 ++ (pgBytes lsn sl) := by have := S6.out; simpa using this
                have hadd : ∀ w, (Op.stringOp .add (bs a5) (bs (pgBytes lsn sl))).run Try.prog w = .ok (.string (bs a6)) w := fun w => by rw [SS]; exact add_lists' a5 (pgBytes lsn sl) (by have := N5.out; rw [pgBytes_len (GI.out rfl)]; omega) w
                clear SS
                have hg := GI.out rfl
                have CE2 := fun w h => renc_any lsn A sn sc sl w h
                rw [show pgEnc lsn sl = (pgBytes lsn sl, 0) by unfold pgEnc; rw [if_pos hg]] at CE2
                replace CE2 := Lib.hid CE2
                clear hg
                have x8 := X.out.cell 8 _ rfl
                have x9 := X.out.cell 9 _ rfl
                go_wp2_with fail
                refine (CE2.out _ (HS.out.below BW.out)).mono ?_
                rintro e wc2 ⟨rfl, b1⟩
                go_wp2_with fail
                go_meet
                exact ⟨rfl, Lib.hid (bup BW.out b1), Lib.hid (X.out.below b1)⟩
              | false =>
                obtain rfl : a6 = a5 := by have := S6.out; simpa using this
                go_wp2_with fail
                go_meet
                exact ⟨rfl, BW, X⟩
            case rest =>
              obtain ⟨rfl, BW', X'⟩ := hcut
              clear BW X
              have BW := BW'
              have X := X'
              clear BW' X'
              go_wp2_with fail
              refine (CE.out _).mono ?_
              rintro e wb ⟨rfl, b1⟩
              replace X := Lib.hid (X.out.below b1)
              replace BW := Lib.hid (bup BW.out b1)
              clear b1
              clear CE
              go_upto_if 78 with (fail)
              go_cut [5] from 79 to 103 (fun v wx => v = .string (bs (a7 ++ entsEnc el)) ∧ Hid (Below w.heap.size w wx))
              case first =>
                cases fe with
                | false =>
                  have hel : el = [] := HEL.out rfl
                  obtain rfl : a7 = a6 := by have := S7.out; simpa using this
                  go_wp2_with fail
                  go_meet
                  exact ⟨by rw [hel]; simp [entsEnc], BW⟩
                | true =>
                  have SS : a7 = a6 ++ (enc (el.length : Int)) := by have := S7.out; simpa using this
                  have hl := HE.out.len
                  have hadd : ∀ w, (Op.stringOp .add (bs a6) (bs (enc (en : Int)))).run Try.prog w = .ok (.string (bs a7)) w := fun w => by rw [SS, hl]; exact add_lists' a6 (enc (en : Int)) (by have := N6.out; have := enc_len (en : Int); omega) w
                  have hen : en ≤ 16 := by have := GE.out; omega
                  have HL := Lib.hid hl
                  clear SS hl
                  have x10 := X.out.cell 10 _ rfl
                  go_wp2_with fail
                  refine (refInt_any (en : Int) _ (by omega) (by omega)).mono ?_
                  rintro e wb ⟨rfl, b1⟩
                  clear x10
                  replace X := Lib.hid (X.out.below b1)
                  replace BW := Lib.hid (bup BW.out b1)
                  clear b1
                  go_wp2_with fail
                  go_loopw [5, 8] (fun s i wr => ∃ j : Nat, j ≤ en ∧ i = .int .i64 j ∧ s = .string (bs (a7 ++ entsEnc (el.take j))) ∧ Hid (Below wb.heap.size wb wr)) (fun _ i _ => en - (intOf i).toNat)
                  case atStart => exact ⟨0, by omega, rfl, by rw [List.take_zero]; simp [entsEnc], Lib.hid (Below.refl _ _)⟩
                  case round =>
                    obtain ⟨j, hj, rfl, rfl, HB⟩ := hrel
                    have x10 := (X.out.below HB.out).cell 10 _ rfl
                    by_cases hlt : j < en
                    · obtain ⟨y, hy⟩ : ∃ y, el[j]? = some y := ⟨_, List.getElem?_eq_getElem (by rw [HL.out]; exact hlt)⟩
                      obtain ⟨b, off, rfl, hbl, hEn⟩ := HE.out.here hy
                      have hEn := (hEn.below hbl BW.out).below (Nat.lt_of_lt_of_le hbl BW.out.size) HB.out
                      have hsz := HE.out.small y (List.mem_of_getElem? hy)
                      have hyg : y.good = true := List.all_eq_true.1 GA.out y (List.mem_of_getElem? hy)
                      have CE := fun w => rencode_any y (by omega) (by omega) w
                      rw [show y.encRes = .tuple #[.string (bs y.bytes), .int .i64 0] by simp [Ent.encRes, hyg]] at CE
                      have HT := Lib.hid (entsEnc_take el j y hy)
                      have hl1 := entsEnc_le el j GA.out
                      have hl2 := bytes_len y hyg
                      have hadd : ∀ w, (Op.stringOp .add (bs (a7 ++ entsEnc (el.take j))) (bs y.bytes)).run Try.prog w = .ok (.string (bs (a7 ++ entsEnc (el.take (j + 1))))) w := fun w => by
                        rw [HT.out, ← List.append_assoc]
                        exact add_lists' _ _ (by have := N7.out; have := HL.out; simp only [List.length_append]; omega) w
                      clear hy hsz hyg hl1 hl2 hbl
                      obtain ⟨yb, hyb⟩ : ∃ l, y.bytes = l := ⟨_, rfl⟩
                      rw [hyb] at CE hadd
                      obtain ⟨c0, c1, c2, c3, c4, c5, c6, c7, c8, c9, c10, c11, c12⟩ := hEn
                      simp only [Ent.val, Ent.row] at CE
                      replace CE := Lib.hid CE
                      clear hyb HT
                      go_wp2_with fail
                      refine (CE.out _).mono ?_
                      rintro e wc2 ⟨rfl, b1⟩
                      clear c0 c1 c2 c3 c4 c5 c6 c7 c8 c9 c10 c11 c12 CE
                      go_wp2_with fail
                      go_roundw
                      case rel => exact ⟨j + 1, by omega, by go_num, rfl, Lib.hid (bup HB.out b1)⟩
                      case measure => simp [intOf]; omega
                    · obtain rfl : j = en := by omega
                      have hz : Hid (el.take j = el) := Lib.hid (List.take_of_length_le (by rw [HL.out]; omega))
                      go_wp2_with fail
                      go_meet
                      exact ⟨by rw [hz.out], Lib.hid (bup BW.out HB.out)⟩
              case rest =>
                obtain ⟨rfl, BW'⟩ := hcut
                clear BW X
                have BW := BW'
                clear BW'
                obtain ⟨LL, hLL⟩ : ∃ l, a7 ++ entsEnc el = l := ⟨_, rfl⟩
                have hbl := GB.out
                have hsl := sum_lt LL
                have CS := fun w => refOf_any (bs LL) w (by rw [bs_size, ← hLL]; omega)
                rw [bs_data] at CS
                obtain ⟨z, hz⟩ : ∃ z, sum LL = z := ⟨_, rfl⟩
                have hw : RR = highN z 4 ++ LL := by rw [← HRR.out, hLL]; unfold withSum; rw [hz]
                rw [hLL] at hbl
                rw [hz] at CS hsl
                have hadd : ∀ w, (Op.stringOp .add (bs (highN z 4)) (bs LL)).run Try.prog w = .ok (.string (bs RR)) w := fun w => by rw [hw]; exact add_lists' (highN z 4) LL (by rw [highN_len]; omega) w
                have CS := Lib.hid CS
                rw [hLL]
                have hcv := bytes_back (l := highN z 4) (more := []) (cap := 4) (w := wc.alloc (.cells (byteVals (highN z 4)).toArray 5)) (g := wc.heap.size) (by rw [List.append_nil]; exact Has.new _ _)
                rw [highN_len, high4_vals, show (z : Int) / 16777216 % 256 = (z : Int) / 16777216 by omega] at hcv
                clear hLL hz hw hbl HRR
                go_wp2_with fail
                refine (CS.out _).mono ?_
                rintro e wz ⟨rfl, rfl⟩
                clear CS
                go_wp2_with fail
                go_ret2
                exact ⟨rfl, bup BW.out (bnew _ _)⟩
set_option maxRecDepth 100000 in
set_option maxHeartbeats 4000000 in
theorem rmencode_any (m : Ms) (A : Option Addr) (sn sc : Nat) (B : Option Addr) (en ec : Nat) (w : World) (hS : IsSlots w A sn sc m.sl) (hE : IsEnts w B en ec m.en) :
    Calls Try.prog 16 #[.agg (m.row A sn sc B en ec)] w fun r w' => r = .returned (.tuple #[.string (bs m.encM.1), .int .i64 m.encM.2]) ∧ Below w.heap.size w w' := by
  cases hg : m.good with
  | true =>
    have hr : m.encM = (withSum m.body, 0) := by unfold Ms.encM; rw [hg]; rfl
    rw [hr]
    exact rmencode_good m A sn sc B en ec w hS hE hg
  | false =>
    have HS := Lib.hid hS
    have HE := Lib.hid hE
    have C1 := Lib.hid (fun w hS hE => rmgood_any m A sn sc B en ec w hS hE)
    clear hS hE
    have hr : m.encM = ([], 1) := by unfold Ms.encM; rw [hg]; rfl
    rw [hr]
    rw [hg] at C1
    simp only [Ms.row, msgC] at C1 ⊢
    clear hr hg
    go_enter Try.func16, Try.ntmps16
    go_wp2_with fail
    refine (C1.out _ (HS.out.alloc _) (HE.out.below (bnew w _))).mono ?_
    rintro e w1 ⟨rfl, b1⟩
    go_wp2_with fail
    go_ret2
    exact ⟨rfl, bup (bnew w _) b1⟩
end Go.Proofs.Ytakdagmkkelnfaa
