/-
  A right message's bytes.
-/
import Derived.Test.YtakdagmkkelnfaaNoD
import Derived.Deep.Cut
import Derived.Lib.QuietBelow
namespace Go.Proofs.Ytakdagmkkelnfaa
open Go.RowKit Go.Sort NibPure
set_option linter.unusedVariables false
set_option linter.unusedSimpArgs false
set_option maxRecDepth 100000 in
theorem nflag_any (b : Bool) (w : World) :
    Calls Try.prog 61 #[.bool b] w fun e w' => e = .returned (.string (bs (enc (b2i b)))) ∧ Below w.heap.size w w' := by
  cases b with
  | true =>
    have C := Lib.hid (fun w => nibInt_any 1 w (by decide) (by decide))
    go_enter Try.func61, Try.ntmps61
    go_wp2_with fail
    refine (C.out _).mono ?_
    rintro e w1 ⟨rfl, b1⟩
    go_wp2_with fail
    go_ret
    exact ⟨rfl, b1⟩
  | false =>
    have C := Lib.hid (fun w => nibInt_any 0 w (by decide) (by decide))
    go_enter Try.func61, Try.ntmps61
    go_wp2_with fail
    refine (C.out _).mono ?_
    rintro e w1 ⟨rfl, b1⟩
    go_wp2_with fail
    go_ret
    exact ⟨rfl, b1⟩
theorem entsEnc_take (l : List Ent) (k : Nat) (x : Ent) (h : l[k]? = some x) : entsEnc (l.take (k + 1)) = entsEnc (l.take k) ++ x.bytes := by
  rw [List.take_add_one, h, entsEnc_append]; simp [entsEnc]
theorem entsEnc_le (l : List Ent) (k : Nat) (h : l.all Ent.good = true) : (entsEnc (l.take k)).length ≤ 540 * l.length := by
  have h1 := ents_len (l.take k) (List.all_eq_true.2 (fun y hy => List.all_eq_true.1 h y (List.mem_of_mem_take hy)))
  have h2 : (l.take k).length ≤ l.length := by rw [List.length_take]; omega
  omega
set_option maxRecDepth 100000 in
set_option maxHeartbeats 16000000 in
theorem nbody_any (m : Ms) (A : Option Addr) (sn sc : Nat) (B : Option Addr) (en ec : Nat) (w : World) (hS : IsSlots w A sn sc m.sl) (hE : IsEnts w B en ec m.en) (hg : m.good = true) :
    Calls Try.prog 34 #[.agg (m.row A sn sc B en ec)] w fun r w' => r = .returned (.string (bs m.body)) ∧ Below w.heap.size w w' := by
  have G := good_m hg
  have hgis := G.is
  have hgp := G.p
  have hgt := fun h => known_bd (G.t h)
  have hgc := G.c
  have hgi := G.i
  have hgall := G.g
  have hee : m.en.length ≤ 16 := by
    cases hf : kE m.kind with
    | true => exact G.e hf
    | false => rw [G.e0 hf]; simp
  clear G hg
  have hb0 : m.b0 = enc m.kind := rfl
  obtain ⟨a0, ha0⟩ : ∃ l, m.b0 = l := ⟨_, rfl⟩
  obtain ⟨a1, ha1⟩ : ∃ l, m.b1 = l := ⟨_, rfl⟩
  obtain ⟨a2, ha2⟩ : ∃ l, m.b2 = l := ⟨_, rfl⟩
  obtain ⟨a3, ha3⟩ : ∃ l, m.b3 = l := ⟨_, rfl⟩
  obtain ⟨a4, ha4⟩ : ∃ l, m.b4 = l := ⟨_, rfl⟩
  obtain ⟨a5, ha5⟩ : ∃ l, m.b5 = l := ⟨_, rfl⟩
  obtain ⟨a6, ha6⟩ : ∃ l, m.b6 = l := ⟨_, rfl⟩
  obtain ⟨a7, ha7⟩ : ∃ l, m.b7 = l := ⟨_, rfl⟩
  have s1 : a1 = if kP m.kind then a0 ++ enc m.page else a0 := by rw [← ha1, ← ha0]; rfl
  have s2 : a2 = if kX m.kind then a1 ++ enc (b2i m.x) else a1 := by rw [← ha2, ← ha1]; rfl
  have s3 : a3 = if kN m.kind then a2 ++ enc (b2i m.need) else a2 := by rw [← ha3, ← ha2]; rfl
  have s4 : a4 = if kT m.kind then a3 ++ (enc m.tc ++ enc m.te ++ enc m.tn) else a3 := by rw [← ha4, ← ha3]; rfl
  have s5 : a5 = if kC m.kind then a4 ++ enc m.n else a4 := by rw [← ha5, ← ha4]; rfl
  have s6 : a6 = if kI m.kind m.need then a5 ++ pgBytes m.lsn m.sl else a5 := by rw [← ha6, ← ha5]; rfl
  have s7 : a7 = if kE m.kind then a6 ++ enc m.en.length else a6 := by rw [← ha7, ← ha6]; rfl
  have hbody : m.body = a7 ++ entsEnc m.en := by rw [← ha7]; rfl
  rw [hb0] at ha0
  rw [hbody]
  clear ha1 ha2 ha3 ha4 ha5 ha6 ha7 hb0 hbody
  obtain ⟨k, pg, x, need, n, tc, te, tn, lsn, sl, el⟩ := m
  simp only [Ms.row, msgC] at *
  have HS := Lib.hid hS
  have HE := Lib.hid hE
  have hcap := hE.cap
  have hmost := hE.most
  have C1 := Lib.hid (fun w => shapeOf_any k pg x need n tc te tn lsn A sn sc B en ec w)
  obtain ⟨fp, g0⟩ : ∃ b, kP k = b := ⟨_, rfl⟩
  obtain ⟨fx, g1⟩ : ∃ b, kX k = b := ⟨_, rfl⟩
  obtain ⟨fn, g2⟩ : ∃ b, kN k = b := ⟨_, rfl⟩
  obtain ⟨ft, g3⟩ : ∃ b, kT k = b := ⟨_, rfl⟩
  obtain ⟨fc, g4⟩ : ∃ b, kC k = b := ⟨_, rfl⟩
  obtain ⟨fi, g5⟩ : ∃ b, kI k need = b := ⟨_, rfl⟩
  obtain ⟨fe, g6⟩ : ∃ b, kE k = b := ⟨_, rfl⟩
  obtain ⟨bis, g7⟩ : ∃ b, kIs k = b := ⟨_, rfl⟩
  simp only [msgC, shC] at C1
  rw [g0, g1, g2, g3, g4, g5, g6, g7] at C1
  rw [g0] at hgp s1
  rw [g1] at s2
  rw [g2] at s3
  rw [g3] at hgt s4
  rw [g4] at hgc s5
  rw [g5] at hgi s6
  rw [g6] at s7
  have n0 : a0.length ≤ 10 := by rw [← ha0]; exact enc_len k
  have n1 : a1.length ≤ 20 := by have := enc_len pg; rw [s1]; split <;> (try simp only [List.length_append]) <;> omega
  have n2 : a2.length ≤ 30 := by have := enc_len (b2i x); rw [s2]; split <;> (try simp only [List.length_append]) <;> omega
  have n3 : a3.length ≤ 40 := by have := enc_len (b2i need); rw [s3]; split <;> (try simp only [List.length_append]) <;> omega
  have n4 : a4.length ≤ 70 := by have := enc_len tc; have := enc_len te; have := enc_len tn; rw [s4]; split <;> (try simp only [List.length_append]) <;> omega
  have n5 : a5.length ≤ 80 := by have := enc_len n; rw [s5]; split <;> (try simp only [List.length_append]) <;> omega
  have n6 : a6.length ≤ 320 := by
    rw [s6]
    split
    · rename_i hf; rw [List.length_append, pgBytes_len (hgi hf)]; omega
    · omega
  have n7 : a7.length ≤ 330 := by have := enc_len (el.length : Int); rw [s7]; split <;> (try simp only [List.length_append]) <;> omega
  have S1 := Lib.hid s1
  have S2 := Lib.hid s2
  have S3 := Lib.hid s3
  have S4 := Lib.hid s4
  have S5 := Lib.hid s5
  have S6 := Lib.hid s6
  have S7 := Lib.hid s7
  have S0 := Lib.hid ha0
  have N0 := Lib.hid n0
  have N1 := Lib.hid n1
  have N2 := Lib.hid n2
  have N3 := Lib.hid n3
  have N4 := Lib.hid n4
  have N5 := Lib.hid n5
  have N6 := Lib.hid n6
  have N7 := Lib.hid n7
  have GP := Lib.hid hgp
  have GT := Lib.hid hgt
  have GC := Lib.hid hgc
  have GI := Lib.hid hgi
  have GA := Lib.hid hgall
  have GE := Lib.hid hee
  have C2 := Lib.hid (fun w => nibInt_any k w (by omega) (by omega))
  rw [ha0] at C2
  clear g0 g1 g2 g3 g4 g5 g6 g7 s1 s2 s3 s4 s5 s6 s7 ha0 n0 n1 n2 n3 n4 n5 n6 n7 hgp hgt hgc hgi hgall hee hS hE hgis
  go_enter Try.func34, Try.ntmps34
  go_wp2_with fail
  refine (C1.out _).mono ?_
  rintro e w1 ⟨rfl, b1⟩
  have X1 := Lib.hid ((Has.new w _).below b1)
  have B1 := Lib.hid (bup (bnew w _) b1)
  clear b1 C1
  go_upto_region 2 with (fail)
  have Y := Lib.hid (Has.new w1 (.cells #[.bool fp, .bool fx, .bool fn, .bool ft, .bool fc, .bool fi, .bool fe] 55))
  have X := Lib.hid (X1.out.alloc (.cells #[.bool fp, .bool fx, .bool fn, .bool ft, .bool fc, .bool fi, .bool fe] 55))
  have BW := Lib.hid (bup B1.out (bnew w1 (.cells #[.bool fp, .bool fx, .bool fn, .bool ft, .bool fc, .bool fi, .bool fe] 55)))
  generalize World.alloc w1 _ = wa at X Y BW ⊢
  clear X1 B1
  have x0 := X.out.cell 0 _ rfl
  go_wp2_with fail
  refine (C2.out _).mono ?_
  rintro e wb ⟨rfl, b1⟩
  clear x0 C2
  replace X := Lib.hid (X.out.below b1)
  replace Y := Lib.hid (Y.out.below b1)
  replace BW := Lib.hid (bup BW.out b1)
  clear b1
  have y0 := Y.out.cell 0 _ rfl
  go_upto_if 21 with (fail)
  go_cut [5] from 22 to 26 (fun v wx => v = .string (bs a1) ∧ Hid (Below w.heap.size w wx) ∧ Hid (Has wx w.heap.size (.cells #[.int .i64 k, .int .i64 pg, .bool x, .bool need, .int .i64 n, .int .i64 tc, .int .i64 te, .int .i64 tn, .int .i64 lsn, .slice A sn sc, .slice B en ec] 32)) ∧ Hid (Has wx w1.heap.size (.cells #[.bool fp, .bool fx, .bool fn, .bool ft, .bool fc, .bool fi, .bool fe] 55)))
  case first =>
    cases fp with
    | true =>
      have SS : a1 = a0 ++ (enc pg) := by have := S1.out; simpa using this
      have hadd : ∀ w, (Op.stringOp .add (bs a0) (bs (enc pg))).run Try.prog w = .ok (.string (bs a1)) w := fun w => by rw [SS]; exact add_lists' a0 (enc pg) (by have := N0.out; have := enc_len pg; omega) w
      clear SS
      have hb := GP.out rfl
      have x1 := X.out.cell 1 _ rfl
      go_wp2_with fail
      refine (nibInt_any pg _ (by omega) (by omega)).mono ?_
      rintro e wc2 ⟨rfl, b1⟩
      go_wp2_with fail
      go_meet
      exact ⟨rfl, Lib.hid (bup BW.out b1), Lib.hid (X.out.below b1), Lib.hid (Y.out.below b1)⟩
    | false =>
      obtain rfl : a1 = a0 := by have := S1.out; simpa using this
      go_wp2_with fail
      go_meet
      exact ⟨rfl, BW, X, Y⟩
  case rest =>
    obtain ⟨rfl, BW', X', Y'⟩ := hcut
    clear BW X Y y0
    have BW := BW'
    have X := X'
    have Y := Y'
    clear BW' X' Y'
    have y1 := Y.out.cell 1 _ rfl
    go_upto_if 28 with (fail)
    go_cut [5] from 29 to 33 (fun v wx => v = .string (bs a2) ∧ Hid (Below w.heap.size w wx) ∧ Hid (Has wx w.heap.size (.cells #[.int .i64 k, .int .i64 pg, .bool x, .bool need, .int .i64 n, .int .i64 tc, .int .i64 te, .int .i64 tn, .int .i64 lsn, .slice A sn sc, .slice B en ec] 32)) ∧ Hid (Has wx w1.heap.size (.cells #[.bool fp, .bool fx, .bool fn, .bool ft, .bool fc, .bool fi, .bool fe] 55)))
    case first =>
      cases fx with
      | true =>
        have SS : a2 = a1 ++ (enc (b2i x)) := by have := S2.out; simpa using this
        have hadd : ∀ w, (Op.stringOp .add (bs a1) (bs (enc (b2i x)))).run Try.prog w = .ok (.string (bs a2)) w := fun w => by rw [SS]; exact add_lists' a1 (enc (b2i x)) (by have := N1.out; have := enc_len (b2i x); omega) w
        clear SS
        have x2 := X.out.cell 2 _ rfl
        go_wp2_with fail
        refine (nflag_any x _).mono ?_
        rintro e wc2 ⟨rfl, b1⟩
        go_wp2_with fail
        go_meet
        exact ⟨rfl, Lib.hid (bup BW.out b1), Lib.hid (X.out.below b1), Lib.hid (Y.out.below b1)⟩
      | false =>
        obtain rfl : a2 = a1 := by have := S2.out; simpa using this
        go_wp2_with fail
        go_meet
        exact ⟨rfl, BW, X, Y⟩
    case rest =>
      obtain ⟨rfl, BW', X', Y'⟩ := hcut
      clear BW X Y y1
      have BW := BW'
      have X := X'
      have Y := Y'
      clear BW' X' Y'
      have y2 := Y.out.cell 2 _ rfl
      go_upto_if 35 with (fail)
      go_cut [5] from 36 to 40 (fun v wx => v = .string (bs a3) ∧ Hid (Below w.heap.size w wx) ∧ Hid (Has wx w.heap.size (.cells #[.int .i64 k, .int .i64 pg, .bool x, .bool need, .int .i64 n, .int .i64 tc, .int .i64 te, .int .i64 tn, .int .i64 lsn, .slice A sn sc, .slice B en ec] 32)) ∧ Hid (Has wx w1.heap.size (.cells #[.bool fp, .bool fx, .bool fn, .bool ft, .bool fc, .bool fi, .bool fe] 55)))
      case first =>
        cases fn with
        | true =>
          have SS : a3 = a2 ++ (enc (b2i need)) := by have := S3.out; simpa using this
          have hadd : ∀ w, (Op.stringOp .add (bs a2) (bs (enc (b2i need)))).run Try.prog w = .ok (.string (bs a3)) w := fun w => by rw [SS]; exact add_lists' a2 (enc (b2i need)) (by have := N2.out; have := enc_len (b2i need); omega) w
          clear SS
          have x3 := X.out.cell 3 _ rfl
          go_wp2_with fail
          refine (nflag_any need _).mono ?_
          rintro e wc2 ⟨rfl, b1⟩
          go_wp2_with fail
          go_meet
          exact ⟨rfl, Lib.hid (bup BW.out b1), Lib.hid (X.out.below b1), Lib.hid (Y.out.below b1)⟩
        | false =>
          obtain rfl : a3 = a2 := by have := S3.out; simpa using this
          go_wp2_with fail
          go_meet
          exact ⟨rfl, BW, X, Y⟩
      case rest =>
        obtain ⟨rfl, BW', X', Y'⟩ := hcut
        clear BW X Y y2
        have BW := BW'
        have X := X'
        have Y := Y'
        clear BW' X' Y'
        have y3 := Y.out.cell 3 _ rfl
        go_upto_if 42 with (fail)
        go_cut [5] from 43 to 58 (fun v wx => v = .string (bs a4) ∧ Hid (Below w.heap.size w wx) ∧ Hid (Has wx w.heap.size (.cells #[.int .i64 k, .int .i64 pg, .bool x, .bool need, .int .i64 n, .int .i64 tc, .int .i64 te, .int .i64 tn, .int .i64 lsn, .slice A sn sc, .slice B en ec] 32)) ∧ Hid (Has wx w1.heap.size (.cells #[.bool fp, .bool fx, .bool fn, .bool ft, .bool fc, .bool fi, .bool fe] 55)))
        case first =>
          cases ft with
          | true =>
            have SS : a4 = a3 ++ (enc tc ++ (enc te ++ enc tn)) := by have := S4.out; simpa using this
            have hadd : ∀ w, (Op.stringOp .add (bs a3) (bs (enc tc ++ (enc te ++ enc tn)))).run Try.prog w = .ok (.string (bs a4)) w := fun w => by rw [SS]; exact add_lists' a3 (enc tc ++ (enc te ++ enc tn)) (by have := N3.out; have := enc_len tc; have := enc_len te; have := enc_len tn; simp only [List.length_append]; omega) w
            clear SS
            have hb := GT.out rfl
            have c1 := fun d os => Calls.regrown_of (nibInt_any tc (grow (redrawn wc d) os) (by omega) (by omega))
            have c2 := fun d os => Calls.regrown_of (nibInt_any te (grow (redrawn wc d) os) (by omega) (by omega))
            have c3 := fun d os => Calls.regrown_of (nibInt_any tn (grow (redrawn wc d) os) (by omega) (by omega))
            have hadd1 : ∀ w, (Op.stringOp .add (bs (enc tc)) (bs (enc te))).run Try.prog w = .ok (.string (bs (enc tc ++ enc te))) w := fun w => add_lists' (enc tc) (enc te) (by have := enc_len tc; have := enc_len te; omega) w
            have hadd2 : ∀ w, (Op.stringOp .add (bs (enc tc ++ enc te)) (bs (enc tn))).run Try.prog w = .ok (.string (bs (enc tc ++ (enc te ++ enc tn)))) w := fun w => by rw [← List.append_assoc]; exact add_lists' (enc tc ++ enc te) (enc tn) (by have := enc_len tc; have := enc_len te; have := enc_len tn; simp only [List.length_append]; omega) w
            have x5 := cell_regrown (X.out.cell 5 _ rfl)
            have x6 := cell_regrown (X.out.cell 6 _ rfl)
            have x7 := cell_regrown (X.out.cell 7 _ rfl)
            clear hb
            go_upto_region 10 with (fail)
            refine wp_region_quiet_below (by kernel_rfl) (by kernel_rfl) ?_
            repeat (quiet_step (first | (with_reducible exact c1 _ _) | (with_reducible exact c2 _ _) | (with_reducible exact c3 _ _)))
            refine wpQuiet_nil ?_
            intro _ hw4
            obtain ⟨⟨dq, osq⟩, hw5⟩ := hw4
            subst hw5
            have b1 := below_regrown wc dq osq
            go_wp2_with fail
            go_meet
            exact ⟨rfl, Lib.hid (bup BW.out b1), Lib.hid (X.out.below b1), Lib.hid (Y.out.below b1)⟩
          | false =>
            obtain rfl : a4 = a3 := by have := S4.out; simpa using this
            go_wp2_with fail
            go_meet
            exact ⟨rfl, BW, X, Y⟩
        case rest =>
          obtain ⟨rfl, BW', X', Y'⟩ := hcut
          clear BW X Y y3
          have BW := BW'
          have X := X'
          have Y := Y'
          clear BW' X' Y'
          have y4 := Y.out.cell 4 _ rfl
          go_upto_if 60 with (fail)
          go_cut [5] from 61 to 65 (fun v wx => v = .string (bs a5) ∧ Hid (Below w.heap.size w wx) ∧ Hid (Has wx w.heap.size (.cells #[.int .i64 k, .int .i64 pg, .bool x, .bool need, .int .i64 n, .int .i64 tc, .int .i64 te, .int .i64 tn, .int .i64 lsn, .slice A sn sc, .slice B en ec] 32)) ∧ Hid (Has wx w1.heap.size (.cells #[.bool fp, .bool fx, .bool fn, .bool ft, .bool fc, .bool fi, .bool fe] 55)))
          case first =>
            cases fc with
            | true =>
              have SS : a5 = a4 ++ (enc n) := by have := S5.out; simpa using this
              have hadd : ∀ w, (Op.stringOp .add (bs a4) (bs (enc n))).run Try.prog w = .ok (.string (bs a5)) w := fun w => by rw [SS]; exact add_lists' a4 (enc n) (by have := N4.out; have := enc_len n; omega) w
              clear SS
              have hb := GC.out rfl
              have x4 := X.out.cell 4 _ rfl
              go_wp2_with fail
              refine (nibInt_any n _ (by omega) (by omega)).mono ?_
              rintro e wc2 ⟨rfl, b1⟩
              go_wp2_with fail
              go_meet
              exact ⟨rfl, Lib.hid (bup BW.out b1), Lib.hid (X.out.below b1), Lib.hid (Y.out.below b1)⟩
            | false =>
              obtain rfl : a5 = a4 := by have := S5.out; simpa using this
              go_wp2_with fail
              go_meet
              exact ⟨rfl, BW, X, Y⟩
          case rest =>
            obtain ⟨rfl, BW', X', Y'⟩ := hcut
            clear BW X Y y4
            have BW := BW'
            have X := X'
            have Y := Y'
            clear BW' X' Y'
            have y5 := Y.out.cell 5 _ rfl
            go_upto_if 67 with (fail)
            go_cut [5] from 68 to 76 (fun v wx => v = .string (bs a6) ∧ Hid (Below w.heap.size w wx) ∧ Hid (Has wx w.heap.size (.cells #[.int .i64 k, .int .i64 pg, .bool x, .bool need, .int .i64 n, .int .i64 tc, .int .i64 te, .int .i64 tn, .int .i64 lsn, .slice A sn sc, .slice B en ec] 32)) ∧ Hid (Has wx w1.heap.size (.cells #[.bool fp, .bool fx, .bool fn, .bool ft, .bool fc, .bool fi, .bool fe] 55)))
            case first =>
              cases fi with
              | true =>
                have SS : a6 = a5 ++ (pgBytes lsn sl) := by have := S6.out; simpa using this
                have hadd : ∀ w, (Op.stringOp .add (bs a5) (bs (pgBytes lsn sl))).run Try.prog w = .ok (.string (bs a6)) w := fun w => by rw [SS]; exact add_lists' a5 (pgBytes lsn sl) (by have := N5.out; rw [pgBytes_len (GI.out rfl)]; omega) w
                clear SS
                have hg := GI.out rfl
                have CE := fun w h => penc_any lsn A sn sc sl w h
                rw [show pgEnc lsn sl = (pgBytes lsn sl, 0) by unfold pgEnc; rw [if_pos hg]] at CE
                replace CE := Lib.hid CE
                clear hg
                have x8 := X.out.cell 8 _ rfl
                have x9 := X.out.cell 9 _ rfl
                go_wp2_with fail
                refine (CE.out _ (HS.out.below BW.out)).mono ?_
                rintro e wc2 ⟨rfl, b1⟩
                go_wp2_with fail
                go_meet
                exact ⟨rfl, Lib.hid (bup BW.out b1), Lib.hid (X.out.below b1), Lib.hid (Y.out.below b1)⟩
              | false =>
                obtain rfl : a6 = a5 := by have := S6.out; simpa using this
                go_wp2_with fail
                go_meet
                exact ⟨rfl, BW, X, Y⟩
            case rest =>
              obtain ⟨rfl, BW', X', Y'⟩ := hcut
              clear BW X Y y5
              have BW := BW'
              have X := X'
              have Y := Y'
              clear BW' X' Y'
              have y6 := Y.out.cell 6 _ rfl
              go_upto_if 78 with (fail)
              go_cut [5] from 79 to 84 (fun v wx => v = .string (bs a7) ∧ Hid (Below w.heap.size w wx) ∧ Hid (Has wx w.heap.size (.cells #[.int .i64 k, .int .i64 pg, .bool x, .bool need, .int .i64 n, .int .i64 tc, .int .i64 te, .int .i64 tn, .int .i64 lsn, .slice A sn sc, .slice B en ec] 32)) ∧ Hid (Has wx w1.heap.size (.cells #[.bool fp, .bool fx, .bool fn, .bool ft, .bool fc, .bool fi, .bool fe] 55)))
              case first =>
                cases fe with
                | true =>
                  have SS : a7 = a6 ++ (enc (el.length : Int)) := by have := S7.out; simpa using this
                  have hadd : ∀ w, (Op.stringOp .add (bs a6) (bs (enc (el.length : Int)))).run Try.prog w = .ok (.string (bs a7)) w := fun w => by rw [SS]; exact add_lists' a6 (enc (el.length : Int)) (by have := N6.out; have := enc_len (el.length : Int); omega) w
                  clear SS
                  have hl := HE.out.len
                  rw [hl] at hadd
                  clear hl
                  have hg := GE.out
                  have hen : en ≤ 16 := by have := HE.out.len; omega
                  clear hg
                  have x10 := X.out.cell 10 _ rfl
                  go_wp2_with fail
                  refine (nibInt_any (en : Int) _ (by omega) (by omega)).mono ?_
                  rintro e wc2 ⟨rfl, b1⟩
                  go_wp2_with fail
                  go_meet
                  exact ⟨rfl, Lib.hid (bup BW.out b1), Lib.hid (X.out.below b1), Lib.hid (Y.out.below b1)⟩
                | false =>
                  obtain rfl : a7 = a6 := by have := S7.out; simpa using this
                  go_wp2_with fail
                  go_meet
                  exact ⟨rfl, BW, X, Y⟩
              case rest =>
                obtain ⟨rfl, BW', X', Y'⟩ := hcut
                clear BW X Y y6
                have BW := BW'
                have X := X'
                have Y := Y'
                clear BW' X' Y'
                have x10 := X.out.cell 10 _ rfl
                have hen : en ≤ 16 := by have := HE.out.len; have := GE.out; omega
                have HL := Lib.hid HE.out.len
                go_wp2_with fail
                clear x10
                go_loopw [5, 88] (fun s i wr => ∃ j : Nat, j ≤ en ∧ i = .int .i64 j ∧ s = .string (bs (a7 ++ entsEnc (el.take j))) ∧ Hid (Below w.heap.size w wr)) (fun _ i _ => en - (intOf i).toNat)
                case atStart => exact ⟨0, by omega, rfl, by rw [List.take_zero]; simp [entsEnc], BW⟩
                case round =>
                  obtain ⟨j, hj, rfl, rfl, HB⟩ := hrel
                  clear BW X Y
                  by_cases hlt : j < en
                  · obtain ⟨y, hy⟩ : ∃ y, el[j]? = some y := ⟨_, List.getElem?_eq_getElem (by rw [HL.out]; exact hlt)⟩
                    obtain ⟨b, off, rfl, hbl, hEn⟩ := HE.out.here hy
                    have hEn := hEn.below hbl HB.out
                    have hsz := HE.out.small y (List.mem_of_getElem? hy)
                    have hyg : y.good = true := List.all_eq_true.1 GA.out y (List.mem_of_getElem? hy)
                    have CE := fun w => encode_any y (by omega) (by omega) w
                    rw [show y.encRes = .tuple #[.string (bs y.bytes), .int .i64 0] by simp [Ent.encRes, hyg]] at CE
                    have HT := Lib.hid (entsEnc_take el j y hy)
                    have hl1 := entsEnc_le el j GA.out
                    have hl2 := bytes_len y hyg
                    have hadd : ∀ w, (Op.stringOp .add (bs (a7 ++ entsEnc (el.take j))) (bs y.bytes)).run Try.prog w = .ok (.string (bs (a7 ++ entsEnc (el.take (j + 1))))) w := fun w => by
                      rw [HT.out, ← List.append_assoc]
                      exact add_lists' _ _ (by have := N7.out; have := HL.out; simp only [List.length_append]; omega) w
                    clear hy hsz hyg hl1 hl2 hbl
                    obtain ⟨yb, hyb⟩ : ∃ l, y.bytes = l := ⟨_, rfl⟩
                    rw [hyb] at CE hadd
                    obtain ⟨c0, c1, c2, c3, c4, c5, c6, c7, c8, c9, c10, c11, c12⟩ := hEn
                    simp only [Ent.val, Ent.row] at CE
                    replace CE := Lib.hid CE
                    clear hyb HT
                    go_wp2_with fail
                    refine (CE.out _).mono ?_
                    rintro e wc2 ⟨rfl, b1⟩
                    clear c0 c1 c2 c3 c4 c5 c6 c7 c8 c9 c10 c11 c12 CE
                    go_wp2_with fail
                    go_roundw
                    case rel => exact ⟨j + 1, by omega, by go_num, rfl, Lib.hid (HB.out.trans ((bup (bnew _ _) b1).mono HB.out.size))⟩
                    case measure => simp [intOf]; omega
                  · obtain rfl : j = en := by omega
                    have hz : Hid (el.take j = el) := Lib.hid (List.take_of_length_le (by rw [HL.out]; omega))
                    go_wp2_with fail
                    go_ret
                    exact ⟨by rw [hz.out]; rfl, HB.out⟩
end Go.Proofs.Ytakdagmkkelnfaa
