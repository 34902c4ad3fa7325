/-
  A right message's bytes are read as itself; bytes that are read are written as themselves; unlike messages have unlike bytes.
-/
import Derived.Test.YtakdagmkkelnfaaNoLaw2
namespace Go.Proofs.Ytakdagmkkelnfaa
open Go.RowKit Go.Sort NibPure SumPure
set_option linter.unusedVariables false
set_option linter.unusedSimpArgs false
theorem withSum_inj {m o : Ms} (h1 : m.good = true) (h2 : o.good = true) : withSum m.body = withSum o.body ↔ m = o := by
  constructor
  · intro h
    have := decM_of h1
    rw [h, decM_of h2] at this
    exact (congrArg Prod.fst this).symm
  · rintro rfl; rfl
theorem dec_back (l : List UInt8) : ((decM l).2 ≠ 0 ∧ (decM l).1 = Ms.zero) ∨ ((decM l).2 = 0 ∧ (decM l).1.good = true ∧ withSum (decM l).1.body = l) := by
  unfold decM
  by_cases h4 : l.length < 4
  · rw [if_pos h4]; left; exact ⟨by decide, rfl⟩
  rw [if_neg h4]
  by_cases hs : getN (l.take 4) ≠ sum (l.drop 4)
  · rw [if_pos hs]; left; exact ⟨by decide, rfl⟩
  rw [if_neg hs]
  have hs' : getN (l.take 4) = sum (l.drop 4) := by simpa using hs
  cases h : decB (l.drop 4) with
  | none => left; exact ⟨by decide, rfl⟩
  | some m =>
    obtain ⟨g, hb⟩ := decB_ok h
    refine .inr ⟨rfl, g, ?_⟩
    show withSum m.body = l
    have hl4 : (l.take 4).length = 4 := by rw [List.length_take]; omega
    have hN := getN_lt (l.take 4)
    rw [hl4] at hN
    have hH : highN (getN (l.take 4)) 4 = l.take 4 := getN_inj (by rw [highN_len, hl4]) (getN_highN _ _ hN)
    unfold withSum
    rw [hb, ← hs', hH]
    exact List.take_append_drop 4 l

set_option maxHeartbeats 64000000 in
set_option maxRecDepth 100000 in
theorem NoteBack_walk (m : Ms) (A1 : Option Addr) (s1 t1 : Nat) (B1 : Option Addr) (e1 f1 : Nat) (w : World) (hS1 : IsSlots w A1 s1 t1 m.sl) (hE1 : IsEnts w B1 e1 f1 m.en) (o : Ms) (A2 : Option Addr) (s2 t2 : Nat) (B2 : Option Addr) (e2 f2 : Nat) (hS2 : IsSlots w A2 s2 t2 o.sl) (hE2 : IsEnts w B2 e2 f2 o.en) (s : ByteArray) (hs : s.size ≤ 140737488351232) :
    Calls Try.prog 7 #[.agg (m.row A1 s1 t1 B1 e1 f1), .agg (o.row A2 s2 t2 B2 e2 f2), .string s] w fun r w' => r = .returned (.bool true) ∧ Below w.heap.size w w' := by
  have CA := Lib.hid (fun w => awake_any w)
  have CG1 := Lib.hid (fun w h1 h2 => great_any m A1 s1 t1 B1 e1 f1 w h1 h2)
  have CG2 := Lib.hid (fun w h1 h2 => great_any o A2 s2 t2 B2 e2 f2 w h1 h2)
  have CE1 := Lib.hid (fun w h1 h2 => nencode_any m A1 s1 t1 B1 e1 f1 w h1 h2)
  have CE2 := Lib.hid (fun w h1 h2 => nencode_any o A2 s2 t2 B2 e2 f2 w h1 h2)
  have CN1 := Lib.hid (fun w h1 h2 => ngood_any m A1 s1 t1 B1 e1 f1 w h1 h2)
  have CS1 := Lib.hid (fun A3 s3 t3 B3 e3 f3 w h1 h2 h3 h4 => msame_any m A3 s3 t3 B3 e3 f3 m A1 s1 t1 B1 e1 f1 w h1 h2 h3 h4)
  have CS2 := Lib.hid (fun w h1 h2 h3 h4 => msame_any m A1 s1 t1 B1 e1 f1 o A2 s2 t2 B2 e2 f2 w h1 h2 h3 h4)
  have CD2 := Lib.hid (fun w => ndec_any s w (by omega))
  have HF := Lib.hid (dec_back s.data.toList)
  obtain ⟨R, hR⟩ : ∃ R, decM s.data.toList = R := ⟨_, rfl⟩
  rw [hR] at CD2 HF
  clear hR
  have CS3 := Lib.hid (fun A4 s4 t4 B4 e4 f4 w h1 h2 => msame_any R.1 A4 s4 t4 B4 e4 f4 Ms.zero none 0 0 none 0 0 w h1 h2 (IsSlots.nil _) (IsEnts.nil _))
  have CE3 := Lib.hid (fun A4 s4 t4 B4 e4 f4 w h1 h2 => nencode_any R.1 A4 s4 t4 B4 e4 f4 w h1 h2)
  obtain ⟨g1, hg1⟩ : ∃ g, greatB m = g := ⟨_, rfl⟩
  obtain ⟨g2, hg2⟩ : ∃ g, greatB o = g := ⟨_, rfl⟩
  rw [hg1] at CG1
  rw [hg2] at CG2
  clear hg1 hg2
  obtain ⟨q1, hq1⟩ : ∃ q, m.good = q := ⟨_, rfl⟩
  obtain ⟨q2, hq2⟩ : ∃ q, o.good = q := ⟨_, rfl⟩
  obtain ⟨U, hU⟩ : ∃ U, bs m.encM.1 = U := ⟨_, rfl⟩
  obtain ⟨V, hV⟩ : ∃ U, bs o.encM.1 = U := ⟨_, rfl⟩
  obtain ⟨z1, hz1⟩ : ∃ z, m.encM.2 = z := ⟨_, rfl⟩
  obtain ⟨z2, hz2⟩ : ∃ z, o.encM.2 = z := ⟨_, rfl⟩
  have HZ1 : Hid (z1 = if q1 then 0 else 1) := Lib.hid (by rw [← hz1, ← hq1]; unfold Ms.encM; split <;> rfl)
  have HZ2 : Hid (z2 = if q2 then 0 else 1) := Lib.hid (by rw [← hz2, ← hq2]; unfold Ms.encM; split <;> rfl)
  have CD1 : Hid (q1 = true → ∀ w, Calls Try.prog 11 #[.string U] w (NDecPost (m, 0) w)) := Lib.hid (fun h w => by
    rw [h] at hq1
    have := ndec_any (bs (withSum m.body)) w (by have := body_len hq1; rw [bs_size, withSum_len]; omega)
    rw [bs_data, decM_of hq1] at this
    rw [← hU]
    unfold Ms.encM
    rw [if_pos hq1]
    exact this)
  have HUV : Hid (q1 = true → q2 = true → (U = V ↔ m = o)) := Lib.hid (fun h1 h2 => by
    rw [h1] at hq1
    rw [h2] at hq2
    rw [← hU, ← hV, bs_inj]
    unfold Ms.encM
    rw [if_pos hq1, if_pos hq2]
    exact withSum_inj hq1 hq2)
  rw [hU, hz1] at CE1
  rw [hV, hz2] at CE2
  rw [hq1] at CN1
  have HSM : Hid (q1 = true → q2 = true → sameM m o = decide (U = V)) := Lib.hid (fun h1 h2 => by
    rw [Bool.eq_iff_iff, sameM_iff, decide_eq_true_iff]
    exact (HUV.out h1 h2).symm)
  obtain ⟨sm, hsm⟩ : ∃ b, sameM m o = b := ⟨_, rfl⟩
  rw [hsm] at CS2 HSM
  have hss : sameM m m = true := sameM_iff.2 rfl
  have CS1 := Lib.hid (fun A3 s3 t3 B3 e3 f3 w h1 h2 h3 h4 => by have := CS1.out A3 s3 t3 B3 e3 f3 w h1 h2 h3 h4; rw [hss] at this; exact this)
  clear hU hV hz1 hz2 hsm hss HUV hq1 hq2
  have HS1 := Lib.hid hS1
  have HE1 := Lib.hid hE1
  have HS2 := Lib.hid hS2
  have HE2 := Lib.hid hE2
  clear hS1 hE1 hS2 hE2
  obtain ⟨akind, apg, ax, and, an, atc, ate, atn, alsn, asl, ael⟩ := m
  obtain ⟨bkind, bpg, bx, bnd, bn, btc, bte, btn, blsn, bsl, bel⟩ := o
  obtain ⟨⟨rkind, rpg, rx, rnd, rn, rtc, rte, rtn, rlsn, rsl, rel⟩, re⟩ := R
  simp only [Ms.row, msgC, Ms.zero] at CG1 CG2 CE1 CE2 CN1 CS1 CS2 CS3 CE3 HS1 HE1 HS2 HE2 ⊢
  go_enter Try.func7, Try.ntmps7
  go_upto_region 1 with (fail)
  generalize hwa : World.alloc _ _ = wa
  have BW : Below w.heap.size w wa := by rw [← hwa]; exact bup (bnew _ _) (bnew _ _)
  have X : Has wa w.heap.size (.cells #[.int .i64 akind, .int .i64 apg, .bool ax, .bool and, .int .i64 an, .int .i64 atc, .int .i64 ate, .int .i64 atn, .int .i64 alsn, .slice A1 s1 t1, .slice B1 e1 f1] 32) := by rw [← hwa]; exact (Has.new _ _).alloc _
  have Y : Has wa (w.heap.size + 1) (.cells #[.int .i64 bkind, .int .i64 bpg, .bool bx, .bool bnd, .int .i64 bn, .int .i64 btc, .int .i64 bte, .int .i64 btn, .int .i64 blsn, .slice A2 s2 t2, .slice B2 e2 f2] 32) := by rw [← hwa]; exact Has.new1 _ _ _
  clear hwa
  replace BW := Lib.hid BW
  replace X := Lib.hid X
  replace Y := Lib.hid Y
  replace HS1 := Lib.hid (HS1.out.below BW.out)
  replace HE1 := Lib.hid (HE1.out.below BW.out)
  replace HS2 := Lib.hid (HS2.out.below BW.out)
  replace HE2 := Lib.hid (HE2.out.below BW.out)
  go_wp2_with fail
  refine (CA.out _).mono ?_
  rintro e w1 ⟨rfl, bb⟩
  have BW := Lib.hid (bup BW.out bb)
  have X := Lib.hid (X.out.below bb)
  have Y := Lib.hid (Y.out.below bb)
  have HS1 := Lib.hid (HS1.out.below bb)
  have HE1 := Lib.hid (HE1.out.below bb)
  have HS2 := Lib.hid (HS2.out.below bb)
  have HE2 := Lib.hid (HE2.out.below bb)
  clear bb
  have x0 := X.out.cell 0 (.int .i64 akind) rfl
  have x1 := X.out.cell 1 (.int .i64 apg) rfl
  have x2 := X.out.cell 2 (.bool ax) rfl
  have x3 := X.out.cell 3 (.bool and) rfl
  have x4 := X.out.cell 4 (.int .i64 an) rfl
  have x5 := X.out.cell 5 (.int .i64 atc) rfl
  have x6 := X.out.cell 6 (.int .i64 ate) rfl
  have x7 := X.out.cell 7 (.int .i64 atn) rfl
  have x8 := X.out.cell 8 (.int .i64 alsn) rfl
  have x9 := X.out.cell 9 (.slice A1 s1 t1) rfl
  have x10 := X.out.cell 10 (.slice B1 e1 f1) rfl
  have y0 := Y.out.cell 0 (.int .i64 bkind) rfl
  have y1 := Y.out.cell 1 (.int .i64 bpg) rfl
  have y2 := Y.out.cell 2 (.bool bx) rfl
  have y3 := Y.out.cell 3 (.bool bnd) rfl
  have y4 := Y.out.cell 4 (.int .i64 bn) rfl
  have y5 := Y.out.cell 5 (.int .i64 btc) rfl
  have y6 := Y.out.cell 6 (.int .i64 bte) rfl
  have y7 := Y.out.cell 7 (.int .i64 btn) rfl
  have y8 := Y.out.cell 8 (.int .i64 blsn) rfl
  have y9 := Y.out.cell 9 (.slice A2 s2 t2) rfl
  have y10 := Y.out.cell 10 (.slice B2 e2 f2) rfl
  go_wp2_with fail
  refine (CG1.out _ HS1.out HE1.out).mono ?_
  rintro e w2 ⟨rfl, bb⟩
  clear x0 x1 x2 x3 x4 x5 x6 x7 x8 x9 x10 y0 y1 y2 y3 y4 y5 y6 y7 y8 y9 y10
  have BW := Lib.hid (bup BW.out bb)
  have X := Lib.hid (X.out.below bb)
  have Y := Lib.hid (Y.out.below bb)
  have HS1 := Lib.hid (HS1.out.below bb)
  have HE1 := Lib.hid (HE1.out.below bb)
  have HS2 := Lib.hid (HS2.out.below bb)
  have HE2 := Lib.hid (HE2.out.below bb)
  clear bb
  cases g1 with
  | true =>
    go_wp2_with fail
    go_ret
    exact ⟨rfl, BW.out⟩
  | false =>
  have x0 := X.out.cell 0 (.int .i64 akind) rfl
  have x1 := X.out.cell 1 (.int .i64 apg) rfl
  have x2 := X.out.cell 2 (.bool ax) rfl
  have x3 := X.out.cell 3 (.bool and) rfl
  have x4 := X.out.cell 4 (.int .i64 an) rfl
  have x5 := X.out.cell 5 (.int .i64 atc) rfl
  have x6 := X.out.cell 6 (.int .i64 ate) rfl
  have x7 := X.out.cell 7 (.int .i64 atn) rfl
  have x8 := X.out.cell 8 (.int .i64 alsn) rfl
  have x9 := X.out.cell 9 (.slice A1 s1 t1) rfl
  have x10 := X.out.cell 10 (.slice B1 e1 f1) rfl
  have y0 := Y.out.cell 0 (.int .i64 bkind) rfl
  have y1 := Y.out.cell 1 (.int .i64 bpg) rfl
  have y2 := Y.out.cell 2 (.bool bx) rfl
  have y3 := Y.out.cell 3 (.bool bnd) rfl
  have y4 := Y.out.cell 4 (.int .i64 bn) rfl
  have y5 := Y.out.cell 5 (.int .i64 btc) rfl
  have y6 := Y.out.cell 6 (.int .i64 bte) rfl
  have y7 := Y.out.cell 7 (.int .i64 btn) rfl
  have y8 := Y.out.cell 8 (.int .i64 blsn) rfl
  have y9 := Y.out.cell 9 (.slice A2 s2 t2) rfl
  have y10 := Y.out.cell 10 (.slice B2 e2 f2) rfl
  go_wp2_with fail
  refine (CG2.out _ HS2.out HE2.out).mono ?_
  rintro e w3 ⟨rfl, bb⟩
  clear x0 x1 x2 x3 x4 x5 x6 x7 x8 x9 x10 y0 y1 y2 y3 y4 y5 y6 y7 y8 y9 y10
  have BW := Lib.hid (bup BW.out bb)
  have X := Lib.hid (X.out.below bb)
  have Y := Lib.hid (Y.out.below bb)
  have HS1 := Lib.hid (HS1.out.below bb)
  have HE1 := Lib.hid (HE1.out.below bb)
  have HS2 := Lib.hid (HS2.out.below bb)
  have HE2 := Lib.hid (HE2.out.below bb)
  clear bb
  cases g2 with
  | true =>
    go_wp2_with fail
    go_ret
    exact ⟨rfl, BW.out⟩
  | false =>
  by_cases hbig : (65536 : Int) < (s.size : Int)
  · go_wp2_with fail
    go_ret
    exact ⟨rfl, BW.out⟩
  have x0 := X.out.cell 0 (.int .i64 akind) rfl
  have x1 := X.out.cell 1 (.int .i64 apg) rfl
  have x2 := X.out.cell 2 (.bool ax) rfl
  have x3 := X.out.cell 3 (.bool and) rfl
  have x4 := X.out.cell 4 (.int .i64 an) rfl
  have x5 := X.out.cell 5 (.int .i64 atc) rfl
  have x6 := X.out.cell 6 (.int .i64 ate) rfl
  have x7 := X.out.cell 7 (.int .i64 atn) rfl
  have x8 := X.out.cell 8 (.int .i64 alsn) rfl
  have x9 := X.out.cell 9 (.slice A1 s1 t1) rfl
  have x10 := X.out.cell 10 (.slice B1 e1 f1) rfl
  have y0 := Y.out.cell 0 (.int .i64 bkind) rfl
  have y1 := Y.out.cell 1 (.int .i64 bpg) rfl
  have y2 := Y.out.cell 2 (.bool bx) rfl
  have y3 := Y.out.cell 3 (.bool bnd) rfl
  have y4 := Y.out.cell 4 (.int .i64 bn) rfl
  have y5 := Y.out.cell 5 (.int .i64 btc) rfl
  have y6 := Y.out.cell 6 (.int .i64 bte) rfl
  have y7 := Y.out.cell 7 (.int .i64 btn) rfl
  have y8 := Y.out.cell 8 (.int .i64 blsn) rfl
  have y9 := Y.out.cell 9 (.slice A2 s2 t2) rfl
  have y10 := Y.out.cell 10 (.slice B2 e2 f2) rfl
  go_wp2_with fail
  refine (CE1.out _ HS1.out HE1.out).mono ?_
  rintro e w4 ⟨rfl, bb⟩
  clear x0 x1 x2 x3 x4 x5 x6 x7 x8 x9 x10 y0 y1 y2 y3 y4 y5 y6 y7 y8 y9 y10
  have BW := Lib.hid (bup BW.out bb)
  have X := Lib.hid (X.out.below bb)
  have Y := Lib.hid (Y.out.below bb)
  have HS1 := Lib.hid (HS1.out.below bb)
  have HE1 := Lib.hid (HE1.out.below bb)
  have HS2 := Lib.hid (HS2.out.below bb)
  have HE2 := Lib.hid (HE2.out.below bb)
  clear bb
  have x0 := X.out.cell 0 (.int .i64 akind) rfl
  have x1 := X.out.cell 1 (.int .i64 apg) rfl
  have x2 := X.out.cell 2 (.bool ax) rfl
  have x3 := X.out.cell 3 (.bool and) rfl
  have x4 := X.out.cell 4 (.int .i64 an) rfl
  have x5 := X.out.cell 5 (.int .i64 atc) rfl
  have x6 := X.out.cell 6 (.int .i64 ate) rfl
  have x7 := X.out.cell 7 (.int .i64 atn) rfl
  have x8 := X.out.cell 8 (.int .i64 alsn) rfl
  have x9 := X.out.cell 9 (.slice A1 s1 t1) rfl
  have x10 := X.out.cell 10 (.slice B1 e1 f1) rfl
  have y0 := Y.out.cell 0 (.int .i64 bkind) rfl
  have y1 := Y.out.cell 1 (.int .i64 bpg) rfl
  have y2 := Y.out.cell 2 (.bool bx) rfl
  have y3 := Y.out.cell 3 (.bool bnd) rfl
  have y4 := Y.out.cell 4 (.int .i64 bn) rfl
  have y5 := Y.out.cell 5 (.int .i64 btc) rfl
  have y6 := Y.out.cell 6 (.int .i64 bte) rfl
  have y7 := Y.out.cell 7 (.int .i64 btn) rfl
  have y8 := Y.out.cell 8 (.int .i64 blsn) rfl
  have y9 := Y.out.cell 9 (.slice A2 s2 t2) rfl
  have y10 := Y.out.cell 10 (.slice B2 e2 f2) rfl
  go_wp2_with fail
  refine (CE2.out _ HS2.out HE2.out).mono ?_
  rintro e w5 ⟨rfl, bb⟩
  clear x0 x1 x2 x3 x4 x5 x6 x7 x8 x9 x10 y0 y1 y2 y3 y4 y5 y6 y7 y8 y9 y10
  have BW := Lib.hid (bup BW.out bb)
  have X := Lib.hid (X.out.below bb)
  have Y := Lib.hid (Y.out.below bb)
  have HS1 := Lib.hid (HS1.out.below bb)
  have HE1 := Lib.hid (HE1.out.below bb)
  have HS2 := Lib.hid (HS2.out.below bb)
  have HE2 := Lib.hid (HE2.out.below bb)
  clear bb
  have x0 := X.out.cell 0 (.int .i64 akind) rfl
  have x1 := X.out.cell 1 (.int .i64 apg) rfl
  have x2 := X.out.cell 2 (.bool ax) rfl
  have x3 := X.out.cell 3 (.bool and) rfl
  have x4 := X.out.cell 4 (.int .i64 an) rfl
  have x5 := X.out.cell 5 (.int .i64 atc) rfl
  have x6 := X.out.cell 6 (.int .i64 ate) rfl
  have x7 := X.out.cell 7 (.int .i64 atn) rfl
  have x8 := X.out.cell 8 (.int .i64 alsn) rfl
  have x9 := X.out.cell 9 (.slice A1 s1 t1) rfl
  have x10 := X.out.cell 10 (.slice B1 e1 f1) rfl
  have y0 := Y.out.cell 0 (.int .i64 bkind) rfl
  have y1 := Y.out.cell 1 (.int .i64 bpg) rfl
  have y2 := Y.out.cell 2 (.bool bx) rfl
  have y3 := Y.out.cell 3 (.bool bnd) rfl
  have y4 := Y.out.cell 4 (.int .i64 bn) rfl
  have y5 := Y.out.cell 5 (.int .i64 btc) rfl
  have y6 := Y.out.cell 6 (.int .i64 bte) rfl
  have y7 := Y.out.cell 7 (.int .i64 btn) rfl
  have y8 := Y.out.cell 8 (.int .i64 blsn) rfl
  have y9 := Y.out.cell 9 (.slice A2 s2 t2) rfl
  have y10 := Y.out.cell 10 (.slice B2 e2 f2) rfl
  cases q1 with
  | false =>
    have hz : z1 = 1 := HZ1.out
    subst hz
    go_wp2_with fail
    refine (CN1.out _ HS1.out HE1.out).mono ?_
    rintro e w6 ⟨rfl, bb⟩
    clear x0 x1 x2 x3 x4 x5 x6 x7 x8 x9 x10 y0 y1 y2 y3 y4 y5 y6 y7 y8 y9 y10
    have BW := Lib.hid (bup BW.out bb)
    have X := Lib.hid (X.out.below bb)
    have Y := Lib.hid (Y.out.below bb)
    have HS1 := Lib.hid (HS1.out.below bb)
    have HE1 := Lib.hid (HE1.out.below bb)
    have HS2 := Lib.hid (HS2.out.below bb)
    have HE2 := Lib.hid (HE2.out.below bb)
    clear bb
    go_wp2_with fail
    refine (CD2.out _).mono ?_
    rintro e w8 ⟨cs, rfl, ⟨A4, s4, t4, B4, e4, f4, rfl, hS, hE⟩, bb⟩
    have BW := Lib.hid (bup BW.out bb)
    have X := Lib.hid (X.out.below bb)
    have Y := Lib.hid (Y.out.below bb)
    have HS1 := Lib.hid (HS1.out.below bb)
    have HE1 := Lib.hid (HE1.out.below bb)
    have HS2 := Lib.hid (HS2.out.below bb)
    have HE2 := Lib.hid (HE2.out.below bb)
    clear bb
    have HS4 := Lib.hid hS
    have HE4 := Lib.hid hE
    clear hS hE
    simp only [Ms.row, msgC] at HS4 HE4 ⊢
    rcases HF.out with ⟨hne, hq⟩ | ⟨rfl, hq, hb⟩
    · have CM := CS3.out A4 s4 t4 B4 e4 f4
      rw [show sameM ⟨rkind, rpg, rx, rnd, rn, rtc, rte, rtn, rlsn, rsl, rel⟩ ⟨0, 0, false, false, 0, 0, 0, 0, 0, [], []⟩ = true from sameM_iff.2 hq] at CM
      have CM := Lib.hid CM
      have hne2 : (re == 0) = false := by simpa using hne
      have hne3 : (re != 0) = true := by simp [bne, hne2]
      (try simp only at hne hne2 hne3)
      clear hq HF CS3 CE3
      go_wp2_with ((with_reducible refine at_store rfl ?_); refine wpList_put_row rfl _ _ _ rfl rfl w8.heap.size _ rfl rfl _ _ (Has.new w8 _) (by kernel_rfl) rfl (by first | kernel_rfl | simp [Value.oneCell']) ?_; intro w9 Z5 B5; (have HS4 := Lib.hid (IsSlots.apartM (m := Ms.zero) (HS4.out.alloc _) (Has.new w8 _) B5)); (have HE4 := Lib.hid (IsEnts.apart (HE4.out.below (bnew _ _)) (Has.new w8 _) (by simp) B5)); (have BW := Lib.hid ((bup BW.out (bnew _ _)).trans (B5.below BW.out.size (by have := BW.out.size; simp; omega)))); (have HM := Lib.hid Z5); (clear Z5 B5); (have m0 : w9.cell? ⟨w8.heap.size, 0, none⟩ = some (.int .i64 rkind) := HM.out.cell 0 _ rfl); (have m1 : w9.cell? ⟨w8.heap.size, 1, none⟩ = some (.int .i64 rpg) := HM.out.cell 1 _ rfl); (have m2 : w9.cell? ⟨w8.heap.size, 2, none⟩ = some (.bool rx) := HM.out.cell 2 _ rfl); (have m3 : w9.cell? ⟨w8.heap.size, 3, none⟩ = some (.bool rnd) := HM.out.cell 3 _ rfl); (have m4 : w9.cell? ⟨w8.heap.size, 4, none⟩ = some (.int .i64 rn) := HM.out.cell 4 _ rfl); (have m5 : w9.cell? ⟨w8.heap.size, 5, none⟩ = some (.int .i64 rtc) := HM.out.cell 5 _ rfl); (have m6 : w9.cell? ⟨w8.heap.size, 6, none⟩ = some (.int .i64 rte) := HM.out.cell 6 _ rfl); (have m7 : w9.cell? ⟨w8.heap.size, 7, none⟩ = some (.int .i64 rtn) := HM.out.cell 7 _ rfl); (have m8 : w9.cell? ⟨w8.heap.size, 8, none⟩ = some (.int .i64 rlsn) := HM.out.cell 8 _ rfl); (have m9 : w9.cell? ⟨w8.heap.size, 9, none⟩ = some (.slice A4 s4 t4) := HM.out.cell 9 _ rfl); (have m10 : w9.cell? ⟨w8.heap.size, 10, none⟩ = some (.slice B4 e4 f4) := HM.out.cell 10 _ rfl))
      refine (CM.out _ HS4.out HE4.out).mono ?_
      rintro e w10 ⟨rfl, bb⟩
      have BW := Lib.hid (bup BW.out bb)
      clear m0 m1 m2 m3 m4 m5 m6 m7 m8 m9 m10 bb
      go_wp2_with fail
      go_ret
      exact ⟨rfl, BW.out⟩
    · have CM := CE3.out A4 s4 t4 B4 e4 f4
      rw [show Ms.encM ⟨rkind, rpg, rx, rnd, rn, rtc, rte, rtn, rlsn, rsl, rel⟩ = (s.data.toList, 0) by unfold Ms.encM; rw [if_pos hq]; exact congrArg (fun l => (l, (0 : Int))) hb] at CM
      rw [bs_self] at CM
      have CM := Lib.hid CM
      clear hq hb HF CS3 CE3
      go_wp2_with ((with_reducible refine at_store rfl ?_); refine wpList_put_row rfl _ _ _ rfl rfl w8.heap.size _ rfl rfl _ _ (Has.new w8 _) (by kernel_rfl) rfl (by first | kernel_rfl | simp [Value.oneCell']) ?_; intro w9 Z5 B5; (have HS4 := Lib.hid (IsSlots.apartM (m := Ms.zero) (HS4.out.alloc _) (Has.new w8 _) B5)); (have HE4 := Lib.hid (IsEnts.apart (HE4.out.below (bnew _ _)) (Has.new w8 _) (by simp) B5)); (have BW := Lib.hid ((bup BW.out (bnew _ _)).trans (B5.below BW.out.size (by have := BW.out.size; simp; omega)))); (have HM := Lib.hid Z5); (clear Z5 B5); (have m0 : w9.cell? ⟨w8.heap.size, 0, none⟩ = some (.int .i64 rkind) := HM.out.cell 0 _ rfl); (have m1 : w9.cell? ⟨w8.heap.size, 1, none⟩ = some (.int .i64 rpg) := HM.out.cell 1 _ rfl); (have m2 : w9.cell? ⟨w8.heap.size, 2, none⟩ = some (.bool rx) := HM.out.cell 2 _ rfl); (have m3 : w9.cell? ⟨w8.heap.size, 3, none⟩ = some (.bool rnd) := HM.out.cell 3 _ rfl); (have m4 : w9.cell? ⟨w8.heap.size, 4, none⟩ = some (.int .i64 rn) := HM.out.cell 4 _ rfl); (have m5 : w9.cell? ⟨w8.heap.size, 5, none⟩ = some (.int .i64 rtc) := HM.out.cell 5 _ rfl); (have m6 : w9.cell? ⟨w8.heap.size, 6, none⟩ = some (.int .i64 rte) := HM.out.cell 6 _ rfl); (have m7 : w9.cell? ⟨w8.heap.size, 7, none⟩ = some (.int .i64 rtn) := HM.out.cell 7 _ rfl); (have m8 : w9.cell? ⟨w8.heap.size, 8, none⟩ = some (.int .i64 rlsn) := HM.out.cell 8 _ rfl); (have m9 : w9.cell? ⟨w8.heap.size, 9, none⟩ = some (.slice A4 s4 t4) := HM.out.cell 9 _ rfl); (have m10 : w9.cell? ⟨w8.heap.size, 10, none⟩ = some (.slice B4 e4 f4) := HM.out.cell 10 _ rfl))
      refine (CM.out _ HS4.out HE4.out).mono ?_
      rintro e w10 ⟨rfl, bb⟩
      have BW := Lib.hid (bup BW.out bb)
      clear m0 m1 m2 m3 m4 m5 m6 m7 m8 m9 m10 bb
      go_wp2_with fail
      go_ret
      exact ⟨rfl, BW.out⟩
  | true =>
    have hz : z1 = 0 := HZ1.out
    subst hz
    replace CD1 := Lib.hid (CD1.out rfl)
    replace HSM := Lib.hid (HSM.out rfl)
    go_wp2_with fail
    refine (CN1.out _ HS1.out HE1.out).mono ?_
    rintro e w6 ⟨rfl, bb⟩
    clear x0 x1 x2 x3 x4 x5 x6 x7 x8 x9 x10 y0 y1 y2 y3 y4 y5 y6 y7 y8 y9 y10
    have BW := Lib.hid (bup BW.out bb)
    have X := Lib.hid (X.out.below bb)
    have Y := Lib.hid (Y.out.below bb)
    have HS1 := Lib.hid (HS1.out.below bb)
    have HE1 := Lib.hid (HE1.out.below bb)
    have HS2 := Lib.hid (HS2.out.below bb)
    have HE2 := Lib.hid (HE2.out.below bb)
    clear bb
    go_wp2_with fail
    refine (CD1.out _).mono ?_
    rintro e w6 ⟨cs, rfl, ⟨A3, s3, t3, B3, e3, f3, rfl, hS, hE⟩, bb⟩
    have BW := Lib.hid (bup BW.out bb)
    have X := Lib.hid (X.out.below bb)
    have Y := Lib.hid (Y.out.below bb)
    have HS1 := Lib.hid (HS1.out.below bb)
    have HE1 := Lib.hid (HE1.out.below bb)
    have HS2 := Lib.hid (HS2.out.below bb)
    have HE2 := Lib.hid (HE2.out.below bb)
    clear bb
    have HS3 := Lib.hid hS
    have HE3 := Lib.hid hE
    clear hS hE
    simp only [Ms.row, msgC] at HS3 HE3 ⊢
    go_wp2_with ((with_reducible refine at_store rfl ?_); refine wpList_put_row rfl _ _ _ rfl rfl w6.heap.size _ rfl rfl _ _ (Has.new w6 _) (by kernel_rfl) rfl (by first | kernel_rfl | simp [Value.oneCell']) ?_; intro w7 Z5 B5; (have X := Lib.hid ((X.out.alloc _).but B5 (by have := X.out.lt; omega))); (have Y := Lib.hid ((Y.out.alloc _).but B5 (by have := Y.out.lt; omega))); (have HS1 := Lib.hid (IsSlots.apartM (m := Ms.zero) (HS1.out.alloc _) (Has.new w6 _) B5)); (have HS2 := Lib.hid (IsSlots.apartM (m := Ms.zero) (HS2.out.alloc _) (Has.new w6 _) B5)); (have HS3 := Lib.hid (IsSlots.apartM (m := Ms.zero) (HS3.out.alloc _) (Has.new w6 _) B5)); (have HE1 := Lib.hid (IsEnts.apart (HE1.out.below (bnew _ _)) (Has.new w6 _) (by simp) B5)); (have HE2 := Lib.hid (IsEnts.apart (HE2.out.below (bnew _ _)) (Has.new w6 _) (by simp) B5)); (have HE3 := Lib.hid (IsEnts.apart (HE3.out.below (bnew _ _)) (Has.new w6 _) (by simp) B5)); (have BW := Lib.hid ((bup BW.out (bnew _ _)).trans (B5.below BW.out.size (by have := BW.out.size; simp; omega)))); (have HM := Lib.hid Z5); (clear Z5 B5); (have m0 : w7.cell? ⟨w6.heap.size, 0, none⟩ = some (.int .i64 akind) := HM.out.cell 0 _ rfl); (have m1 : w7.cell? ⟨w6.heap.size, 1, none⟩ = some (.int .i64 apg) := HM.out.cell 1 _ rfl); (have m2 : w7.cell? ⟨w6.heap.size, 2, none⟩ = some (.bool ax) := HM.out.cell 2 _ rfl); (have m3 : w7.cell? ⟨w6.heap.size, 3, none⟩ = some (.bool and) := HM.out.cell 3 _ rfl); (have m4 : w7.cell? ⟨w6.heap.size, 4, none⟩ = some (.int .i64 an) := HM.out.cell 4 _ rfl); (have m5 : w7.cell? ⟨w6.heap.size, 5, none⟩ = some (.int .i64 atc) := HM.out.cell 5 _ rfl); (have m6 : w7.cell? ⟨w6.heap.size, 6, none⟩ = some (.int .i64 ate) := HM.out.cell 6 _ rfl); (have m7 : w7.cell? ⟨w6.heap.size, 7, none⟩ = some (.int .i64 atn) := HM.out.cell 7 _ rfl); (have m8 : w7.cell? ⟨w6.heap.size, 8, none⟩ = some (.int .i64 alsn) := HM.out.cell 8 _ rfl); (have m9 : w7.cell? ⟨w6.heap.size, 9, none⟩ = some (.slice A3 s3 t3) := HM.out.cell 9 _ rfl); (have m10 : w7.cell? ⟨w6.heap.size, 10, none⟩ = some (.slice B3 e3 f3) := HM.out.cell 10 _ rfl); (have x0 : w7.cell? ⟨w.heap.size, 0, none⟩ = some (.int .i64 akind) := X.out.cell 0 _ rfl); (have x1 : w7.cell? ⟨w.heap.size, 1, none⟩ = some (.int .i64 apg) := X.out.cell 1 _ rfl); (have x2 : w7.cell? ⟨w.heap.size, 2, none⟩ = some (.bool ax) := X.out.cell 2 _ rfl); (have x3 : w7.cell? ⟨w.heap.size, 3, none⟩ = some (.bool and) := X.out.cell 3 _ rfl); (have x4 : w7.cell? ⟨w.heap.size, 4, none⟩ = some (.int .i64 an) := X.out.cell 4 _ rfl); (have x5 : w7.cell? ⟨w.heap.size, 5, none⟩ = some (.int .i64 atc) := X.out.cell 5 _ rfl); (have x6 : w7.cell? ⟨w.heap.size, 6, none⟩ = some (.int .i64 ate) := X.out.cell 6 _ rfl); (have x7 : w7.cell? ⟨w.heap.size, 7, none⟩ = some (.int .i64 atn) := X.out.cell 7 _ rfl); (have x8 : w7.cell? ⟨w.heap.size, 8, none⟩ = some (.int .i64 alsn) := X.out.cell 8 _ rfl); (have x9 : w7.cell? ⟨w.heap.size, 9, none⟩ = some (.slice A1 s1 t1) := X.out.cell 9 _ rfl); (have x10 : w7.cell? ⟨w.heap.size, 10, none⟩ = some (.slice B1 e1 f1) := X.out.cell 10 _ rfl))
    refine (CS1.out _ _ _ _ _ _ _ HS3.out HE3.out HS1.out HE1.out).mono ?_
    rintro e w8 ⟨rfl, bb⟩
    clear x0 x1 x2 x3 x4 x5 x6 x7 x8 x9 x10 m0 m1 m2 m3 m4 m5 m6 m7 m8 m9 m10
    have BW := Lib.hid (bup BW.out bb)
    have X := Lib.hid (X.out.below bb)
    have Y := Lib.hid (Y.out.below bb)
    have HS1 := Lib.hid (HS1.out.below bb)
    have HE1 := Lib.hid (HE1.out.below bb)
    have HS2 := Lib.hid (HS2.out.below bb)
    have HE2 := Lib.hid (HE2.out.below bb)
    clear bb
    cases q2 with
    | false =>
      have hz : z2 = 1 := HZ2.out
      subst hz
      go_wp2_with fail
      refine (CD2.out _).mono ?_
      rintro e w8 ⟨cs, rfl, ⟨A4, s4, t4, B4, e4, f4, rfl, hS, hE⟩, bb⟩
      have BW := Lib.hid (bup BW.out bb)
      have X := Lib.hid (X.out.below bb)
      have Y := Lib.hid (Y.out.below bb)
      have HS1 := Lib.hid (HS1.out.below bb)
      have HE1 := Lib.hid (HE1.out.below bb)
      have HS2 := Lib.hid (HS2.out.below bb)
      have HE2 := Lib.hid (HE2.out.below bb)
      clear bb
      have HS4 := Lib.hid hS
      have HE4 := Lib.hid hE
      clear hS hE
      simp only [Ms.row, msgC] at HS4 HE4 ⊢
      rcases HF.out with ⟨hne, hq⟩ | ⟨rfl, hq, hb⟩
      · have CM := CS3.out A4 s4 t4 B4 e4 f4
        rw [show sameM ⟨rkind, rpg, rx, rnd, rn, rtc, rte, rtn, rlsn, rsl, rel⟩ ⟨0, 0, false, false, 0, 0, 0, 0, 0, [], []⟩ = true from sameM_iff.2 hq] at CM
        have CM := Lib.hid CM
        have hne2 : (re == 0) = false := by simpa using hne
        have hne3 : (re != 0) = true := by simp [bne, hne2]
        (try simp only at hne hne2 hne3)
        clear hq HF CS3 CE3
        go_wp2_with ((with_reducible refine at_store rfl ?_); refine wpList_put_row rfl _ _ _ rfl rfl w8.heap.size _ rfl rfl _ _ (Has.new w8 _) (by kernel_rfl) rfl (by first | kernel_rfl | simp [Value.oneCell']) ?_; intro w9 Z5 B5; (have HS4 := Lib.hid (IsSlots.apartM (m := Ms.zero) (HS4.out.alloc _) (Has.new w8 _) B5)); (have HE4 := Lib.hid (IsEnts.apart (HE4.out.below (bnew _ _)) (Has.new w8 _) (by simp) B5)); (have BW := Lib.hid ((bup BW.out (bnew _ _)).trans (B5.below BW.out.size (by have := BW.out.size; simp; omega)))); (have HM := Lib.hid Z5); (clear Z5 B5); (have m0 : w9.cell? ⟨w8.heap.size, 0, none⟩ = some (.int .i64 rkind) := HM.out.cell 0 _ rfl); (have m1 : w9.cell? ⟨w8.heap.size, 1, none⟩ = some (.int .i64 rpg) := HM.out.cell 1 _ rfl); (have m2 : w9.cell? ⟨w8.heap.size, 2, none⟩ = some (.bool rx) := HM.out.cell 2 _ rfl); (have m3 : w9.cell? ⟨w8.heap.size, 3, none⟩ = some (.bool rnd) := HM.out.cell 3 _ rfl); (have m4 : w9.cell? ⟨w8.heap.size, 4, none⟩ = some (.int .i64 rn) := HM.out.cell 4 _ rfl); (have m5 : w9.cell? ⟨w8.heap.size, 5, none⟩ = some (.int .i64 rtc) := HM.out.cell 5 _ rfl); (have m6 : w9.cell? ⟨w8.heap.size, 6, none⟩ = some (.int .i64 rte) := HM.out.cell 6 _ rfl); (have m7 : w9.cell? ⟨w8.heap.size, 7, none⟩ = some (.int .i64 rtn) := HM.out.cell 7 _ rfl); (have m8 : w9.cell? ⟨w8.heap.size, 8, none⟩ = some (.int .i64 rlsn) := HM.out.cell 8 _ rfl); (have m9 : w9.cell? ⟨w8.heap.size, 9, none⟩ = some (.slice A4 s4 t4) := HM.out.cell 9 _ rfl); (have m10 : w9.cell? ⟨w8.heap.size, 10, none⟩ = some (.slice B4 e4 f4) := HM.out.cell 10 _ rfl))
        refine (CM.out _ HS4.out HE4.out).mono ?_
        rintro e w10 ⟨rfl, bb⟩
        have BW := Lib.hid (bup BW.out bb)
        clear m0 m1 m2 m3 m4 m5 m6 m7 m8 m9 m10 bb
        go_wp2_with fail
        go_ret
        exact ⟨rfl, BW.out⟩
      · have CM := CE3.out A4 s4 t4 B4 e4 f4
        rw [show Ms.encM ⟨rkind, rpg, rx, rnd, rn, rtc, rte, rtn, rlsn, rsl, rel⟩ = (s.data.toList, 0) by unfold Ms.encM; rw [if_pos hq]; exact congrArg (fun l => (l, (0 : Int))) hb] at CM
        rw [bs_self] at CM
        have CM := Lib.hid CM
        clear hq hb HF CS3 CE3
        go_wp2_with ((with_reducible refine at_store rfl ?_); refine wpList_put_row rfl _ _ _ rfl rfl w8.heap.size _ rfl rfl _ _ (Has.new w8 _) (by kernel_rfl) rfl (by first | kernel_rfl | simp [Value.oneCell']) ?_; intro w9 Z5 B5; (have HS4 := Lib.hid (IsSlots.apartM (m := Ms.zero) (HS4.out.alloc _) (Has.new w8 _) B5)); (have HE4 := Lib.hid (IsEnts.apart (HE4.out.below (bnew _ _)) (Has.new w8 _) (by simp) B5)); (have BW := Lib.hid ((bup BW.out (bnew _ _)).trans (B5.below BW.out.size (by have := BW.out.size; simp; omega)))); (have HM := Lib.hid Z5); (clear Z5 B5); (have m0 : w9.cell? ⟨w8.heap.size, 0, none⟩ = some (.int .i64 rkind) := HM.out.cell 0 _ rfl); (have m1 : w9.cell? ⟨w8.heap.size, 1, none⟩ = some (.int .i64 rpg) := HM.out.cell 1 _ rfl); (have m2 : w9.cell? ⟨w8.heap.size, 2, none⟩ = some (.bool rx) := HM.out.cell 2 _ rfl); (have m3 : w9.cell? ⟨w8.heap.size, 3, none⟩ = some (.bool rnd) := HM.out.cell 3 _ rfl); (have m4 : w9.cell? ⟨w8.heap.size, 4, none⟩ = some (.int .i64 rn) := HM.out.cell 4 _ rfl); (have m5 : w9.cell? ⟨w8.heap.size, 5, none⟩ = some (.int .i64 rtc) := HM.out.cell 5 _ rfl); (have m6 : w9.cell? ⟨w8.heap.size, 6, none⟩ = some (.int .i64 rte) := HM.out.cell 6 _ rfl); (have m7 : w9.cell? ⟨w8.heap.size, 7, none⟩ = some (.int .i64 rtn) := HM.out.cell 7 _ rfl); (have m8 : w9.cell? ⟨w8.heap.size, 8, none⟩ = some (.int .i64 rlsn) := HM.out.cell 8 _ rfl); (have m9 : w9.cell? ⟨w8.heap.size, 9, none⟩ = some (.slice A4 s4 t4) := HM.out.cell 9 _ rfl); (have m10 : w9.cell? ⟨w8.heap.size, 10, none⟩ = some (.slice B4 e4 f4) := HM.out.cell 10 _ rfl))
        refine (CM.out _ HS4.out HE4.out).mono ?_
        rintro e w10 ⟨rfl, bb⟩
        have BW := Lib.hid (bup BW.out bb)
        clear m0 m1 m2 m3 m4 m5 m6 m7 m8 m9 m10 bb
        go_wp2_with fail
        go_ret
        exact ⟨rfl, BW.out⟩
    | true =>
      have hz : z2 = 0 := HZ2.out
      subst hz
      replace HSM := Lib.hid (HSM.out rfl)
      have x0 := X.out.cell 0 (.int .i64 akind) rfl
      have x1 := X.out.cell 1 (.int .i64 apg) rfl
      have x2 := X.out.cell 2 (.bool ax) rfl
      have x3 := X.out.cell 3 (.bool and) rfl
      have x4 := X.out.cell 4 (.int .i64 an) rfl
      have x5 := X.out.cell 5 (.int .i64 atc) rfl
      have x6 := X.out.cell 6 (.int .i64 ate) rfl
      have x7 := X.out.cell 7 (.int .i64 atn) rfl
      have x8 := X.out.cell 8 (.int .i64 alsn) rfl
      have x9 := X.out.cell 9 (.slice A1 s1 t1) rfl
      have x10 := X.out.cell 10 (.slice B1 e1 f1) rfl
      have y0 := Y.out.cell 0 (.int .i64 bkind) rfl
      have y1 := Y.out.cell 1 (.int .i64 bpg) rfl
      have y2 := Y.out.cell 2 (.bool bx) rfl
      have y3 := Y.out.cell 3 (.bool bnd) rfl
      have y4 := Y.out.cell 4 (.int .i64 bn) rfl
      have y5 := Y.out.cell 5 (.int .i64 btc) rfl
      have y6 := Y.out.cell 6 (.int .i64 bte) rfl
      have y7 := Y.out.cell 7 (.int .i64 btn) rfl
      have y8 := Y.out.cell 8 (.int .i64 blsn) rfl
      have y9 := Y.out.cell 9 (.slice A2 s2 t2) rfl
      have y10 := Y.out.cell 10 (.slice B2 e2 f2) rfl
      go_wp2_with fail
      refine (CS2.out _ HS1.out HE1.out HS2.out HE2.out).mono ?_
      rintro e w8 ⟨rfl, bb⟩
      clear x0 x1 x2 x3 x4 x5 x6 x7 x8 x9 x10 y0 y1 y2 y3 y4 y5 y6 y7 y8 y9 y10
      have BW := Lib.hid (bup BW.out bb)
      have X := Lib.hid (X.out.below bb)
      have Y := Lib.hid (Y.out.below bb)
      have HS1 := Lib.hid (HS1.out.below bb)
      have HE1 := Lib.hid (HE1.out.below bb)
      have HS2 := Lib.hid (HS2.out.below bb)
      have HE2 := Lib.hid (HE2.out.below bb)
      clear bb
      by_cases huv : U = V
      · have hsm : sm = true := by rw [HSM.out]; simp [huv]
        subst hsm huv
        clear HSM
        go_wp2_with fail
        refine (CD2.out _).mono ?_
        rintro e w8 ⟨cs, rfl, ⟨A4, s4, t4, B4, e4, f4, rfl, hS, hE⟩, bb⟩
        have BW := Lib.hid (bup BW.out bb)
        have X := Lib.hid (X.out.below bb)
        have Y := Lib.hid (Y.out.below bb)
        have HS1 := Lib.hid (HS1.out.below bb)
        have HE1 := Lib.hid (HE1.out.below bb)
        have HS2 := Lib.hid (HS2.out.below bb)
        have HE2 := Lib.hid (HE2.out.below bb)
        clear bb
        have HS4 := Lib.hid hS
        have HE4 := Lib.hid hE
        clear hS hE
        simp only [Ms.row, msgC] at HS4 HE4 ⊢
        rcases HF.out with ⟨hne, hq⟩ | ⟨rfl, hq, hb⟩
        · have CM := CS3.out A4 s4 t4 B4 e4 f4
          rw [show sameM ⟨rkind, rpg, rx, rnd, rn, rtc, rte, rtn, rlsn, rsl, rel⟩ ⟨0, 0, false, false, 0, 0, 0, 0, 0, [], []⟩ = true from sameM_iff.2 hq] at CM
          have CM := Lib.hid CM
          have hne2 : (re == 0) = false := by simpa using hne
          have hne3 : (re != 0) = true := by simp [bne, hne2]
          (try simp only at hne hne2 hne3)
          clear hq HF CS3 CE3
          go_wp2_with ((with_reducible refine at_store rfl ?_); refine wpList_put_row rfl _ _ _ rfl rfl w8.heap.size _ rfl rfl _ _ (Has.new w8 _) (by kernel_rfl) rfl (by first | kernel_rfl | simp [Value.oneCell']) ?_; intro w9 Z5 B5; (have HS4 := Lib.hid (IsSlots.apartM (m := Ms.zero) (HS4.out.alloc _) (Has.new w8 _) B5)); (have HE4 := Lib.hid (IsEnts.apart (HE4.out.below (bnew _ _)) (Has.new w8 _) (by simp) B5)); (have BW := Lib.hid ((bup BW.out (bnew _ _)).trans (B5.below BW.out.size (by have := BW.out.size; simp; omega)))); (have HM := Lib.hid Z5); (clear Z5 B5); (have m0 : w9.cell? ⟨w8.heap.size, 0, none⟩ = some (.int .i64 rkind) := HM.out.cell 0 _ rfl); (have m1 : w9.cell? ⟨w8.heap.size, 1, none⟩ = some (.int .i64 rpg) := HM.out.cell 1 _ rfl); (have m2 : w9.cell? ⟨w8.heap.size, 2, none⟩ = some (.bool rx) := HM.out.cell 2 _ rfl); (have m3 : w9.cell? ⟨w8.heap.size, 3, none⟩ = some (.bool rnd) := HM.out.cell 3 _ rfl); (have m4 : w9.cell? ⟨w8.heap.size, 4, none⟩ = some (.int .i64 rn) := HM.out.cell 4 _ rfl); (have m5 : w9.cell? ⟨w8.heap.size, 5, none⟩ = some (.int .i64 rtc) := HM.out.cell 5 _ rfl); (have m6 : w9.cell? ⟨w8.heap.size, 6, none⟩ = some (.int .i64 rte) := HM.out.cell 6 _ rfl); (have m7 : w9.cell? ⟨w8.heap.size, 7, none⟩ = some (.int .i64 rtn) := HM.out.cell 7 _ rfl); (have m8 : w9.cell? ⟨w8.heap.size, 8, none⟩ = some (.int .i64 rlsn) := HM.out.cell 8 _ rfl); (have m9 : w9.cell? ⟨w8.heap.size, 9, none⟩ = some (.slice A4 s4 t4) := HM.out.cell 9 _ rfl); (have m10 : w9.cell? ⟨w8.heap.size, 10, none⟩ = some (.slice B4 e4 f4) := HM.out.cell 10 _ rfl))
          refine (CM.out _ HS4.out HE4.out).mono ?_
          rintro e w10 ⟨rfl, bb⟩
          have BW := Lib.hid (bup BW.out bb)
          clear m0 m1 m2 m3 m4 m5 m6 m7 m8 m9 m10 bb
          go_wp2_with fail
          go_ret
          exact ⟨rfl, BW.out⟩
        · have CM := CE3.out A4 s4 t4 B4 e4 f4
          rw [show Ms.encM ⟨rkind, rpg, rx, rnd, rn, rtc, rte, rtn, rlsn, rsl, rel⟩ = (s.data.toList, 0) by unfold Ms.encM; rw [if_pos hq]; exact congrArg (fun l => (l, (0 : Int))) hb] at CM
          rw [bs_self] at CM
          have CM := Lib.hid CM
          clear hq hb HF CS3 CE3
          go_wp2_with ((with_reducible refine at_store rfl ?_); refine wpList_put_row rfl _ _ _ rfl rfl w8.heap.size _ rfl rfl _ _ (Has.new w8 _) (by kernel_rfl) rfl (by first | kernel_rfl | simp [Value.oneCell']) ?_; intro w9 Z5 B5; (have HS4 := Lib.hid (IsSlots.apartM (m := Ms.zero) (HS4.out.alloc _) (Has.new w8 _) B5)); (have HE4 := Lib.hid (IsEnts.apart (HE4.out.below (bnew _ _)) (Has.new w8 _) (by simp) B5)); (have BW := Lib.hid ((bup BW.out (bnew _ _)).trans (B5.below BW.out.size (by have := BW.out.size; simp; omega)))); (have HM := Lib.hid Z5); (clear Z5 B5); (have m0 : w9.cell? ⟨w8.heap.size, 0, none⟩ = some (.int .i64 rkind) := HM.out.cell 0 _ rfl); (have m1 : w9.cell? ⟨w8.heap.size, 1, none⟩ = some (.int .i64 rpg) := HM.out.cell 1 _ rfl); (have m2 : w9.cell? ⟨w8.heap.size, 2, none⟩ = some (.bool rx) := HM.out.cell 2 _ rfl); (have m3 : w9.cell? ⟨w8.heap.size, 3, none⟩ = some (.bool rnd) := HM.out.cell 3 _ rfl); (have m4 : w9.cell? ⟨w8.heap.size, 4, none⟩ = some (.int .i64 rn) := HM.out.cell 4 _ rfl); (have m5 : w9.cell? ⟨w8.heap.size, 5, none⟩ = some (.int .i64 rtc) := HM.out.cell 5 _ rfl); (have m6 : w9.cell? ⟨w8.heap.size, 6, none⟩ = some (.int .i64 rte) := HM.out.cell 6 _ rfl); (have m7 : w9.cell? ⟨w8.heap.size, 7, none⟩ = some (.int .i64 rtn) := HM.out.cell 7 _ rfl); (have m8 : w9.cell? ⟨w8.heap.size, 8, none⟩ = some (.int .i64 rlsn) := HM.out.cell 8 _ rfl); (have m9 : w9.cell? ⟨w8.heap.size, 9, none⟩ = some (.slice A4 s4 t4) := HM.out.cell 9 _ rfl); (have m10 : w9.cell? ⟨w8.heap.size, 10, none⟩ = some (.slice B4 e4 f4) := HM.out.cell 10 _ rfl))
          refine (CM.out _ HS4.out HE4.out).mono ?_
          rintro e w10 ⟨rfl, bb⟩
          have BW := Lib.hid (bup BW.out bb)
          clear m0 m1 m2 m3 m4 m5 m6 m7 m8 m9 m10 bb
          go_wp2_with fail
          go_ret
          exact ⟨rfl, BW.out⟩
      · have hsm : sm = false := by rw [HSM.out]; simp [huv]
        have huv2 : (U.toList == V.toList) = false := by
          cases h : (U.toList == V.toList) with
          | false => rfl
          | true =>
            refine absurd ?_ huv
            have h' := eq_of_beq h
            rw [ByteArray.toList_eq, ByteArray.toList_eq] at h'
            exact ByteArray.ext (Array.toList_inj.1 h')
        subst hsm
        clear HSM
        go_wp2_with fail
        refine (CD2.out _).mono ?_
        rintro e w8 ⟨cs, rfl, ⟨A4, s4, t4, B4, e4, f4, rfl, hS, hE⟩, bb⟩
        have BW := Lib.hid (bup BW.out bb)
        have X := Lib.hid (X.out.below bb)
        have Y := Lib.hid (Y.out.below bb)
        have HS1 := Lib.hid (HS1.out.below bb)
        have HE1 := Lib.hid (HE1.out.below bb)
        have HS2 := Lib.hid (HS2.out.below bb)
        have HE2 := Lib.hid (HE2.out.below bb)
        clear bb
        have HS4 := Lib.hid hS
        have HE4 := Lib.hid hE
        clear hS hE
        simp only [Ms.row, msgC] at HS4 HE4 ⊢
        rcases HF.out with ⟨hne, hq⟩ | ⟨rfl, hq, hb⟩
        · have CM := CS3.out A4 s4 t4 B4 e4 f4
          rw [show sameM ⟨rkind, rpg, rx, rnd, rn, rtc, rte, rtn, rlsn, rsl, rel⟩ ⟨0, 0, false, false, 0, 0, 0, 0, 0, [], []⟩ = true from sameM_iff.2 hq] at CM
          have CM := Lib.hid CM
          have hne2 : (re == 0) = false := by simpa using hne
          have hne3 : (re != 0) = true := by simp [bne, hne2]
          (try simp only at hne hne2 hne3)
          clear hq HF CS3 CE3
          go_wp2_with ((with_reducible refine at_store rfl ?_); refine wpList_put_row rfl _ _ _ rfl rfl w8.heap.size _ rfl rfl _ _ (Has.new w8 _) (by kernel_rfl) rfl (by first | kernel_rfl | simp [Value.oneCell']) ?_; intro w9 Z5 B5; (have HS4 := Lib.hid (IsSlots.apartM (m := Ms.zero) (HS4.out.alloc _) (Has.new w8 _) B5)); (have HE4 := Lib.hid (IsEnts.apart (HE4.out.below (bnew _ _)) (Has.new w8 _) (by simp) B5)); (have BW := Lib.hid ((bup BW.out (bnew _ _)).trans (B5.below BW.out.size (by have := BW.out.size; simp; omega)))); (have HM := Lib.hid Z5); (clear Z5 B5); (have m0 : w9.cell? ⟨w8.heap.size, 0, none⟩ = some (.int .i64 rkind) := HM.out.cell 0 _ rfl); (have m1 : w9.cell? ⟨w8.heap.size, 1, none⟩ = some (.int .i64 rpg) := HM.out.cell 1 _ rfl); (have m2 : w9.cell? ⟨w8.heap.size, 2, none⟩ = some (.bool rx) := HM.out.cell 2 _ rfl); (have m3 : w9.cell? ⟨w8.heap.size, 3, none⟩ = some (.bool rnd) := HM.out.cell 3 _ rfl); (have m4 : w9.cell? ⟨w8.heap.size, 4, none⟩ = some (.int .i64 rn) := HM.out.cell 4 _ rfl); (have m5 : w9.cell? ⟨w8.heap.size, 5, none⟩ = some (.int .i64 rtc) := HM.out.cell 5 _ rfl); (have m6 : w9.cell? ⟨w8.heap.size, 6, none⟩ = some (.int .i64 rte) := HM.out.cell 6 _ rfl); (have m7 : w9.cell? ⟨w8.heap.size, 7, none⟩ = some (.int .i64 rtn) := HM.out.cell 7 _ rfl); (have m8 : w9.cell? ⟨w8.heap.size, 8, none⟩ = some (.int .i64 rlsn) := HM.out.cell 8 _ rfl); (have m9 : w9.cell? ⟨w8.heap.size, 9, none⟩ = some (.slice A4 s4 t4) := HM.out.cell 9 _ rfl); (have m10 : w9.cell? ⟨w8.heap.size, 10, none⟩ = some (.slice B4 e4 f4) := HM.out.cell 10 _ rfl))
          refine (CM.out _ HS4.out HE4.out).mono ?_
          rintro e w10 ⟨rfl, bb⟩
          have BW := Lib.hid (bup BW.out bb)
          clear m0 m1 m2 m3 m4 m5 m6 m7 m8 m9 m10 bb
          go_wp2_with fail
          go_ret
          exact ⟨rfl, BW.out⟩
        · have CM := CE3.out A4 s4 t4 B4 e4 f4
          rw [show Ms.encM ⟨rkind, rpg, rx, rnd, rn, rtc, rte, rtn, rlsn, rsl, rel⟩ = (s.data.toList, 0) by unfold Ms.encM; rw [if_pos hq]; exact congrArg (fun l => (l, (0 : Int))) hb] at CM
          rw [bs_self] at CM
          have CM := Lib.hid CM
          clear hq hb HF CS3 CE3
          go_wp2_with ((with_reducible refine at_store rfl ?_); refine wpList_put_row rfl _ _ _ rfl rfl w8.heap.size _ rfl rfl _ _ (Has.new w8 _) (by kernel_rfl) rfl (by first | kernel_rfl | simp [Value.oneCell']) ?_; intro w9 Z5 B5; (have HS4 := Lib.hid (IsSlots.apartM (m := Ms.zero) (HS4.out.alloc _) (Has.new w8 _) B5)); (have HE4 := Lib.hid (IsEnts.apart (HE4.out.below (bnew _ _)) (Has.new w8 _) (by simp) B5)); (have BW := Lib.hid ((bup BW.out (bnew _ _)).trans (B5.below BW.out.size (by have := BW.out.size; simp; omega)))); (have HM := Lib.hid Z5); (clear Z5 B5); (have m0 : w9.cell? ⟨w8.heap.size, 0, none⟩ = some (.int .i64 rkind) := HM.out.cell 0 _ rfl); (have m1 : w9.cell? ⟨w8.heap.size, 1, none⟩ = some (.int .i64 rpg) := HM.out.cell 1 _ rfl); (have m2 : w9.cell? ⟨w8.heap.size, 2, none⟩ = some (.bool rx) := HM.out.cell 2 _ rfl); (have m3 : w9.cell? ⟨w8.heap.size, 3, none⟩ = some (.bool rnd) := HM.out.cell 3 _ rfl); (have m4 : w9.cell? ⟨w8.heap.size, 4, none⟩ = some (.int .i64 rn) := HM.out.cell 4 _ rfl); (have m5 : w9.cell? ⟨w8.heap.size, 5, none⟩ = some (.int .i64 rtc) := HM.out.cell 5 _ rfl); (have m6 : w9.cell? ⟨w8.heap.size, 6, none⟩ = some (.int .i64 rte) := HM.out.cell 6 _ rfl); (have m7 : w9.cell? ⟨w8.heap.size, 7, none⟩ = some (.int .i64 rtn) := HM.out.cell 7 _ rfl); (have m8 : w9.cell? ⟨w8.heap.size, 8, none⟩ = some (.int .i64 rlsn) := HM.out.cell 8 _ rfl); (have m9 : w9.cell? ⟨w8.heap.size, 9, none⟩ = some (.slice A4 s4 t4) := HM.out.cell 9 _ rfl); (have m10 : w9.cell? ⟨w8.heap.size, 10, none⟩ = some (.slice B4 e4 f4) := HM.out.cell 10 _ rfl))
          refine (CM.out _ HS4.out HE4.out).mono ?_
          rintro e w10 ⟨rfl, bb⟩
          have BW := Lib.hid (bup BW.out bb)
          clear m0 m1 m2 m3 m4 m5 m6 m7 m8 m9 m10 bb
          go_wp2_with fail
          go_ret
          exact ⟨rfl, BW.out⟩
end Go.Proofs.Ytakdagmkkelnfaa
