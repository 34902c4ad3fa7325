/-
  Whether a message can be, as the document says it.
-/
import Derived.Test.YtakdagmkkelnfaaNoR2
import Derived.Test.YtakdagmkkelnfaaEntRgood
import Derived.Test.YtakdagmkkelnfaaNoD
import Derived.Deep.Cut
namespace Go.Proofs.Ytakdagmkkelnfaa
open Go.RowKit Go.Sort NibPure SumPure
set_option linter.unusedVariables false
set_option linter.unusedSimpArgs false
theorem txnNeqR (c c' e e' n n' : Int) (w : World) : (binOp .neq 26 (.agg #[.int .i64 c, .int .i64 e, .int .i64 n]) (.agg #[.int .i64 c', .int .i64 e', .int .i64 n'])).run Try.prog w = .ok (.bool (!(c == c' && (e == e' && (n == n' && true))))) w := by
  rw [run_neq_struct, txnEqIn 9998 c c' e e' n n' w]
  rfl
def rV1 (fp fx fn : Bool) (pg : Int) (x need : Bool) : Bool := (fp && (decide (pg < 0) || decide (1023 < pg))) || ((!fp && !(pg == 0)) || ((!fx && x) || (!fn && need)))
def rV2 (ft kn tz : Bool) : Bool := (ft && !kn) || (!ft && !tz)
def rV3 (fc : Bool) (lst n : Int) : Bool := (fc && (decide (n < lst) || decide (1048576 < n))) || (!fc && !(n == 0))
def rV4 (fi gi : Bool) (lsn sn : Int) : Bool := (fi && !gi) || (!fi && (!(lsn == 0) || decide (0 < sn)))
def rV5 (fe : Bool) (en : Int) : Bool := (fe && (decide (en < 1) || decide (16 < en))) || (!fe && decide (0 < en))
theorem rV1_is (fp fx fn : Bool) (pg : Int) (x need : Bool) : (!rV1 fp fx fn pg x need) = ((fp || pg == 0) && ((fx || !x) && ((fn || !need) && (!fp || decide (0 ≤ pg ∧ pg ≤ 1023))))) := by
  have e : (decide (pg < 0) || decide (1023 < pg)) = !(decide (0 ≤ pg ∧ pg ≤ 1023)) := by
    by_cases h1 : pg < 0
    · have : ¬ (0 ≤ pg ∧ pg ≤ 1023) := by omega
      simp [h1, this]
    · by_cases h2 : 1023 < pg
      · have : ¬ (0 ≤ pg ∧ pg ≤ 1023) := by omega
        simp [h2, this]
      · have : (0 ≤ pg ∧ pg ≤ 1023) := by omega
        simp [h1, h2, this]
  unfold rV1
  rw [e]
  generalize decide (0 ≤ pg ∧ pg ≤ 1023) = a
  generalize (pg == 0) = b
  revert fp fx fn x need a b
  decide
theorem rV2_is (ft kn tz : Bool) : (!rV2 ft kn tz) = ((ft || tz) && (!ft || kn)) := by revert ft kn tz; decide
theorem rV3_is (fc : Bool) (lst n : Int) (h : 0 ≤ lst) : (!rV3 fc lst n) = (((fc && decide (lst ≤ n)) || n == 0) && ((!fc || decide (lst ≤ n)) && (!fc || decide (0 ≤ n ∧ n ≤ 1048576)))) := by
  unfold rV3
  by_cases h1 : n < lst
  · have h2 : ¬ lst ≤ n := by omega
    simp only [h1, h2, decide_true, decide_false]
    generalize (n == 0) = b
    generalize decide (1048576 < n) = c
    generalize decide (0 ≤ n ∧ n ≤ 1048576) = d
    revert fc b c d
    decide
  · have h2 : lst ≤ n := by omega
    have e : decide (0 ≤ n ∧ n ≤ 1048576) = !decide (1048576 < n) := by
      by_cases h3 : 1048576 < n
      · have : ¬ (0 ≤ n ∧ n ≤ 1048576) := by omega
        simp [h3, this]
      · have : (0 ≤ n ∧ n ≤ 1048576) := by omega
        simp [h3, this]
    rw [e]
    simp only [h1, h2, decide_true, decide_false]
    generalize (n == 0) = b
    generalize decide (1048576 < n) = c
    revert fc b c
    decide
theorem rV4_is (fi gi : Bool) (lsn : Int) (l : List Sl) : (!rV4 fi gi lsn (l.length : Int)) = ((fi || (lsn == 0 && l.isEmpty)) && (!fi || gi)) := by
  unfold rV4
  have e : decide ((0 : Int) < (l.length : Int)) = !l.isEmpty := by cases l <;> simp <;> omega
  rw [e]
  generalize (lsn == 0) = b
  generalize l.isEmpty = c
  revert fi gi b c
  decide
theorem rV5_is (fe : Bool) (l : List Ent) : (!rV5 fe (l.length : Int)) = ((fe || l.isEmpty) && (!fe || decide (1 ≤ l.length ∧ l.length ≤ 16))) := by
  unfold rV5
  have e : decide ((0 : Int) < (l.length : Int)) = !l.isEmpty := by cases l <;> simp <;> omega
  have e2 : (decide ((l.length : Int) < 1) || decide ((16 : Int) < (l.length : Int))) = !decide (1 ≤ l.length ∧ l.length ≤ 16) := by
    by_cases h1 : (l.length : Int) < 1
    · have : ¬ (1 ≤ l.length ∧ l.length ≤ 16) := by omega
      simp only [h1, this, decide_true, decide_false]; simp
    · by_cases h2 : (16 : Int) < (l.length : Int)
      · have : ¬ (1 ≤ l.length ∧ l.length ≤ 16) := by omega
        simp only [h1, h2, this, decide_true, decide_false]; simp
      · have : (1 ≤ l.length ∧ l.length ≤ 16) := by omega
        simp only [h1, h2, this, decide_true, decide_false]; simp
  rw [e, e2]
  generalize decide (1 ≤ l.length ∧ l.length ≤ 16) = b
  generalize l.isEmpty = c
  revert fe b c
  decide
theorem least_nn (k : Int) : 0 ≤ least k := by unfold least; split <;> omega
theorem good_ref (m : Ms) : m.good = (kIs m.kind && (!rV1 (kP m.kind) (kX m.kind) (kN m.kind) m.page m.x m.need && (!rV2 (kT m.kind) (knownB m.tc m.te m.tn) (m.tc == 0 && (m.te == 0 && (m.tn == 0 && true))) && (!rV3 (kC m.kind) (least m.kind) m.n &&
    (!rV4 (kI m.kind m.need) (slGood m.lsn m.sl) m.lsn (m.sl.length : Int) && (!rV5 (kE m.kind) (m.en.length : Int) && !(m.en.any Ent.badB))))))) := by
  rw [rV1_is, rV2_is, rV3_is _ _ _ (least_nn _), rV4_is, rV5_is, any_bad, Bool.not_not, Bool.and_true]
  unfold Ms.good Ms.bareB
  ac_rfl

set_option maxRecDepth 100000 in
set_option maxHeartbeats 64000000 in
theorem rmgood_core (k pg : Int) (x need : Bool) (n tc te tn lsn : Int) (A : Option Addr) (sn sc : Nat) (B : Option Addr) (en ec : Nat) (sl : List Sl) (el : List Ent) (w : World) (hS : IsSlots w A sn sc sl) (hE : IsEnts w B en ec el)
    (R : Bool) (hR : (kIs k && (!rV1 (kP k) (kX k) (kN k) pg x need && (!rV2 (kT k) (knownB tc te tn) (tc == 0 && (te == 0 && (tn == 0 && true))) && (!rV3 (kC k) (least k) n && (!rV4 (kI k need) (slGood lsn sl) lsn (sn : Int) && (!rV5 (kE k) (en : Int) && !(el.any Ent.badB))))))) = R) :
    Calls Try.prog 17 #[.agg #[.int .i64 k, .int .i64 pg, .bool x, .bool need, .int .i64 n, .int .i64 tc, .int .i64 te, .int .i64 tn, .int .i64 lsn, .slice A sn sc, .slice B en ec]] w fun r w' => r = .returned (.bool R) ∧ Below w.heap.size w w' := by
  obtain ⟨q1, q2, q3, q4, q5, q6, q7, q8⟩ := hasL_in k need
  have C1 := Lib.hid (fun w => rhas_any k pg x need n tc te tn lsn A sn sc B en ec w)
  have CP := Lib.hid (fun w => rletter_any 112 k need _ q1 w)
  have CX := Lib.hid (fun w => rletter_any 120 k need _ q2 w)
  have CN := Lib.hid (fun w => rletter_any 110 k need _ q3 w)
  have CT := Lib.hid (fun w => rletter_any 116 k need _ q4 w)
  have CC := Lib.hid (fun w => rletter_any 107 k need _ q5 w)
  have CI := Lib.hid (fun w => rletter_any 105 k need _ q6 w)
  have CE := Lib.hid (fun w => rletter_any 101 k need _ q7 w)
  have CKn := Lib.hid (fun w => refKnown_any tc te tn w)
  have CPg := Lib.hid (fun w h => rgood_any lsn A sn sc sl w h)
  have CTx := txnNeqR tc 0 te 0 tn 0
  have HS := Lib.hid hS
  have HE := Lib.hid hE
  have hcap := hE.cap
  have hmost := hE.most
  have hscap := hS.cap
  have hsmost := hS.most
  obtain ⟨U, hU⟩ : ∃ U, bs (hasL k need) = U := ⟨_, rfl⟩
  obtain ⟨fp, g0⟩ : ∃ b, kP k = b := ⟨_, rfl⟩
  obtain ⟨fx, g1⟩ : ∃ b, kX k = b := ⟨_, rfl⟩
  obtain ⟨fn, g2⟩ : ∃ b, kN k = b := ⟨_, rfl⟩
  obtain ⟨ft, g3⟩ : ∃ b, kT k = b := ⟨_, rfl⟩
  obtain ⟨fc, g4⟩ : ∃ b, kC k = b := ⟨_, rfl⟩
  obtain ⟨fi, g5⟩ : ∃ b, kI k need = b := ⟨_, rfl⟩
  obtain ⟨fe, g6⟩ : ∃ b, kE k = b := ⟨_, rfl⟩
  obtain ⟨bis, g7⟩ : ∃ b, kIs k = b := ⟨_, rfl⟩
  obtain ⟨kn, h3⟩ : ∃ b, knownB tc te tn = b := ⟨_, rfl⟩
  obtain ⟨gi, h5⟩ : ∃ b, slGood lsn sl = b := ⟨_, rfl⟩
  obtain ⟨tz, h6⟩ : ∃ b, (tc == 0 && (te == 0 && (tn == 0 && true))) = b := ⟨_, rfl⟩
  obtain ⟨lst, h8⟩ : ∃ z, least k = z := ⟨_, rfl⟩
  have hUq : (U.toList == [63]) = !bis := by rw [← hU, bs_toList, q8, g7]
  have hls : 0 ≤ lst ∧ lst ≤ 1 := by rw [← h8]; unfold least; split <;> omega
  have hl13 : (k = 13 → lst = 0) ∧ (¬ k = 13 → lst = 1) := by rw [← h8]; unfold least; exact ⟨fun h => by rw [if_pos h], fun h => by rw [if_neg h]⟩
  rw [hU] at C1 CP CX CN CT CC CI CE
  rw [g0] at CP hR
  rw [g1] at CX hR
  rw [g2] at CN hR
  rw [g3] at CT hR
  rw [g4] at CC hR
  rw [g5] at CI hR
  rw [g6] at CE hR
  rw [g7] at hR
  rw [h3] at CKn hR
  rw [h5] at CPg hR
  rw [h6] at CTx hR
  rw [h8] at hR
  obtain ⟨v1, e1⟩ : ∃ b, rV1 fp fx fn pg x need = b := ⟨_, rfl⟩
  obtain ⟨v2, e2⟩ : ∃ b, rV2 ft kn tz = b := ⟨_, rfl⟩
  obtain ⟨v3, e3⟩ : ∃ b, rV3 fc lst n = b := ⟨_, rfl⟩
  obtain ⟨v4, e4⟩ : ∃ b, rV4 fi gi lsn (sn : Int) = b := ⟨_, rfl⟩
  obtain ⟨v5, e5⟩ : ∃ b, rV5 fe (en : Int) = b := ⟨_, rfl⟩
  rw [e1, e2, e3, e4, e5] at hR
  have E1 := Lib.hid e1
  have E2 := Lib.hid e2
  have E3 := Lib.hid e3
  have E4 := Lib.hid e4
  have E5 := Lib.hid e5
  have HR := Lib.hid hR
  have HLs := Lib.hid hls
  have HL13 := Lib.hid hl13
  clear q1 q2 q3 q4 q5 q6 q7 q8 g0 g1 g2 g3 g4 g5 g6 g7 h3 h5 h6 h8 e1 e2 e3 e4 e5 hU hR hS hE hls hl13
  go_enter Try.func17, Try.ntmps17
  go_wp2_with fail
  refine (C1.out _).mono ?_
  rintro e w1 ⟨rfl, b1⟩
  have X := Lib.hid ((Has.new w _).below b1)
  have BW := Lib.hid (bup (bnew w _) b1)
  clear b1 C1
  cases bis with
  | false =>
    obtain rfl : R = false := by have := HR.out; rw [← this]; rfl
    have hUq1 : (U.toList == [63]) = true := hUq
    have hUq2 : U.toList = [63] := by simpa using hUq1
    clear hUq E1 E2 E3 E4 E5 HR HLs HL13
    go_wp2_with fail
    go_ret
    exact ⟨rfl, BW.out⟩
  | true =>
  have hUq1 : (U.toList == [63]) = false := hUq
  have hUq2 : ¬ U.toList = [63] := by simpa using hUq1
  clear hUq
  have HR : Hid ((!v1 && (!v2 && (!v3 && (!v4 && (!v5 && !(el.any Ent.badB)))))) = R) := Lib.hid (by have := HR.out; rw [← this]; rfl)
  have x0 := X.out.cell 0 _ rfl
  go_upto_if 13 with (fail)
  go_cut [4] from 11 to 13 (fun v wx => v = .int .i64 lst ∧ wx = w1)
  case first =>
    by_cases h13 : k = 13
    · obtain rfl : lst = 0 := HL13.out.1 h13
      subst h13
      go_wp2_with fail
      go_meet
      exact ⟨rfl, rfl⟩
    · obtain rfl : lst = 1 := HL13.out.2 h13
      go_wp2_with fail
      go_meet
      exact ⟨rfl, rfl⟩
  case rest =>
  obtain ⟨rfl, rfl⟩ := hcut
  clear x0 HL13
  go_upto_region 8 with (fail)
  have Y := Lib.hid (Has.new wc (.cells #[.int .i64 0, .int .i64 0, .int .i64 0] 26))
  replace X := Lib.hid (X.out.alloc (.cells #[.int .i64 0, .int .i64 0, .int .i64 0] 26))
  replace BW := Lib.hid (bup BW.out (bnew wc (.cells #[.int .i64 0, .int .i64 0, .int .i64 0] 26)))
  generalize hyb : wc.heap.size = yb at Y ⊢
  clear hyb
  generalize World.alloc wc _ = wa at X Y BW ⊢
  go_upto_region 8 with (fail)
  go_cut [54] from 15 to 54 (fun v wx => v = .bool v1 ∧ Hid (Below w.heap.size w wx) ∧ Hid (Has wx w.heap.size (.cells #[.int .i64 k, .int .i64 pg, .bool x, .bool need, .int .i64 n, .int .i64 tc, .int .i64 te, .int .i64 tn, .int .i64 lsn, .slice A sn sc, .slice B en ec] 32)) ∧ Hid (Has wx yb (.cells #[.int .i64 0, .int .i64 0, .int .i64 0] 26)))
  case first =>
    have x1 := X.out.cell 1 _ rfl
    have x2 := X.out.cell 2 _ rfl
    have x3 := X.out.cell 3 _ rfl
    go_wp2_with fail
    refine (CP.out _).mono ?_
    rintro e wb ⟨rfl, b1⟩
    clear x1 x2 x3
    replace X := Lib.hid (X.out.below b1)
    replace Y := Lib.hid (Y.out.below b1)
    replace BW := Lib.hid (bup BW.out b1)
    clear b1
    have x1 := X.out.cell 1 _ rfl
    have x2 := X.out.cell 2 _ rfl
    have x3 := X.out.cell 3 _ rfl
    cases fp with
    | true =>
      by_cases h1 : pg < 0
      ·  skip
         have h1b : decide (pg < 0) = true := decide_eq_true h1
         obtain rfl : v1 = true := by have := E1.out; rw [← this]; simp [rV1, h1]
         go_wp2_with fail
         go_meet
         exact ⟨rfl, BW, X, Y⟩
      ·  skip
         have h1b : decide (pg < 0) = false := decide_eq_false h1
         have h1' : 0 ≤ pg := by omega
         by_cases h2 : 1023 < pg
         ·  skip
            have h2b : decide (1023 < pg) = true := decide_eq_true h2
            obtain rfl : v1 = true := by have := E1.out; rw [← this]; simp [rV1, h2]
            go_wp2_with fail
            go_meet
            exact ⟨rfl, BW, X, Y⟩
         ·  skip
            have h2b : decide (1023 < pg) = false := decide_eq_false h2
            have h2' : pg ≤ 1023 := by omega
            go_wp2_with fail
            refine (CP.out _).mono ?_
            rintro e wb ⟨rfl, b1⟩
            clear x1 x2 x3
            replace X := Lib.hid (X.out.below b1)
            replace Y := Lib.hid (Y.out.below b1)
            replace BW := Lib.hid (bup BW.out b1)
            clear b1
            have x1 := X.out.cell 1 _ rfl
            have x2 := X.out.cell 2 _ rfl
            have x3 := X.out.cell 3 _ rfl
            go_wp2_with fail
            refine (CX.out _).mono ?_
            rintro e wb ⟨rfl, b1⟩
            clear x1 x2 x3
            replace X := Lib.hid (X.out.below b1)
            replace Y := Lib.hid (Y.out.below b1)
            replace BW := Lib.hid (bup BW.out b1)
            clear b1
            have x1 := X.out.cell 1 _ rfl
            have x2 := X.out.cell 2 _ rfl
            have x3 := X.out.cell 3 _ rfl
            cases fx with
            | true =>
              go_wp2_with fail
              refine (CN.out _).mono ?_
              rintro e wb ⟨rfl, b1⟩
              clear x1 x2 x3
              replace X := Lib.hid (X.out.below b1)
              replace Y := Lib.hid (Y.out.below b1)
              replace BW := Lib.hid (bup BW.out b1)
              clear b1
              have x1 := X.out.cell 1 _ rfl
              have x2 := X.out.cell 2 _ rfl
              have x3 := X.out.cell 3 _ rfl
              cases fn with
              | true =>
                obtain rfl : v1 = false := by have := E1.out; rw [← this]; simp [rV1, h1, h2]
                go_wp2_with fail
                go_meet
                exact ⟨rfl, BW, X, Y⟩
              | false =>
                cases need with
                | true =>
                  obtain rfl : v1 = true := by have := E1.out; rw [← this]; simp [rV1, h1, h2]
                  go_wp2_with fail
                  go_meet
                  exact ⟨rfl, BW, X, Y⟩
                | false =>
                  obtain rfl : v1 = false := by have := E1.out; rw [← this]; simp [rV1, h1, h2]
                  go_wp2_with fail
                  go_meet
                  exact ⟨rfl, BW, X, Y⟩
            | false =>
              cases x with
              | true =>
                obtain rfl : v1 = true := by have := E1.out; rw [← this]; simp [rV1, h1, h2]
                go_wp2_with fail
                go_meet
                exact ⟨rfl, BW, X, Y⟩
              | false =>
                go_wp2_with fail
                refine (CN.out _).mono ?_
                rintro e wb ⟨rfl, b1⟩
                clear x1 x2 x3
                replace X := Lib.hid (X.out.below b1)
                replace Y := Lib.hid (Y.out.below b1)
                replace BW := Lib.hid (bup BW.out b1)
                clear b1
                have x1 := X.out.cell 1 _ rfl
                have x2 := X.out.cell 2 _ rfl
                have x3 := X.out.cell 3 _ rfl
                cases fn with
                | true =>
                  obtain rfl : v1 = false := by have := E1.out; rw [← this]; simp [rV1, h1, h2]
                  go_wp2_with fail
                  go_meet
                  exact ⟨rfl, BW, X, Y⟩
                | false =>
                  cases need with
                  | true =>
                    obtain rfl : v1 = true := by have := E1.out; rw [← this]; simp [rV1, h1, h2]
                    go_wp2_with fail
                    go_meet
                    exact ⟨rfl, BW, X, Y⟩
                  | false =>
                    obtain rfl : v1 = false := by have := E1.out; rw [← this]; simp [rV1, h1, h2]
                    go_wp2_with fail
                    go_meet
                    exact ⟨rfl, BW, X, Y⟩
    | false =>
      go_wp2_with fail
      refine (CP.out _).mono ?_
      rintro e wb ⟨rfl, b1⟩
      clear x1 x2 x3
      replace X := Lib.hid (X.out.below b1)
      replace Y := Lib.hid (Y.out.below b1)
      replace BW := Lib.hid (bup BW.out b1)
      clear b1
      have x1 := X.out.cell 1 _ rfl
      have x2 := X.out.cell 2 _ rfl
      have x3 := X.out.cell 3 _ rfl
      cases hz : (pg == 0) with
      | true =>
        have hz' : (pg != 0) = false := by simp only [bne, hz]; rfl
        go_wp2_with fail
        refine (CX.out _).mono ?_
        rintro e wb ⟨rfl, b1⟩
        clear x1 x2 x3
        replace X := Lib.hid (X.out.below b1)
        replace Y := Lib.hid (Y.out.below b1)
        replace BW := Lib.hid (bup BW.out b1)
        clear b1
        have x1 := X.out.cell 1 _ rfl
        have x2 := X.out.cell 2 _ rfl
        have x3 := X.out.cell 3 _ rfl
        cases fx with
        | true =>
          go_wp2_with fail
          refine (CN.out _).mono ?_
          rintro e wb ⟨rfl, b1⟩
          clear x1 x2 x3
          replace X := Lib.hid (X.out.below b1)
          replace Y := Lib.hid (Y.out.below b1)
          replace BW := Lib.hid (bup BW.out b1)
          clear b1
          have x1 := X.out.cell 1 _ rfl
          have x2 := X.out.cell 2 _ rfl
          have x3 := X.out.cell 3 _ rfl
          cases fn with
          | true =>
            obtain rfl : v1 = false := by have := E1.out; rw [← this]; simp [rV1, hz]
            go_wp2_with fail
            go_meet
            exact ⟨rfl, BW, X, Y⟩
          | false =>
            cases need with
            | true =>
              obtain rfl : v1 = true := by have := E1.out; rw [← this]; simp [rV1, hz]
              go_wp2_with fail
              go_meet
              exact ⟨rfl, BW, X, Y⟩
            | false =>
              obtain rfl : v1 = false := by have := E1.out; rw [← this]; simp [rV1, hz]
              go_wp2_with fail
              go_meet
              exact ⟨rfl, BW, X, Y⟩
        | false =>
          cases x with
          | true =>
            obtain rfl : v1 = true := by have := E1.out; rw [← this]; simp [rV1, hz]
            go_wp2_with fail
            go_meet
            exact ⟨rfl, BW, X, Y⟩
          | false =>
            go_wp2_with fail
            refine (CN.out _).mono ?_
            rintro e wb ⟨rfl, b1⟩
            clear x1 x2 x3
            replace X := Lib.hid (X.out.below b1)
            replace Y := Lib.hid (Y.out.below b1)
            replace BW := Lib.hid (bup BW.out b1)
            clear b1
            have x1 := X.out.cell 1 _ rfl
            have x2 := X.out.cell 2 _ rfl
            have x3 := X.out.cell 3 _ rfl
            cases fn with
            | true =>
              obtain rfl : v1 = false := by have := E1.out; rw [← this]; simp [rV1, hz]
              go_wp2_with fail
              go_meet
              exact ⟨rfl, BW, X, Y⟩
            | false =>
              cases need with
              | true =>
                obtain rfl : v1 = true := by have := E1.out; rw [← this]; simp [rV1, hz]
                go_wp2_with fail
                go_meet
                exact ⟨rfl, BW, X, Y⟩
              | false =>
                obtain rfl : v1 = false := by have := E1.out; rw [← this]; simp [rV1, hz]
                go_wp2_with fail
                go_meet
                exact ⟨rfl, BW, X, Y⟩
      | false =>
        have hz' : (pg != 0) = true := by simp only [bne, hz]; rfl
        obtain rfl : v1 = true := by have := E1.out; rw [← this]; simp [rV1, hz]
        go_wp2_with fail
        go_meet
        exact ⟨rfl, BW, X, Y⟩
  case rest =>
  obtain ⟨rfl, BW', X', Y'⟩ := hcut
  clear BW X Y
  have BW := BW'
  have X := X'
  have Y := Y'
  clear BW' X' Y'
  cases v1 with
  | true =>
    obtain rfl : R = false := by have := HR.out; rw [← this]; rfl
    go_wp2_with fail
    go_ret
    exact ⟨rfl, BW.out⟩
  | false =>
  have HR : Hid ((!v2 && (!v3 && (!v4 && (!v5 && !(el.any Ent.badB))))) = R) := Lib.hid (by have := HR.out; rw [← this]; rfl)
  clear E1
  clear CP CX CN
  go_upto_region 10 with (fail)
  go_cut [73] from 55 to 73 (fun v wx => v = .bool v2 ∧ Hid (Below w.heap.size w wx) ∧ Hid (Has wx w.heap.size (.cells #[.int .i64 k, .int .i64 pg, .bool x, .bool need, .int .i64 n, .int .i64 tc, .int .i64 te, .int .i64 tn, .int .i64 lsn, .slice A sn sc, .slice B en ec] 32)) ∧ Hid (Has wx yb (.cells #[.int .i64 0, .int .i64 0, .int .i64 0] 26)))
  case first =>
    have x5 := X.out.cell 5 _ rfl
    have x6 := X.out.cell 6 _ rfl
    have x7 := X.out.cell 7 _ rfl
    have y0 := Y.out.cell 0 _ rfl
    have y1 := Y.out.cell 1 _ rfl
    have y2 := Y.out.cell 2 _ rfl
    go_wp2_with fail
    refine (CT.out _).mono ?_
    rintro e wb ⟨rfl, b1⟩
    clear x5 x6 x7 y0 y1 y2
    replace X := Lib.hid (X.out.below b1)
    replace Y := Lib.hid (Y.out.below b1)
    replace BW := Lib.hid (bup BW.out b1)
    clear b1
    have x5 := X.out.cell 5 _ rfl
    have x6 := X.out.cell 6 _ rfl
    have x7 := X.out.cell 7 _ rfl
    have y0 := Y.out.cell 0 _ rfl
    have y1 := Y.out.cell 1 _ rfl
    have y2 := Y.out.cell 2 _ rfl
    cases ft with
    | true =>
      go_wp2_with fail
      refine (CKn.out _).mono ?_
      rintro e wb ⟨rfl, b1⟩
      clear x5 x6 x7 y0 y1 y2
      replace X := Lib.hid (X.out.below b1)
      replace Y := Lib.hid (Y.out.below b1)
      replace BW := Lib.hid (bup BW.out b1)
      clear b1
      have x5 := X.out.cell 5 _ rfl
      have x6 := X.out.cell 6 _ rfl
      have x7 := X.out.cell 7 _ rfl
      have y0 := Y.out.cell 0 _ rfl
      have y1 := Y.out.cell 1 _ rfl
      have y2 := Y.out.cell 2 _ rfl
      cases kn with
      | true =>
        go_wp2_with fail
        refine (CT.out _).mono ?_
        rintro e wb ⟨rfl, b1⟩
        clear x5 x6 x7 y0 y1 y2
        replace X := Lib.hid (X.out.below b1)
        replace Y := Lib.hid (Y.out.below b1)
        replace BW := Lib.hid (bup BW.out b1)
        clear b1
        have x5 := X.out.cell 5 _ rfl
        have x6 := X.out.cell 6 _ rfl
        have x7 := X.out.cell 7 _ rfl
        have y0 := Y.out.cell 0 _ rfl
        have y1 := Y.out.cell 1 _ rfl
        have y2 := Y.out.cell 2 _ rfl
        obtain rfl : v2 = false := by have := E2.out; rw [← this]; simp [rV2]
        go_wp2_with fail
        go_meet
        exact ⟨rfl, BW, X, Y⟩
      | false =>
        obtain rfl : v2 = true := by have := E2.out; rw [← this]; simp [rV2]
        go_wp2_with fail
        go_meet
        exact ⟨rfl, BW, X, Y⟩
    | false =>
      go_wp2_with fail
      refine (CT.out _).mono ?_
      rintro e wb ⟨rfl, b1⟩
      clear x5 x6 x7 y0 y1 y2
      replace X := Lib.hid (X.out.below b1)
      replace Y := Lib.hid (Y.out.below b1)
      replace BW := Lib.hid (bup BW.out b1)
      clear b1
      have x5 := X.out.cell 5 _ rfl
      have x6 := X.out.cell 6 _ rfl
      have x7 := X.out.cell 7 _ rfl
      have y0 := Y.out.cell 0 _ rfl
      have y1 := Y.out.cell 1 _ rfl
      have y2 := Y.out.cell 2 _ rfl
      cases tz with
      | true =>
        obtain rfl : v2 = false := by have := E2.out; rw [← this]; simp [rV2]
        go_wp2_with fail
        go_meet
        exact ⟨rfl, BW, X, Y⟩
      | false =>
        obtain rfl : v2 = true := by have := E2.out; rw [← this]; simp [rV2]
        go_wp2_with fail
        go_meet
        exact ⟨rfl, BW, X, Y⟩
  case rest =>
  obtain ⟨rfl, BW', X', Y'⟩ := hcut
  clear BW X Y
  have BW := BW'
  have X := X'
  have Y := Y'
  clear BW' X' Y'
  cases v2 with
  | true =>
    obtain rfl : R = false := by have := HR.out; rw [← this]; rfl
    go_wp2_with fail
    go_ret
    exact ⟨rfl, BW.out⟩
  | false =>
  have HR : Hid ((!v3 && (!v4 && (!v5 && !(el.any Ent.badB)))) = R) := Lib.hid (by have := HR.out; rw [← this]; rfl)
  clear E2
  clear CT CKn CTx
  go_upto_region 12 with (fail)
  go_cut [96] from 74 to 96 (fun v wx => v = .bool v3 ∧ Hid (Below w.heap.size w wx) ∧ Hid (Has wx w.heap.size (.cells #[.int .i64 k, .int .i64 pg, .bool x, .bool need, .int .i64 n, .int .i64 tc, .int .i64 te, .int .i64 tn, .int .i64 lsn, .slice A sn sc, .slice B en ec] 32)) ∧ Hid (Has wx yb (.cells #[.int .i64 0, .int .i64 0, .int .i64 0] 26)))
  case first =>
    have x4 := X.out.cell 4 _ rfl
    have hls := HLs.out
    go_wp2_with fail
    refine (CC.out _).mono ?_
    rintro e wb ⟨rfl, b1⟩
    clear x4
    replace X := Lib.hid (X.out.below b1)
    replace Y := Lib.hid (Y.out.below b1)
    replace BW := Lib.hid (bup BW.out b1)
    clear b1
    have x4 := X.out.cell 4 _ rfl
    cases fc with
    | true =>
      by_cases h1 : n < lst
      ·  skip
         have h1b : decide (n < lst) = true := decide_eq_true h1
         obtain rfl : v3 = true := by have := E3.out; rw [← this]; simp [rV3, h1]
         go_wp2_with fail
         go_meet
         exact ⟨rfl, BW, X, Y⟩
      ·  skip
         have h1b : decide (n < lst) = false := decide_eq_false h1
         have h1' : lst ≤ n := by omega
         by_cases h2 : 1048576 < n
         ·  skip
            have h2b : decide (1048576 < n) = true := decide_eq_true h2
            obtain rfl : v3 = true := by have := E3.out; rw [← this]; simp [rV3, h2]
            go_wp2_with fail
            go_meet
            exact ⟨rfl, BW, X, Y⟩
         ·  skip
            have h2b : decide (1048576 < n) = false := decide_eq_false h2
            have h2' : n ≤ 1048576 := by omega
            go_wp2_with fail
            refine (CC.out _).mono ?_
            rintro e wb ⟨rfl, b1⟩
            clear x4
            replace X := Lib.hid (X.out.below b1)
            replace Y := Lib.hid (Y.out.below b1)
            replace BW := Lib.hid (bup BW.out b1)
            clear b1
            have x4 := X.out.cell 4 _ rfl
            obtain rfl : v3 = false := by have := E3.out; rw [← this]; simp [rV3, h1, h2]
            go_wp2_with fail
            go_meet
            exact ⟨rfl, BW, X, Y⟩
    | false =>
      go_wp2_with fail
      refine (CC.out _).mono ?_
      rintro e wb ⟨rfl, b1⟩
      clear x4
      replace X := Lib.hid (X.out.below b1)
      replace Y := Lib.hid (Y.out.below b1)
      replace BW := Lib.hid (bup BW.out b1)
      clear b1
      have x4 := X.out.cell 4 _ rfl
      cases hz : (n == 0) with
      | true =>
        have hz' : (n != 0) = false := by simp only [bne, hz]; rfl
        obtain rfl : v3 = false := by have := E3.out; rw [← this]; simp [rV3, hz]
        go_wp2_with fail
        go_meet
        exact ⟨rfl, BW, X, Y⟩
      | false =>
        have hz' : (n != 0) = true := by simp only [bne, hz]; rfl
        obtain rfl : v3 = true := by have := E3.out; rw [← this]; simp [rV3, hz]
        go_wp2_with fail
        go_meet
        exact ⟨rfl, BW, X, Y⟩
  case rest =>
  obtain ⟨rfl, BW', X', Y'⟩ := hcut
  clear BW X Y
  have BW := BW'
  have X := X'
  have Y := Y'
  clear BW' X' Y'
  cases v3 with
  | true =>
    obtain rfl : R = false := by have := HR.out; rw [← this]; rfl
    go_wp2_with fail
    go_ret
    exact ⟨rfl, BW.out⟩
  | false =>
  have HR : Hid ((!v4 && (!v5 && !(el.any Ent.badB))) = R) := Lib.hid (by have := HR.out; rw [← this]; rfl)
  clear E3
  clear CC HLs
  go_upto_region 14 with (fail)
  go_cut [122] from 97 to 122 (fun v wx => v = .bool v4 ∧ Hid (Below w.heap.size w wx) ∧ Hid (Has wx w.heap.size (.cells #[.int .i64 k, .int .i64 pg, .bool x, .bool need, .int .i64 n, .int .i64 tc, .int .i64 te, .int .i64 tn, .int .i64 lsn, .slice A sn sc, .slice B en ec] 32)) ∧ Hid (Has wx yb (.cells #[.int .i64 0, .int .i64 0, .int .i64 0] 26)))
  case first =>
    have x8 := X.out.cell 8 _ rfl
    have x9 := X.out.cell 9 _ rfl
    go_wp2_with fail
    refine (CI.out _).mono ?_
    rintro e wb ⟨rfl, b1⟩
    clear x8 x9
    replace X := Lib.hid (X.out.below b1)
    replace Y := Lib.hid (Y.out.below b1)
    replace BW := Lib.hid (bup BW.out b1)
    clear b1
    have x8 := X.out.cell 8 _ rfl
    have x9 := X.out.cell 9 _ rfl
    cases fi with
    | true =>
      go_wp2_with fail
      refine (CPg.out _ (HS.out.below BW.out)).mono ?_
      rintro e wb ⟨rfl, b1⟩
      clear x8 x9
      replace X := Lib.hid (X.out.below b1)
      replace Y := Lib.hid (Y.out.below b1)
      replace BW := Lib.hid (bup BW.out b1)
      clear b1
      have x8 := X.out.cell 8 _ rfl
      have x9 := X.out.cell 9 _ rfl
      cases gi with
      | true =>
        go_wp2_with fail
        refine (CI.out _).mono ?_
        rintro e wb ⟨rfl, b1⟩
        clear x8 x9
        replace X := Lib.hid (X.out.below b1)
        replace Y := Lib.hid (Y.out.below b1)
        replace BW := Lib.hid (bup BW.out b1)
        clear b1
        have x8 := X.out.cell 8 _ rfl
        have x9 := X.out.cell 9 _ rfl
        obtain rfl : v4 = false := by have := E4.out; rw [← this]; simp [rV4]
        go_wp2_with fail
        go_meet
        exact ⟨rfl, BW, X, Y⟩
      | false =>
        obtain rfl : v4 = true := by have := E4.out; rw [← this]; simp [rV4]
        go_wp2_with fail
        go_meet
        exact ⟨rfl, BW, X, Y⟩
    | false =>
      go_wp2_with fail
      refine (CI.out _).mono ?_
      rintro e wb ⟨rfl, b1⟩
      clear x8 x9
      replace X := Lib.hid (X.out.below b1)
      replace Y := Lib.hid (Y.out.below b1)
      replace BW := Lib.hid (bup BW.out b1)
      clear b1
      have x8 := X.out.cell 8 _ rfl
      have x9 := X.out.cell 9 _ rfl
      cases hz : (lsn == 0) with
      | true =>
        have hz' : (lsn != 0) = false := by simp only [bne, hz]; rfl
        by_cases h2 : 0 < sn
        ·  skip
           have h2b : decide ((0 : Int) < (sn : Int)) = true := decide_eq_true (by omega)
           have h2n : decide (0 < sn) = true := decide_eq_true h2
           obtain rfl : v4 = true := by have := E4.out; rw [← this]; unfold rV4; rw [h2b]; simp
           go_wp2_with fail
           go_meet
           exact ⟨rfl, BW, X, Y⟩
        ·  skip
           have h2b : decide ((0 : Int) < (sn : Int)) = false := decide_eq_false (by omega)
           have h2n : decide (0 < sn) = false := decide_eq_false h2
           obtain rfl : v4 = false := by have := E4.out; rw [← this]; unfold rV4; rw [h2b]; simp [hz]
           go_wp2_with fail
           go_meet
           exact ⟨rfl, BW, X, Y⟩
      | false =>
        have hz' : (lsn != 0) = true := by simp only [bne, hz]; rfl
        obtain rfl : v4 = true := by have := E4.out; rw [← this]; simp [rV4, hz]
        go_wp2_with fail
        go_meet
        exact ⟨rfl, BW, X, Y⟩
  case rest =>
  obtain ⟨rfl, BW', X', Y'⟩ := hcut
  clear BW X Y
  have BW := BW'
  have X := X'
  have Y := Y'
  clear BW' X' Y'
  cases v4 with
  | true =>
    obtain rfl : R = false := by have := HR.out; rw [← this]; rfl
    go_wp2_with fail
    go_ret
    exact ⟨rfl, BW.out⟩
  | false =>
  have HR : Hid ((!v5 && !(el.any Ent.badB)) = R) := Lib.hid (by have := HR.out; rw [← this]; rfl)
  clear E4
  clear CI CPg HS
  go_upto_region 16 with (fail)
  go_cut [147] from 123 to 147 (fun v wx => v = .bool v5 ∧ Hid (Below w.heap.size w wx) ∧ Hid (Has wx w.heap.size (.cells #[.int .i64 k, .int .i64 pg, .bool x, .bool need, .int .i64 n, .int .i64 tc, .int .i64 te, .int .i64 tn, .int .i64 lsn, .slice A sn sc, .slice B en ec] 32)) ∧ Hid (Has wx yb (.cells #[.int .i64 0, .int .i64 0, .int .i64 0] 26)))
  case first =>
    have x10 := X.out.cell 10 _ rfl
    go_wp2_with fail
    refine (CE.out _).mono ?_
    rintro e wb ⟨rfl, b1⟩
    clear x10
    replace X := Lib.hid (X.out.below b1)
    replace Y := Lib.hid (Y.out.below b1)
    replace BW := Lib.hid (bup BW.out b1)
    clear b1
    have x10 := X.out.cell 10 _ rfl
    cases fe with
    | true =>
      by_cases h1 : (en : Int) < 1
      ·  skip
         have h1b : decide ((en : Int) < 1) = true := decide_eq_true h1
         obtain rfl : v5 = true := by have := E5.out; rw [← this]; unfold rV5; rw [h1b]; simp
         go_wp2_with fail
         go_meet
         exact ⟨rfl, BW, X, Y⟩
      ·  skip
         have h1b : decide ((en : Int) < 1) = false := decide_eq_false h1
         have h1' : 1 ≤ (en : Int) := by omega
         by_cases h2 : (16 : Int) < (en : Int)
         ·  skip
            have h2b : decide ((16 : Int) < (en : Int)) = true := decide_eq_true h2
            obtain rfl : v5 = true := by have := E5.out; rw [← this]; unfold rV5; rw [h2b]; simp
            go_wp2_with fail
            go_meet
            exact ⟨rfl, BW, X, Y⟩
         ·  skip
            have h2b : decide ((16 : Int) < (en : Int)) = false := decide_eq_false h2
            have h2' : (en : Int) ≤ (16 : Int) := by omega
            go_wp2_with fail
            refine (CE.out _).mono ?_
            rintro e wb ⟨rfl, b1⟩
            clear x10
            replace X := Lib.hid (X.out.below b1)
            replace Y := Lib.hid (Y.out.below b1)
            replace BW := Lib.hid (bup BW.out b1)
            clear b1
            have x10 := X.out.cell 10 _ rfl
            obtain rfl : v5 = false := by have := E5.out; rw [← this]; unfold rV5; rw [h1b, h2b]; simp
            go_wp2_with fail
            go_meet
            exact ⟨rfl, BW, X, Y⟩
    | false =>
      go_wp2_with fail
      refine (CE.out _).mono ?_
      rintro e wb ⟨rfl, b1⟩
      clear x10
      replace X := Lib.hid (X.out.below b1)
      replace Y := Lib.hid (Y.out.below b1)
      replace BW := Lib.hid (bup BW.out b1)
      clear b1
      have x10 := X.out.cell 10 _ rfl
      by_cases h1 : 0 < en
      ·  skip
         have h1b : decide ((0 : Int) < (en : Int)) = true := decide_eq_true (by omega)
         have h1n : decide (0 < en) = true := decide_eq_true h1
         obtain rfl : v5 = true := by have := E5.out; rw [← this]; unfold rV5; rw [h1b]; simp
         go_wp2_with fail
         go_meet
         exact ⟨rfl, BW, X, Y⟩
      ·  skip
         have h1b : decide ((0 : Int) < (en : Int)) = false := decide_eq_false (by omega)
         have h1n : decide (0 < en) = false := decide_eq_false h1
         obtain rfl : v5 = false := by have := E5.out; rw [← this]; unfold rV5; rw [h1b]; simp
         go_wp2_with fail
         go_meet
         exact ⟨rfl, BW, X, Y⟩
  case rest =>
  obtain ⟨rfl, BW', X', Y'⟩ := hcut
  clear BW X Y
  have BW := BW'
  have X := X'
  have Y := Y'
  clear BW' X' Y'
  cases v5 with
  | true =>
    obtain rfl : R = false := by have := HR.out; rw [← this]; rfl
    go_wp2_with fail
    go_ret
    exact ⟨rfl, BW.out⟩
  | false =>
  have HR : Hid ((!(el.any Ent.badB)) = R) := Lib.hid (by have := HR.out; rw [← this]; rfl)
  clear E5
  clear CE Y
  have x10 := X.out.cell 10 _ rfl
  have HL := Lib.hid HE.out.len
  go_wp2_with fail
  go_loopw [6] (fun i wr => ∃ j : Nat, j ≤ en ∧ i = .int .i64 j ∧ Hid ((el.take j).any Ent.badB = false) ∧ Hid (Below wc.heap.size wc wr)) (fun i _ => en - (intOf i).toNat)
  case atStart => exact ⟨0, by omega, rfl, Lib.hid rfl, Lib.hid (Below.refl _ _)⟩
  case round =>
    obtain ⟨j, hj, rfl, Hn, Hb⟩ := hrel
    clear x10
    have x10 := (X.out.below Hb.out).cell 10 _ rfl
    by_cases hlt : j < en
    · obtain ⟨y, hy⟩ : ∃ y, el[j]? = some y := ⟨_, List.getElem?_eq_getElem (by rw [HL.out]; exact hlt)⟩
      obtain ⟨b, off, rfl, hbl, hEn⟩ := HE.out.here hy
      have hsz := HE.out.small y (List.mem_of_getElem? hy)
      have Hy := Lib.hid hy
      have hEn := (hEn.below hbl BW.out).below (Nat.lt_of_lt_of_le hbl BW.out.size) Hb.out
      have CO := fun w => rgood04_any y (by omega) (by omega) w
      obtain ⟨p, hp⟩ : ∃ p, y.good = p := ⟨_, rfl⟩
      rw [hp] at CO
      have HP := Lib.hid (show y.badB = !p by unfold Ent.badB; rw [hp])
      clear hy hsz hp hbl
      obtain ⟨c0, c1, c2, c3, c4, c5, c6, c7, c8, c9, c10, c11, c12⟩ := hEn
      simp only [Ent.val, Ent.row] at CO
      replace CO := Lib.hid CO
      go_wp2_with fail
      refine (CO.out _).mono ?_
      rintro e w2 ⟨rfl, b2⟩
      clear c0 c1 c2 c3 c4 c5 c6 c7 c8 c9 c10 c11 c12 CO
      cases p with
      | false =>
        obtain rfl : R = false := by
          have := HR.out
          rw [← this, List.any_eq_true.2 ⟨y, List.mem_of_getElem? Hy.out, HP.out⟩]; rfl
        go_wp2_with fail
        go_ret
        exact ⟨rfl, bup BW.out (bup Hb.out b2)⟩
      | true =>
        have HX := Lib.hid (lany_take_snoc Hy.out Hn.out HP.out)
        go_wp2_with fail
        go_roundw
        case rel => exact ⟨j + 1, by omega, by go_num, HX, Lib.hid (bup Hb.out b2)⟩
        case measure => simp [intOf]; omega
    · have hkn : el.take j = el := List.take_of_length_le (by rw [HL.out]; omega)
      rw [hkn] at Hn
      clear hkn
      obtain rfl : R = true := by have := HR.out; rw [← this, Hn.out]; rfl
      go_wp2_with fail
      go_ret
      exact ⟨rfl, bup BW.out Hb.out⟩
theorem rmgood_any (m : Ms) (A : Option Addr) (sn sc : Nat) (B : Option Addr) (en ec : Nat) (w : World) (hS : IsSlots w A sn sc m.sl) (hE : IsEnts w B en ec m.en) :
    Calls Try.prog 17 #[.agg (m.row A sn sc B en ec)] w fun r w' => r = .returned (.bool m.good) ∧ Below w.heap.size w w' := by
  refine rmgood_core m.kind m.page m.x m.need m.n m.tc m.te m.tn m.lsn A sn sc B en ec m.sl m.en w hS hE m.good ?_
  rw [good_ref m, hS.len, hE.len]
end Go.Proofs.Ytakdagmkkelnfaa
