/-
  The walk of a statement of layer 3: there and back.
-/
import Derived.Test.YtklmoigpalhlmaaSlDec
import Derived.Test.YtklmoigpalhlmaaSlJ
import Derived.Test.YtklmoigpalhlmaaSlLaw0
namespace Go.Proofs.Ytklmoigpalhlmaa
open Go.RowKit
set_option linter.unusedVariables false
set_option linter.unusedSimpArgs false

/-- Two images lie where they were laid. -/
def Pair (w : World) (l1 : Int) (A1 : Option Addr) (n1 c1 : Nat) (a : List Sl) (l2 : Int) (A2 : Option Addr) (n2 c2 : Nat) (b : List Sl) (v : World) : Prop :=
  Has v w.heap.size (.cells #[.int .i64 l1, .slice A1 n1 c1] 24) ∧ Has v (w.heap.size + 1) (.cells #[.int .i64 l2, .slice A2 n2 c2] 24) ∧ IsSlots v A1 n1 c1 a ∧ IsSlots v A2 n2 c2 b ∧ Below w.heap.size w v
section
variable {w v u : World} {l1 : Int} {A1 : Option Addr} {n1 c1 : Nat} {a : List Sl} {l2 : Int} {A2 : Option Addr} {n2 c2 : Nat} {b : List Sl}
theorem Pair.go (h : Pair w l1 A1 n1 c1 a l2 A2 n2 c2 b v) (k : Below v.heap.size v u) : Pair w l1 A1 n1 c1 a l2 A2 n2 c2 b u := ⟨h.1.below k, h.2.1.below k, h.2.2.1.below k, h.2.2.2.1.below k, bup h.2.2.2.2 k⟩
theorem Pair.cells (h : Pair w l1 A1 n1 c1 a l2 A2 n2 c2 b v) : v.cell? ⟨w.heap.size, 0, none⟩ = some (.int .i64 l1) ∧ v.cell? ⟨w.heap.size, 1, none⟩ = some (.slice A1 n1 c1) ∧ v.cell? ⟨w.heap.size + 1, 0, none⟩ = some (.int .i64 l2) ∧ v.cell? ⟨w.heap.size + 1, 1, none⟩ = some (.slice A2 n2 c2) :=
  ⟨h.1.cell 0 _ rfl, h.1.cell 1 _ rfl, h.2.1.cell 0 _ rfl, h.2.1.cell 1 _ rfl⟩
theorem Pair.start (I : IsSlots w A1 n1 c1 a) (J : IsSlots w A2 n2 c2 b) (l1 l2 : Int) : Pair w l1 A1 n1 c1 a l2 A2 n2 c2 b ((w.alloc (.cells #[.int .i64 l1, .slice A1 n1 c1] 24)).alloc (.cells #[.int .i64 l2, .slice A2 n2 c2] 24)) :=
  ⟨(Has.new w _).alloc _, Has.new1 w _ _, (I.alloc _).alloc _, (J.alloc _).alloc _, bup (bnew w _) (bnew _ _)⟩
end
theorem bytes_iff {k m : Int} {a b : List Sl} (ha : slGood k a = true) (hb : slGood m b = true) : ((bs (pgBytes k a)).toList == (bs (pgBytes m b)).toList) = pgSame k a m b := by
  rw [bs_list, bs_list, Bool.eq_iff_iff, beq_iff_eq, pgSame_iff]
  constructor
  · intro h
    have h1 := pgDec_good ha
    rw [h, pgDec_good hb] at h1
    simp at h1
    exact ⟨h1.1.symm, h1.2.symm⟩
  · rintro ⟨rfl, rfl⟩; rfl

set_option maxRecDepth 100000 in
set_option maxHeartbeats 16000000 in
theorem SlabBack_walk (l1 : Int) (A1 : Option Addr) (n1 c1 : Nat) (a : List Sl) (w : World) (I : IsSlots w A1 n1 c1 a) (_ : (Lit.int .i64 l1).wf = true) (l2 : Int) (A2 : Option Addr) (n2 c2 : Nat) (b : List Sl) (J : IsSlots w A2 n2 c2 b) (_ : (Lit.int .i64 l2).wf = true) (s : ByteArray) (hs : s.size ≤ 140737488351232) :
    Calls Try.prog 11 #[.agg #[.int .i64 l1, .slice A1 n1 c1], .agg #[.int .i64 l2, .slice A2 n2 c2], .string s] w fun e w' => e = .returned (.bool true) ∧ Below w.heap.size w w' := by
  have CA := Lib.hid (fun w => slabAwake_any w)
  have CR1 := (fun w h => great_any l1 A1 n1 c1 a w h)
  have CR2 := (fun w h => great_any l2 A2 n2 c2 b w h)
  have CE1 := (fun w h => penc_any l1 A1 n1 c1 a w h)
  have CE2 := (fun w h => penc_any l2 A2 n2 c2 b w h)
  have CG := (fun w h => pgood_any l1 A1 n1 c1 a w h)
  have CS := (fun w h1 h2 => psame_any l1 A1 n1 c1 a l2 A2 n2 c2 b w h1 h2)
  have CX := fun A n c w h1 h2 => psame_any l1 A n c a l1 A1 n1 c1 a w h1 h2
  rw [(pgSame_iff l1 l1 a a).2 ⟨rfl, rfl⟩] at CX
  replace CX := Lib.hid CX
  have CD := fun w => pdec_any s (by omega) w
  have TS := Lib.hid (Pair.start I J l1 l2)
  clear I J
  obtain ⟨g1, hg1⟩ : ∃ g, slGreat a = g := ⟨_, rfl⟩
  obtain ⟨g2, hg2⟩ : ∃ g, slGreat b = g := ⟨_, rfl⟩
  rw [hg1] at CR1
  rw [hg2] at CR2
  replace CR1 := Lib.hid CR1
  replace CR2 := Lib.hid CR2
  clear hg1 hg2
  cases g1 with
  | true =>
    clear CE1 CE2 CG CS CD CX CR2
    go_enter Try.func11, Try.ntmps11
    go_wp2_with fail
    refine (CA.out _).mono ?_
    rintro e w0 ⟨rfl, b0⟩
    have T0 := Lib.hid (TS.out.go b0)
    clear b0
    obtain ⟨p0, p1, q0, q1⟩ := T0.out.cells
    go_wp2_with fail
    refine (CR1.out _ T0.out.2.2.1).mono ?_
    rintro e w1 ⟨rfl, b1⟩
    have T1 := Lib.hid (T0.out.go b1)
    clear b1 T0 p0 p1 q0 q1
    obtain ⟨p0, p1, q0, q1⟩ := T1.out.cells
    go_wp2_with fail
    go_ret
    exact ⟨rfl, T1.out.2.2.2.2⟩
  | false =>
  cases g2 with
  | true =>
    clear CE1 CE2 CG CS CD CX
    go_enter Try.func11, Try.ntmps11
    go_wp2_with fail
    refine (CA.out _).mono ?_
    rintro e w0 ⟨rfl, b0⟩
    have T0 := Lib.hid (TS.out.go b0)
    clear b0
    obtain ⟨p0, p1, q0, q1⟩ := T0.out.cells
    go_wp2_with fail
    refine (CR1.out _ T0.out.2.2.1).mono ?_
    rintro e w1 ⟨rfl, b1⟩
    have T1 := Lib.hid (T0.out.go b1)
    clear b1 T0 p0 p1 q0 q1
    obtain ⟨p0, p1, q0, q1⟩ := T1.out.cells
    go_wp2_with fail
    refine (CR2.out _ T1.out.2.2.2.1).mono ?_
    rintro e w2 ⟨rfl, b2⟩
    have T2 := Lib.hid (T1.out.go b2)
    clear b2 T1 p0 p1 q0 q1
    obtain ⟨p0, p1, q0, q1⟩ := T2.out.cells
    go_wp2_with fail
    go_ret
    exact ⟨rfl, T2.out.2.2.2.2⟩
  | false =>
  cases o1 : slGood l1 a with
  | false =>
    rw [o1] at CG
    rw [show pgEnc l1 a = ([], 1) by unfold pgEnc; rw [if_neg (by simp [o1])]] at CE1
    simp only at CE1
    obtain ⟨E2, hE2⟩ : ∃ E, bs (pgEnc l2 b).1 = E := ⟨_, rfl⟩
    obtain ⟨z2, hz2⟩ : ∃ z, (pgEnc l2 b).2 = z := ⟨_, rfl⟩
    rw [hE2, hz2] at CE2
    replace CG := Lib.hid CG
    replace CE1 := Lib.hid CE1
    replace CE2 := Lib.hid CE2
    clear o1 hE2 hz2 CS CX
    cases hd : pgDec s.data.toList with
    | none =>
      rw [hd] at CD
      simp only [pgDecR] at CD
      replace CD := Lib.hid CD
      have CZ := fun A n c w h1 => psame_any 0 A n c [] 0 none 0 0 [] w h1 (IsSlots.nil w)
      rw [(pgSame_iff 0 0 [] []).2 ⟨rfl, rfl⟩] at CZ
      replace CZ := Lib.hid CZ
      clear hd
      go_enter Try.func11, Try.ntmps11
      go_wp2_with fail
      refine (CA.out _).mono ?_
      rintro e w0 ⟨rfl, b0⟩
      have T0 := Lib.hid (TS.out.go b0)
      clear b0
      obtain ⟨p0, p1, q0, q1⟩ := T0.out.cells
      go_wp2_with fail
      refine (CR1.out _ T0.out.2.2.1).mono ?_
      rintro e w1 ⟨rfl, b1⟩
      have T1 := Lib.hid (T0.out.go b1)
      clear b1 T0 p0 p1 q0 q1
      obtain ⟨p0, p1, q0, q1⟩ := T1.out.cells
      go_wp2_with fail
      refine (CR2.out _ T1.out.2.2.2.1).mono ?_
      rintro e w2 ⟨rfl, b2⟩
      have T2 := Lib.hid (T1.out.go b2)
      clear b2 T1 p0 p1 q0 q1
      obtain ⟨p0, p1, q0, q1⟩ := T2.out.cells
      go_wp2_with fail
      refine (CE1.out _ T2.out.2.2.1).mono ?_
      rintro e w3 ⟨rfl, b3⟩
      have T3 := Lib.hid (T2.out.go b3)
      clear b3 T2 p0 p1 q0 q1
      obtain ⟨p0, p1, q0, q1⟩ := T3.out.cells
      go_wp2_with fail
      refine (CE2.out _ T3.out.2.2.2.1).mono ?_
      rintro e w4 ⟨rfl, b4⟩
      have T4 := Lib.hid (T3.out.go b4)
      clear b4 T3 p0 p1 q0 q1
      obtain ⟨p0, p1, q0, q1⟩ := T4.out.cells
      go_wp2_with fail
      refine (CG.out _ T4.out.2.2.1).mono ?_
      rintro e w5 ⟨rfl, b5⟩
      have T5 := Lib.hid (T4.out.go b5)
      clear b5 T4 p0 p1 q0 q1
      obtain ⟨p0, p1, q0, q1⟩ := T5.out.cells
      go_wp2_with fail
      refine (CD.out _).mono ?_
      rintro e w6 ⟨B6, m6, d6, rfl, I6, b6⟩
      have T7 := Lib.hid ((T5.out.go b6).go (bnew w6 (.cells #[.int .i64 0, .slice B6 m6 d6] 24)))
      have X7 := Lib.hid (Has.new w6 (.cells #[.int .i64 0, .slice B6 m6 d6] 24))
      have J7 := Lib.hid (I6.alloc (.cells #[.int .i64 0, .slice B6 m6 d6] 24))
      clear b6 I6 T5 p0 p1 q0 q1
      go_upto_region 14 with (fail)
      generalize hw7 : World.alloc w6 _ = w7
      rw [hw7] at T7 X7 J7
      clear hw7
      obtain ⟨p0, p1, q0, q1⟩ := T7.out.cells
      have x0 := X7.out.cell 0 _ rfl
      have x1 := X7.out.cell 1 _ rfl
      go_wp2_with fail
      refine (CZ.out _ _ _ _ J7.out).mono ?_
      rintro e w8 ⟨rfl, b8⟩
      have T8 := Lib.hid (T7.out.go b8)
      have X8 := Lib.hid (X7.out.below b8)
      have J8 := Lib.hid (J7.out.below b8)
      clear b8 T7 p0 p1 q0 q1 X7 J7 x0 x1
      obtain ⟨p0, p1, q0, q1⟩ := T8.out.cells
      have x0 := X8.out.cell 0 _ rfl
      have x1 := X8.out.cell 1 _ rfl
      go_wp2_with fail
      go_ret
      exact ⟨rfl, T8.out.2.2.2.2⟩
    | some km =>
      obtain ⟨k, m⟩ := km
      obtain ⟨hkm, hkb⟩ := pgDec_bytes hd
      rw [hd] at CD
      simp only [pgDecR] at CD
      replace CD := Lib.hid CD
      have CZ := fun A n c w h => penc_any k A n c m w h
      rw [show pgEnc k m = (pgBytes k m, 0) by unfold pgEnc; rw [if_pos hkm], hkb, show bs s.data.toList = s from rfl] at CZ
      replace CZ := Lib.hid CZ
      clear hd hkm hkb
      go_enter Try.func11, Try.ntmps11
      go_wp2_with fail
      refine (CA.out _).mono ?_
      rintro e w0 ⟨rfl, b0⟩
      have T0 := Lib.hid (TS.out.go b0)
      clear b0
      obtain ⟨p0, p1, q0, q1⟩ := T0.out.cells
      go_wp2_with fail
      refine (CR1.out _ T0.out.2.2.1).mono ?_
      rintro e w1 ⟨rfl, b1⟩
      have T1 := Lib.hid (T0.out.go b1)
      clear b1 T0 p0 p1 q0 q1
      obtain ⟨p0, p1, q0, q1⟩ := T1.out.cells
      go_wp2_with fail
      refine (CR2.out _ T1.out.2.2.2.1).mono ?_
      rintro e w2 ⟨rfl, b2⟩
      have T2 := Lib.hid (T1.out.go b2)
      clear b2 T1 p0 p1 q0 q1
      obtain ⟨p0, p1, q0, q1⟩ := T2.out.cells
      go_wp2_with fail
      refine (CE1.out _ T2.out.2.2.1).mono ?_
      rintro e w3 ⟨rfl, b3⟩
      have T3 := Lib.hid (T2.out.go b3)
      clear b3 T2 p0 p1 q0 q1
      obtain ⟨p0, p1, q0, q1⟩ := T3.out.cells
      go_wp2_with fail
      refine (CE2.out _ T3.out.2.2.2.1).mono ?_
      rintro e w4 ⟨rfl, b4⟩
      have T4 := Lib.hid (T3.out.go b4)
      clear b4 T3 p0 p1 q0 q1
      obtain ⟨p0, p1, q0, q1⟩ := T4.out.cells
      go_wp2_with fail
      refine (CG.out _ T4.out.2.2.1).mono ?_
      rintro e w5 ⟨rfl, b5⟩
      have T5 := Lib.hid (T4.out.go b5)
      clear b5 T4 p0 p1 q0 q1
      obtain ⟨p0, p1, q0, q1⟩ := T5.out.cells
      go_wp2_with fail
      refine (CD.out _).mono ?_
      rintro e w6 ⟨B6, m6, d6, rfl, I6, b6⟩
      have T7 := Lib.hid ((T5.out.go b6).go (bnew w6 (.cells #[.int .i64 k, .slice B6 m6 d6] 24)))
      have X7 := Lib.hid (Has.new w6 (.cells #[.int .i64 k, .slice B6 m6 d6] 24))
      have J7 := Lib.hid (I6.alloc (.cells #[.int .i64 k, .slice B6 m6 d6] 24))
      clear b6 I6 T5 p0 p1 q0 q1
      go_upto_region 14 with (fail)
      generalize hw7 : World.alloc w6 _ = w7
      rw [hw7] at T7 X7 J7
      clear hw7
      obtain ⟨p0, p1, q0, q1⟩ := T7.out.cells
      have x0 := X7.out.cell 0 _ rfl
      have x1 := X7.out.cell 1 _ rfl
      go_wp2_with fail
      refine (CZ.out _ _ _ _ J7.out).mono ?_
      rintro e w8 ⟨rfl, b8⟩
      have T8 := Lib.hid (T7.out.go b8)
      have X8 := Lib.hid (X7.out.below b8)
      have J8 := Lib.hid (J7.out.below b8)
      clear b8 T7 p0 p1 q0 q1 X7 J7 x0 x1
      obtain ⟨p0, p1, q0, q1⟩ := T8.out.cells
      have x0 := X8.out.cell 0 _ rfl
      have x1 := X8.out.cell 1 _ rfl
      go_wp2_with fail
      go_ret
      exact ⟨by simp, T8.out.2.2.2.2⟩
  | true =>
  rw [o1] at CG
  rw [show pgEnc l1 a = (pgBytes l1 a, 0) by unfold pgEnc; rw [if_pos o1]] at CE1
  simp only at CE1
  have CD1 := fun w => pdec_any (bs (pgBytes l1 a)) (by rw [bs_size, pgBytes_len o1]; omega) w
  rw [show (bs (pgBytes l1 a)).data.toList = pgBytes l1 a by simp [bs], pgDec_good o1] at CD1
  simp only [pgDecR] at CD1
  replace CG := Lib.hid CG
  cases o2 : slGood l2 b with
  | false =>
    rw [show pgEnc l2 b = ([], 1) by unfold pgEnc; rw [if_neg (by simp [o2])]] at CE2
    simp only at CE2
    obtain ⟨E1, hE1⟩ : ∃ E, bs (pgBytes l1 a) = E := ⟨_, rfl⟩
    rw [hE1] at CE1 CD1
    replace CE1 := Lib.hid CE1
    replace CE2 := Lib.hid CE2
    replace CD1 := Lib.hid CD1
    clear o1 o2 hE1 CS
    cases hd : pgDec s.data.toList with
    | none =>
      rw [hd] at CD
      simp only [pgDecR] at CD
      replace CD := Lib.hid CD
      have CZ := fun A n c w h1 => psame_any 0 A n c [] 0 none 0 0 [] w h1 (IsSlots.nil w)
      rw [(pgSame_iff 0 0 [] []).2 ⟨rfl, rfl⟩] at CZ
      replace CZ := Lib.hid CZ
      clear hd
      go_enter Try.func11, Try.ntmps11
      go_wp2_with fail
      refine (CA.out _).mono ?_
      rintro e w0 ⟨rfl, b0⟩
      have T0 := Lib.hid (TS.out.go b0)
      clear b0
      obtain ⟨p0, p1, q0, q1⟩ := T0.out.cells
      go_wp2_with fail
      refine (CR1.out _ T0.out.2.2.1).mono ?_
      rintro e w1 ⟨rfl, b1⟩
      have T1 := Lib.hid (T0.out.go b1)
      clear b1 T0 p0 p1 q0 q1
      obtain ⟨p0, p1, q0, q1⟩ := T1.out.cells
      go_wp2_with fail
      refine (CR2.out _ T1.out.2.2.2.1).mono ?_
      rintro e w2 ⟨rfl, b2⟩
      have T2 := Lib.hid (T1.out.go b2)
      clear b2 T1 p0 p1 q0 q1
      obtain ⟨p0, p1, q0, q1⟩ := T2.out.cells
      go_wp2_with fail
      refine (CE1.out _ T2.out.2.2.1).mono ?_
      rintro e w3 ⟨rfl, b3⟩
      have T3 := Lib.hid (T2.out.go b3)
      clear b3 T2 p0 p1 q0 q1
      obtain ⟨p0, p1, q0, q1⟩ := T3.out.cells
      go_wp2_with fail
      refine (CE2.out _ T3.out.2.2.2.1).mono ?_
      rintro e w4 ⟨rfl, b4⟩
      have T4 := Lib.hid (T3.out.go b4)
      clear b4 T3 p0 p1 q0 q1
      obtain ⟨p0, p1, q0, q1⟩ := T4.out.cells
      go_wp2_with fail
      refine (CG.out _ T4.out.2.2.1).mono ?_
      rintro e w5 ⟨rfl, b5⟩
      have T5 := Lib.hid (T4.out.go b5)
      clear b5 T4 p0 p1 q0 q1
      obtain ⟨p0, p1, q0, q1⟩ := T5.out.cells
      go_wp2_with fail
      refine (CD1.out _).mono ?_
      rintro e w6 ⟨B6, m6, d6, rfl, I6, b6⟩
      have T7 := Lib.hid ((T5.out.go b6).go (bnew w6 (.cells #[.int .i64 l1, .slice B6 m6 d6] 24)))
      have X7 := Lib.hid (Has.new w6 (.cells #[.int .i64 l1, .slice B6 m6 d6] 24))
      have J7 := Lib.hid (I6.alloc (.cells #[.int .i64 l1, .slice B6 m6 d6] 24))
      clear b6 I6 T5 p0 p1 q0 q1
      go_upto_region 11 with (fail)
      generalize hw7 : World.alloc w6 _ = w7
      rw [hw7] at T7 X7 J7
      clear hw7
      obtain ⟨p0, p1, q0, q1⟩ := T7.out.cells
      have x0 := X7.out.cell 0 _ rfl
      have x1 := X7.out.cell 1 _ rfl
      go_wp2_with fail
      refine (CX.out _ _ _ _ J7.out T7.out.2.2.1).mono ?_
      rintro e w8 ⟨rfl, b8⟩
      have T8 := Lib.hid (T7.out.go b8)
      have X8 := Lib.hid (X7.out.below b8)
      have J8 := Lib.hid (J7.out.below b8)
      clear b8 T7 p0 p1 q0 q1 X7 J7 x0 x1
      obtain ⟨p0, p1, q0, q1⟩ := T8.out.cells
      have x0 := X8.out.cell 0 _ rfl
      have x1 := X8.out.cell 1 _ rfl
      go_wp2_with fail
      refine (CD.out _).mono ?_
      rintro e w9 ⟨B9, m9, d9, rfl, I9, b9⟩
      have T10 := Lib.hid ((T8.out.go b9).go (bnew w9 (.cells #[.int .i64 0, .slice B9 m9 d9] 24)))
      have X10 := Lib.hid (Has.new w9 (.cells #[.int .i64 0, .slice B9 m9 d9] 24))
      have J10 := Lib.hid (I9.alloc (.cells #[.int .i64 0, .slice B9 m9 d9] 24))
      clear b9 I9 T8 p0 p1 q0 q1 X8 J8 x0 x1
      go_upto_region 14 with (fail)
      generalize hw10 : World.alloc w9 _ = w10
      rw [hw10] at T10 X10 J10
      clear hw10
      obtain ⟨p0, p1, q0, q1⟩ := T10.out.cells
      have x0 := X10.out.cell 0 _ rfl
      have x1 := X10.out.cell 1 _ rfl
      go_wp2_with fail
      refine (CZ.out _ _ _ _ J10.out).mono ?_
      rintro e w11 ⟨rfl, b11⟩
      have T11 := Lib.hid (T10.out.go b11)
      have X11 := Lib.hid (X10.out.below b11)
      have J11 := Lib.hid (J10.out.below b11)
      clear b11 T10 p0 p1 q0 q1 X10 J10 x0 x1
      obtain ⟨p0, p1, q0, q1⟩ := T11.out.cells
      have x0 := X11.out.cell 0 _ rfl
      have x1 := X11.out.cell 1 _ rfl
      go_wp2_with fail
      go_ret
      exact ⟨rfl, T11.out.2.2.2.2⟩
    | some km =>
      obtain ⟨k, m⟩ := km
      obtain ⟨hkm, hkb⟩ := pgDec_bytes hd
      rw [hd] at CD
      simp only [pgDecR] at CD
      replace CD := Lib.hid CD
      have CZ := fun A n c w h => penc_any k A n c m w h
      rw [show pgEnc k m = (pgBytes k m, 0) by unfold pgEnc; rw [if_pos hkm], hkb, show bs s.data.toList = s from rfl] at CZ
      replace CZ := Lib.hid CZ
      clear hd hkm hkb
      go_enter Try.func11, Try.ntmps11
      go_wp2_with fail
      refine (CA.out _).mono ?_
      rintro e w0 ⟨rfl, b0⟩
      have T0 := Lib.hid (TS.out.go b0)
      clear b0
      obtain ⟨p0, p1, q0, q1⟩ := T0.out.cells
      go_wp2_with fail
      refine (CR1.out _ T0.out.2.2.1).mono ?_
      rintro e w1 ⟨rfl, b1⟩
      have T1 := Lib.hid (T0.out.go b1)
      clear b1 T0 p0 p1 q0 q1
      obtain ⟨p0, p1, q0, q1⟩ := T1.out.cells
      go_wp2_with fail
      refine (CR2.out _ T1.out.2.2.2.1).mono ?_
      rintro e w2 ⟨rfl, b2⟩
      have T2 := Lib.hid (T1.out.go b2)
      clear b2 T1 p0 p1 q0 q1
      obtain ⟨p0, p1, q0, q1⟩ := T2.out.cells
      go_wp2_with fail
      refine (CE1.out _ T2.out.2.2.1).mono ?_
      rintro e w3 ⟨rfl, b3⟩
      have T3 := Lib.hid (T2.out.go b3)
      clear b3 T2 p0 p1 q0 q1
      obtain ⟨p0, p1, q0, q1⟩ := T3.out.cells
      go_wp2_with fail
      refine (CE2.out _ T3.out.2.2.2.1).mono ?_
      rintro e w4 ⟨rfl, b4⟩
      have T4 := Lib.hid (T3.out.go b4)
      clear b4 T3 p0 p1 q0 q1
      obtain ⟨p0, p1, q0, q1⟩ := T4.out.cells
      go_wp2_with fail
      refine (CG.out _ T4.out.2.2.1).mono ?_
      rintro e w5 ⟨rfl, b5⟩
      have T5 := Lib.hid (T4.out.go b5)
      clear b5 T4 p0 p1 q0 q1
      obtain ⟨p0, p1, q0, q1⟩ := T5.out.cells
      go_wp2_with fail
      refine (CD1.out _).mono ?_
      rintro e w6 ⟨B6, m6, d6, rfl, I6, b6⟩
      have T7 := Lib.hid ((T5.out.go b6).go (bnew w6 (.cells #[.int .i64 l1, .slice B6 m6 d6] 24)))
      have X7 := Lib.hid (Has.new w6 (.cells #[.int .i64 l1, .slice B6 m6 d6] 24))
      have J7 := Lib.hid (I6.alloc (.cells #[.int .i64 l1, .slice B6 m6 d6] 24))
      clear b6 I6 T5 p0 p1 q0 q1
      go_upto_region 11 with (fail)
      generalize hw7 : World.alloc w6 _ = w7
      rw [hw7] at T7 X7 J7
      clear hw7
      obtain ⟨p0, p1, q0, q1⟩ := T7.out.cells
      have x0 := X7.out.cell 0 _ rfl
      have x1 := X7.out.cell 1 _ rfl
      go_wp2_with fail
      refine (CX.out _ _ _ _ J7.out T7.out.2.2.1).mono ?_
      rintro e w8 ⟨rfl, b8⟩
      have T8 := Lib.hid (T7.out.go b8)
      have X8 := Lib.hid (X7.out.below b8)
      have J8 := Lib.hid (J7.out.below b8)
      clear b8 T7 p0 p1 q0 q1 X7 J7 x0 x1
      obtain ⟨p0, p1, q0, q1⟩ := T8.out.cells
      have x0 := X8.out.cell 0 _ rfl
      have x1 := X8.out.cell 1 _ rfl
      go_wp2_with fail
      refine (CD.out _).mono ?_
      rintro e w9 ⟨B9, m9, d9, rfl, I9, b9⟩
      have T10 := Lib.hid ((T8.out.go b9).go (bnew w9 (.cells #[.int .i64 k, .slice B9 m9 d9] 24)))
      have X10 := Lib.hid (Has.new w9 (.cells #[.int .i64 k, .slice B9 m9 d9] 24))
      have J10 := Lib.hid (I9.alloc (.cells #[.int .i64 k, .slice B9 m9 d9] 24))
      clear b9 I9 T8 p0 p1 q0 q1 X8 J8 x0 x1
      go_upto_region 14 with (fail)
      generalize hw10 : World.alloc w9 _ = w10
      rw [hw10] at T10 X10 J10
      clear hw10
      obtain ⟨p0, p1, q0, q1⟩ := T10.out.cells
      have x0 := X10.out.cell 0 _ rfl
      have x1 := X10.out.cell 1 _ rfl
      go_wp2_with fail
      refine (CZ.out _ _ _ _ J10.out).mono ?_
      rintro e w11 ⟨rfl, b11⟩
      have T11 := Lib.hid (T10.out.go b11)
      have X11 := Lib.hid (X10.out.below b11)
      have J11 := Lib.hid (J10.out.below b11)
      clear b11 T10 p0 p1 q0 q1 X10 J10 x0 x1
      obtain ⟨p0, p1, q0, q1⟩ := T11.out.cells
      have x0 := X11.out.cell 0 _ rfl
      have x1 := X11.out.cell 1 _ rfl
      go_wp2_with fail
      go_ret
      exact ⟨by simp, T11.out.2.2.2.2⟩
  | true =>
    rw [show pgEnc l2 b = (pgBytes l2 b, 0) by unfold pgEnc; rw [if_pos o2]] at CE2
    simp only at CE2
    have hXY := bytes_iff o1 o2
    obtain ⟨E1, hE1⟩ : ∃ E, bs (pgBytes l1 a) = E := ⟨_, rfl⟩
    obtain ⟨E2, hE2⟩ : ∃ E, bs (pgBytes l2 b) = E := ⟨_, rfl⟩
    obtain ⟨S, hS⟩ : ∃ S, pgSame l1 a l2 b = S := ⟨_, rfl⟩
    rw [hE1] at CE1 CD1 hXY
    rw [hE2] at CE2 hXY
    rw [hS] at CS hXY
    replace CE1 := Lib.hid CE1
    replace CE2 := Lib.hid CE2
    replace CD1 := Lib.hid CD1
    replace CS := Lib.hid CS
    clear o1 o2 hE1 hE2 hS
    cases hd : pgDec s.data.toList with
    | none =>
      rw [hd] at CD
      simp only [pgDecR] at CD
      replace CD := Lib.hid CD
      have CZ := fun A n c w h1 => psame_any 0 A n c [] 0 none 0 0 [] w h1 (IsSlots.nil w)
      rw [(pgSame_iff 0 0 [] []).2 ⟨rfl, rfl⟩] at CZ
      replace CZ := Lib.hid CZ
      clear hd
      go_enter Try.func11, Try.ntmps11
      go_wp2_with fail
      refine (CA.out _).mono ?_
      rintro e w0 ⟨rfl, b0⟩
      have T0 := Lib.hid (TS.out.go b0)
      clear b0
      obtain ⟨p0, p1, q0, q1⟩ := T0.out.cells
      go_wp2_with fail
      refine (CR1.out _ T0.out.2.2.1).mono ?_
      rintro e w1 ⟨rfl, b1⟩
      have T1 := Lib.hid (T0.out.go b1)
      clear b1 T0 p0 p1 q0 q1
      obtain ⟨p0, p1, q0, q1⟩ := T1.out.cells
      go_wp2_with fail
      refine (CR2.out _ T1.out.2.2.2.1).mono ?_
      rintro e w2 ⟨rfl, b2⟩
      have T2 := Lib.hid (T1.out.go b2)
      clear b2 T1 p0 p1 q0 q1
      obtain ⟨p0, p1, q0, q1⟩ := T2.out.cells
      go_wp2_with fail
      refine (CE1.out _ T2.out.2.2.1).mono ?_
      rintro e w3 ⟨rfl, b3⟩
      have T3 := Lib.hid (T2.out.go b3)
      clear b3 T2 p0 p1 q0 q1
      obtain ⟨p0, p1, q0, q1⟩ := T3.out.cells
      go_wp2_with fail
      refine (CE2.out _ T3.out.2.2.2.1).mono ?_
      rintro e w4 ⟨rfl, b4⟩
      have T4 := Lib.hid (T3.out.go b4)
      clear b4 T3 p0 p1 q0 q1
      obtain ⟨p0, p1, q0, q1⟩ := T4.out.cells
      go_wp2_with fail
      refine (CG.out _ T4.out.2.2.1).mono ?_
      rintro e w5 ⟨rfl, b5⟩
      have T5 := Lib.hid (T4.out.go b5)
      clear b5 T4 p0 p1 q0 q1
      obtain ⟨p0, p1, q0, q1⟩ := T5.out.cells
      go_wp2_with fail
      refine (CS.out _ T5.out.2.2.1 T5.out.2.2.2.1).mono ?_
      rintro e w6 ⟨rfl, b6⟩
      have T6 := Lib.hid (T5.out.go b6)
      clear b6 T5 p0 p1 q0 q1
      obtain ⟨p0, p1, q0, q1⟩ := T6.out.cells
      go_wp2_with fail
      refine (CD1.out _).mono ?_
      rintro e w7 ⟨B7, m7, d7, rfl, I7, b7⟩
      have T8 := Lib.hid ((T6.out.go b7).go (bnew w7 (.cells #[.int .i64 l1, .slice B7 m7 d7] 24)))
      have X8 := Lib.hid (Has.new w7 (.cells #[.int .i64 l1, .slice B7 m7 d7] 24))
      have J8 := Lib.hid (I7.alloc (.cells #[.int .i64 l1, .slice B7 m7 d7] 24))
      clear b7 I7 T6 p0 p1 q0 q1
      go_upto_region 11 with (fail)
      generalize hw8 : World.alloc w7 _ = w8
      rw [hw8] at T8 X8 J8
      clear hw8
      obtain ⟨p0, p1, q0, q1⟩ := T8.out.cells
      have x0 := X8.out.cell 0 _ rfl
      have x1 := X8.out.cell 1 _ rfl
      go_wp2_with fail
      refine (CX.out _ _ _ _ J8.out T8.out.2.2.1).mono ?_
      rintro e w9 ⟨rfl, b9⟩
      have T9 := Lib.hid (T8.out.go b9)
      have X9 := Lib.hid (X8.out.below b9)
      have J9 := Lib.hid (J8.out.below b9)
      clear b9 T8 p0 p1 q0 q1 X8 J8 x0 x1
      obtain ⟨p0, p1, q0, q1⟩ := T9.out.cells
      have x0 := X9.out.cell 0 _ rfl
      have x1 := X9.out.cell 1 _ rfl
      go_wp2_with fail
      refine (CD.out _).mono ?_
      rintro e w10 ⟨B10, m10, d10, rfl, I10, b10⟩
      have T11 := Lib.hid ((T9.out.go b10).go (bnew w10 (.cells #[.int .i64 0, .slice B10 m10 d10] 24)))
      have X11 := Lib.hid (Has.new w10 (.cells #[.int .i64 0, .slice B10 m10 d10] 24))
      have J11 := Lib.hid (I10.alloc (.cells #[.int .i64 0, .slice B10 m10 d10] 24))
      clear b10 I10 T9 p0 p1 q0 q1 X9 J9 x0 x1
      go_upto_region 14 with (fail)
      generalize hw11 : World.alloc w10 _ = w11
      rw [hw11] at T11 X11 J11
      clear hw11
      obtain ⟨p0, p1, q0, q1⟩ := T11.out.cells
      have x0 := X11.out.cell 0 _ rfl
      have x1 := X11.out.cell 1 _ rfl
      go_wp2_with fail
      refine (CZ.out _ _ _ _ J11.out).mono ?_
      rintro e w12 ⟨rfl, b12⟩
      have T12 := Lib.hid (T11.out.go b12)
      have X12 := Lib.hid (X11.out.below b12)
      have J12 := Lib.hid (J11.out.below b12)
      clear b12 T11 p0 p1 q0 q1 X11 J11 x0 x1
      obtain ⟨p0, p1, q0, q1⟩ := T12.out.cells
      have x0 := X12.out.cell 0 _ rfl
      have x1 := X12.out.cell 1 _ rfl
      go_wp2_with fail
      go_ret
      exact ⟨rfl, T12.out.2.2.2.2⟩
    | some km =>
      obtain ⟨k, m⟩ := km
      obtain ⟨hkm, hkb⟩ := pgDec_bytes hd
      rw [hd] at CD
      simp only [pgDecR] at CD
      replace CD := Lib.hid CD
      have CZ := fun A n c w h => penc_any k A n c m w h
      rw [show pgEnc k m = (pgBytes k m, 0) by unfold pgEnc; rw [if_pos hkm], hkb, show bs s.data.toList = s from rfl] at CZ
      replace CZ := Lib.hid CZ
      clear hd hkm hkb
      go_enter Try.func11, Try.ntmps11
      go_wp2_with fail
      refine (CA.out _).mono ?_
      rintro e w0 ⟨rfl, b0⟩
      have T0 := Lib.hid (TS.out.go b0)
      clear b0
      obtain ⟨p0, p1, q0, q1⟩ := T0.out.cells
      go_wp2_with fail
      refine (CR1.out _ T0.out.2.2.1).mono ?_
      rintro e w1 ⟨rfl, b1⟩
      have T1 := Lib.hid (T0.out.go b1)
      clear b1 T0 p0 p1 q0 q1
      obtain ⟨p0, p1, q0, q1⟩ := T1.out.cells
      go_wp2_with fail
      refine (CR2.out _ T1.out.2.2.2.1).mono ?_
      rintro e w2 ⟨rfl, b2⟩
      have T2 := Lib.hid (T1.out.go b2)
      clear b2 T1 p0 p1 q0 q1
      obtain ⟨p0, p1, q0, q1⟩ := T2.out.cells
      go_wp2_with fail
      refine (CE1.out _ T2.out.2.2.1).mono ?_
      rintro e w3 ⟨rfl, b3⟩
      have T3 := Lib.hid (T2.out.go b3)
      clear b3 T2 p0 p1 q0 q1
      obtain ⟨p0, p1, q0, q1⟩ := T3.out.cells
      go_wp2_with fail
      refine (CE2.out _ T3.out.2.2.2.1).mono ?_
      rintro e w4 ⟨rfl, b4⟩
      have T4 := Lib.hid (T3.out.go b4)
      clear b4 T3 p0 p1 q0 q1
      obtain ⟨p0, p1, q0, q1⟩ := T4.out.cells
      go_wp2_with fail
      refine (CG.out _ T4.out.2.2.1).mono ?_
      rintro e w5 ⟨rfl, b5⟩
      have T5 := Lib.hid (T4.out.go b5)
      clear b5 T4 p0 p1 q0 q1
      obtain ⟨p0, p1, q0, q1⟩ := T5.out.cells
      go_wp2_with fail
      refine (CS.out _ T5.out.2.2.1 T5.out.2.2.2.1).mono ?_
      rintro e w6 ⟨rfl, b6⟩
      have T6 := Lib.hid (T5.out.go b6)
      clear b6 T5 p0 p1 q0 q1
      obtain ⟨p0, p1, q0, q1⟩ := T6.out.cells
      go_wp2_with fail
      refine (CD1.out _).mono ?_
      rintro e w7 ⟨B7, m7, d7, rfl, I7, b7⟩
      have T8 := Lib.hid ((T6.out.go b7).go (bnew w7 (.cells #[.int .i64 l1, .slice B7 m7 d7] 24)))
      have X8 := Lib.hid (Has.new w7 (.cells #[.int .i64 l1, .slice B7 m7 d7] 24))
      have J8 := Lib.hid (I7.alloc (.cells #[.int .i64 l1, .slice B7 m7 d7] 24))
      clear b7 I7 T6 p0 p1 q0 q1
      go_upto_region 11 with (fail)
      generalize hw8 : World.alloc w7 _ = w8
      rw [hw8] at T8 X8 J8
      clear hw8
      obtain ⟨p0, p1, q0, q1⟩ := T8.out.cells
      have x0 := X8.out.cell 0 _ rfl
      have x1 := X8.out.cell 1 _ rfl
      go_wp2_with fail
      refine (CX.out _ _ _ _ J8.out T8.out.2.2.1).mono ?_
      rintro e w9 ⟨rfl, b9⟩
      have T9 := Lib.hid (T8.out.go b9)
      have X9 := Lib.hid (X8.out.below b9)
      have J9 := Lib.hid (J8.out.below b9)
      clear b9 T8 p0 p1 q0 q1 X8 J8 x0 x1
      obtain ⟨p0, p1, q0, q1⟩ := T9.out.cells
      have x0 := X9.out.cell 0 _ rfl
      have x1 := X9.out.cell 1 _ rfl
      go_wp2_with fail
      refine (CD.out _).mono ?_
      rintro e w10 ⟨B10, m10, d10, rfl, I10, b10⟩
      have T11 := Lib.hid ((T9.out.go b10).go (bnew w10 (.cells #[.int .i64 k, .slice B10 m10 d10] 24)))
      have X11 := Lib.hid (Has.new w10 (.cells #[.int .i64 k, .slice B10 m10 d10] 24))
      have J11 := Lib.hid (I10.alloc (.cells #[.int .i64 k, .slice B10 m10 d10] 24))
      clear b10 I10 T9 p0 p1 q0 q1 X9 J9 x0 x1
      go_upto_region 14 with (fail)
      generalize hw11 : World.alloc w10 _ = w11
      rw [hw11] at T11 X11 J11
      clear hw11
      obtain ⟨p0, p1, q0, q1⟩ := T11.out.cells
      have x0 := X11.out.cell 0 _ rfl
      have x1 := X11.out.cell 1 _ rfl
      go_wp2_with fail
      refine (CZ.out _ _ _ _ J11.out).mono ?_
      rintro e w12 ⟨rfl, b12⟩
      have T12 := Lib.hid (T11.out.go b12)
      have X12 := Lib.hid (X11.out.below b12)
      have J12 := Lib.hid (J11.out.below b12)
      clear b12 T11 p0 p1 q0 q1 X11 J11 x0 x1
      obtain ⟨p0, p1, q0, q1⟩ := T12.out.cells
      have x0 := X12.out.cell 0 _ rfl
      have x1 := X12.out.cell 1 _ rfl
      go_wp2_with fail
      go_ret
      exact ⟨by simp, T12.out.2.2.2.2⟩
end Go.Proofs.Ytklmoigpalhlmaa
