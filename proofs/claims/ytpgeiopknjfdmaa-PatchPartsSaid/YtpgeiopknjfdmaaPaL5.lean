/-
  The walk of a statement of layer 5: done again nothing changes.
-/
import Derived.Test.YtpgeiopknjfdmaaPaG
import Derived.Test.YtpgeiopknjfdmaaPaL1
import Derived.Test.YtpgeiopknjfdmaaPaF3
import Derived.Test.YtpgeiopknjfdmaaPaSlice
namespace Go.Proofs.Ytpgeiopknjfdmaa
open Go.RowKit Go.Sort
set_option linter.unusedVariables false
set_option linter.unusedSimpArgs false

theorem IsEnts.alloc {w : World} {A : Option Addr} {n c : Nat} {l : List Ent} (h : IsEnts w A n c l) (o : Obj) : IsEnts (w.alloc o) A n c l := h.below (bnew w o)
theorem paGreat_few {l : List Sl} {L : List Ent} (h : paGreat l L = false) : L.length ≤ 60 := by
  simp [paGreat] at h
  omega
set_option maxRecDepth 100000 in
set_option maxHeartbeats 16000000 in
theorem PatchOnce_walk (lsn : Int) (A : Option Addr) (n c : Nat) (l : List Sl) (w : World) (I : IsSlots w A n c l) (_ : (Lit.int .i64 lsn).wf = true) (A' : Option Addr) (m d : Nat) (L : List Ent) (J : IsEnts w A' m d L) (fr : Int) (_ : (Lit.int .i64 fr).wf = true) :
    Calls Try.prog 5 #[.agg #[.int .i64 lsn, .slice A n c], .slice A' m d, .int .i64 fr] w fun e w' => e = .returned (.bool true) ∧ Below w.heap.size w w' := by
  have CA := Lib.hid paAwake_any
  have CG := fun w h h2 => paGreat_any lsn A n c l A' m d L w h h2
  have hlenJ := J.len
  have hcapJ := J.cap
  have hmostJ := J.most
  obtain ⟨G, hG⟩ : ∃ G, paGreat l L = G := ⟨_, rfl⟩
  have HN : Hid (G = false → m ≤ 60) := Lib.hid (fun e => by have := paGreat_few (hG.trans e); omega)
  rw [hG] at CG
  have C1 := fun w h h2 => all_any lsn A n c l 0 A' m d L w h h2
  have HO := fun (k : Nat) (h : (allR lsn l 0 L).2.2 = 0) => all_once k h
  have HE := fun (h : (allR lsn l 0 L).2.2 ≠ 0) => all_err h
  obtain ⟨R, hR⟩ : ∃ R, allR lsn l 0 L = R := ⟨_, rfl⟩
  rw [hR] at C1 HO HE
  obtain ⟨r1, r2, r3⟩ := R
  have C5 := Lib.hid (fun A1 n1 c1 A2 n2 c2 w h1 h2 => psame_any r1 A1 n1 c1 r2 r1 A2 n2 c2 r2 w h1 h2)
  rw [(pgSame_iff r1 r1 r2 r2).2 ⟨rfl, rfl⟩] at C5
  have CZ := fun A n c w h1 => psame_any 0 A n c [] 0 none 0 0 [] w h1 (IsSlots.nil w)
  rw [(pgSame_iff 0 0 [] []).2 ⟨rfl, rfl⟩] at CZ
  replace CZ := Lib.hid CZ
  clear hG hR
  replace CG := Lib.hid CG
  replace C1 := Lib.hid C1
  replace HO := Lib.hid HO
  replace HE := Lib.hid HE
  go_enter Try.func5, Try.ntmps5
  go_upto_region 1 with (fail)
  have P := Lib.hid (Has.new w (.cells #[.int .i64 lsn, .slice A n c] 24))
  have B : Hid (Below w.heap.size w (w.alloc (.cells #[.int .i64 lsn, .slice A n c] 24))) := Lib.hid (bnew w _)
  have I0 := Lib.hid (I.below B.out)
  have J0 := Lib.hid (J.below B.out)
  generalize hw0 : World.alloc w _ = w0
  rw [hw0] at P B I0 J0
  clear hw0 I J
  go_wp2_with fail
  refine (CA.out _).mono ?_
  rintro e1 w1 ⟨rfl, b1⟩
  replace P := Lib.hid (P.out.below b1)
  replace B := Lib.hid (bup B.out b1)
  replace I0 := Lib.hid (I0.out.below b1)
  replace J0 := Lib.hid (J0.out.below b1)
  clear b1
  have p0 := P.out.cell 0 _ rfl
  have p1 := P.out.cell 1 _ rfl
  go_wp2_with fail
  refine (CG.out _ I0.out J0.out).mono ?_
  rintro e2 w2 ⟨rfl, b2⟩
  clear p0 p1
  replace P := Lib.hid (P.out.below b2)
  replace B := Lib.hid (bup B.out b2)
  replace I0 := Lib.hid (I0.out.below b2)
  replace J0 := Lib.hid (J0.out.below b2)
  clear b2
  have p0 := P.out.cell 0 _ rfl
  have p1 := P.out.cell 1 _ rfl
  cases G with
  | true =>
    go_wp2_with fail
    go_ret
    exact ⟨rfl, B.out⟩
  | false =>
  have hm60 := HN.out rfl
  by_cases hr3 : r3 = 0
  case neg =>
    obtain ⟨h1, h2⟩ := HE.out hr3
    have h1' : r1 = 0 := h1
    have h2' : r2 = [] := h2
    subst h1' h2'
    have hqb : ((r3 : Int) != 0) = true := by simp [hr3]
    clear HO HE hr3 h1 h2
    go_wp2_with fail
    refine (C1.out _ I0.out J0.out).mono ?_
    rintro e3 w3 ⟨A4, n4, c4, rfl, K4, b3⟩
    clear p0 p1
    replace P := Lib.hid ((P.out.below b3).alloc (.cells #[.int .i64 0, .slice A4 n4 c4] 24))
    replace B := Lib.hid (bup (bup B.out b3) (bnew w3 (.cells #[.int .i64 0, .slice A4 n4 c4] 24)))
    replace I0 := Lib.hid ((I0.out.below b3).alloc (.cells #[.int .i64 0, .slice A4 n4 c4] 24))
    replace J0 := Lib.hid ((J0.out.below b3).below (bnew w3 (.cells #[.int .i64 0, .slice A4 n4 c4] 24)))
    have Q1 := Lib.hid (Has.new w3 (.cells #[.int .i64 0, .slice A4 n4 c4] 24))
    have K1 := Lib.hid (K4.alloc (.cells #[.int .i64 0, .slice A4 n4 c4] 24))
    clear b3 K4
    go_upto_region 6 with (fail)
    generalize hw4 : World.alloc w3 _ = w4
    rw [hw4] at P B I0 J0 Q1 K1
    clear hw4
    have p0 := P.out.cell 0 _ rfl
    have p1 := P.out.cell 1 _ rfl
    have q0 := Q1.out.cell 0 _ rfl
    have q1 := Q1.out.cell 1 _ rfl
    go_wp2_with fail
    refine (CZ.out _ _ _ _ K1.out).mono ?_
    rintro e5 w5 ⟨rfl, b5⟩
    clear p0 p1 q0 q1
    replace P := Lib.hid (P.out.below b5)
    replace B := Lib.hid (bup B.out b5)
    replace I0 := Lib.hid (I0.out.below b5)
    replace J0 := Lib.hid (J0.out.below b5)
    replace Q1 := Lib.hid (Q1.out.below b5)
    replace K1 := Lib.hid (K1.out.below b5)
    clear b5
    have p0 := P.out.cell 0 _ rfl
    have p1 := P.out.cell 1 _ rfl
    have q0 := Q1.out.cell 0 _ rfl
    have q1 := Q1.out.cell 1 _ rfl
    go_wp2_with fail
    go_ret
    exact ⟨congrArg (fun b => Ending.returned (.bool b)) (by simp), B.out⟩
  subst hr3
  clear HE
  obtain ⟨kc, hkm, hke⟩ := pa_cut fr m (by omega)
  obtain ⟨hO1, hO2, hO3⟩ := HO.out kc rfl
  have hO1' : allR r1 r2 0 (L.drop kc) = (r1, r2, 0) := hO1
  have hO2' : lsn ≤ r1 := hO2
  have hsl := fun w => slice_from (A := A') (d := d) hkm w
  have hpart := fun (w : World) (h : IsEnts w A' m d L) => ents_part h hkm (Nat.le_refl m)
  obtain ⟨AD, hAD⟩ : ∃ AD, (if d = kc then A' else A'.map (·.add (kc * 13))) = AD := ⟨_, rfl⟩
  rw [hAD] at hsl hpart
  rw [List.take_of_length_le (by omega)] at hpart
  have C2 := fun A n c w h h2 => all_any r1 A n c r2 0 AD (m - kc) (d - kc) (L.drop kc) w h h2
  rw [hO1'] at C2
  replace C2 := Lib.hid C2
  replace hpart := Lib.hid hpart
  clear HO hO1 hO1' hO2 hO3 hAD
  go_wp2_with fail
  refine (C1.out _ I0.out J0.out).mono ?_
  rintro e3 w3 ⟨A4, n4, c4, rfl, K4, b3⟩
  clear p0 p1
  replace P := Lib.hid ((P.out.below b3).alloc (.cells #[.int .i64 r1, .slice A4 n4 c4] 24))
  replace B := Lib.hid (bup (bup B.out b3) (bnew w3 (.cells #[.int .i64 r1, .slice A4 n4 c4] 24)))
  replace I0 := Lib.hid ((I0.out.below b3).alloc (.cells #[.int .i64 r1, .slice A4 n4 c4] 24))
  replace J0 := Lib.hid ((J0.out.below b3).below (bnew w3 (.cells #[.int .i64 r1, .slice A4 n4 c4] 24)))
  have Q1 := Lib.hid (Has.new w3 (.cells #[.int .i64 r1, .slice A4 n4 c4] 24))
  have K1 := Lib.hid (K4.alloc (.cells #[.int .i64 r1, .slice A4 n4 c4] 24))
  clear b3 K4
  go_upto_region 6 with (fail)
  generalize hw4 : World.alloc w3 _ = w4
  rw [hw4] at P B I0 J0 Q1 K1
  clear hw4
  have hcap4 := K1.out.cap
  have hmost4 := K1.out.most
  obtain ⟨w7, hw7⟩ : ∃ w7 : World, w7 = w4 := ⟨_, rfl⟩
  rw [← hw7] at P B I0 J0 Q1 K1 ⊢
  clear hw7
  have q0 := Q1.out.cell 0 _ rfl
  have q1 := Q1.out.cell 1 _ rfl
  have hzq : w3.heap.size < w7.heap.size := Q1.out.lt
  have J7 := Lib.hid (hpart.out _ J0.out)
  go_upto_region 9 with (fail)
  rw [hke]
  clear hke
  go_cut [10, 11] from 36 to 43 (fun v10 v11 wx => ∃ gq A8 n8 c8, v10 = .pointer (some ⟨gq, 0, none⟩) ∧ v11 = .int .i64 0 ∧ Hid (Has wx gq (.cells #[.int .i64 r1, .slice A8 n8 c8] 24)) ∧ Hid (IsSlots wx A8 n8 c8 r2) ∧ Hid (Below w7.heap.size w7 wx))
  case first =>
    go_region_law ((go_simp; go_at_call 16; refine (C2.out _ _ _ _ (by repeat (first | exact K1.out | refine IsSlots.drew ?_ | refine IsSlots.alloc ?_ _)) (by repeat (first | exact J7.out | refine IsEnts.drew ?_ | refine IsEnts.alloc ?_ _))).mono ?_; rintro e w8 ⟨A8, n8, c8, rfl, I8, b8⟩; obtain ⟨hc5, hf5⟩ := bcell b8; have hz5 := b8.size))
    all_goals
      clear hc5 hf5 hz5 q0 q1
      go_wp2_with fail
      go_meet
      first
      | exact ⟨_, _, _, _, rfl, rfl, close_out (by repeat (first | exact Below.refl _ _ | refine Below.drew ?_ | refine bup ?_ (bnew _ _))) b8 I8⟩
      | exact ⟨_, _, _, _, rfl, rfl, close_in (by repeat (first | exact Below.refl _ _ | refine Below.drew ?_ | refine bup ?_ (bnew _ _))) (by simp) (by repeat (first | exact Has.new _ _ | exact Has.new1 _ _ _ | refine Has.drew ?_ | refine Has.alloc ?_ _)) b8 I8⟩
  case rest =>
  obtain ⟨gq, A8, n8, c8, rfl, rfl, Q9, I9, BX⟩ := hcut
  have P9 := Lib.hid (P.out.below BX.out)
  have Q19 := Lib.hid (Q1.out.below BX.out)
  have K9 := Lib.hid (K1.out.below BX.out)
  have B9 := Lib.hid (bup B.out BX.out)
  clear P B Q1 K1 BX I0 J0 J7 q0 q1 hsl
  have p0 := P9.out.cell 0 _ rfl
  have p1 := P9.out.cell 1 _ rfl
  have q0 := Q19.out.cell 0 _ rfl
  have q1 := Q19.out.cell 1 _ rfl
  have r0 := Q9.out.cell 0 _ rfl
  have r1 := Q9.out.cell 1 _ rfl
  go_wp2_with fail
  refine (C5.out _ _ _ _ _ _ _ I9.out K9.out).mono ?_
  rintro e21 w21 ⟨rfl, b21⟩
  clear p0 p1 q0 q1 r0 r1
  replace P9 := Lib.hid (P9.out.below b21)
  replace Q19 := Lib.hid (Q19.out.below b21)
  replace Q9 := Lib.hid (Q9.out.below b21)
  replace I9 := Lib.hid (I9.out.below b21)
  replace K9 := Lib.hid (K9.out.below b21)
  replace B9 := Lib.hid (bup B9.out b21)
  clear b21
  have p0 := P9.out.cell 0 _ rfl
  have p1 := P9.out.cell 1 _ rfl
  have q0 := Q19.out.cell 0 _ rfl
  have q1 := Q19.out.cell 1 _ rfl
  have r0 := Q9.out.cell 0 _ rfl
  have r1 := Q9.out.cell 1 _ rfl
  go_wp2_with fail
  go_ret
  exact ⟨congrArg (fun b => Ending.returned (.bool b)) (by simp <;> omega), B9.out⟩
end Go.Proofs.Ytpgeiopknjfdmaa
