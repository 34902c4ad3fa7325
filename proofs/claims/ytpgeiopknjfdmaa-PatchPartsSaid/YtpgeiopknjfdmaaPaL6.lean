/-
  The walk of a statement of layer 5: in pieces.
-/
import Derived.Test.YtpgeiopknjfdmaaPaL5
namespace Go.Proofs.Ytpgeiopknjfdmaa
open Go.RowKit Go.Sort
set_option linter.unusedVariables false
set_option linter.unusedSimpArgs false

set_option maxRecDepth 100000 in
set_option maxHeartbeats 16000000 in
theorem PatchParts_walk (lsn : Int) (A : Option Addr) (n c : Nat) (l : List Sl) (w : World) (I : IsSlots w A n c l) (_ : (Lit.int .i64 lsn).wf = true) (A' : Option Addr) (m d : Nat) (L : List Ent) (J : IsEnts w A' m d L) (fr : Int) (_ : (Lit.int .i64 fr).wf = true) :
    Calls Try.prog 7 #[.agg #[.int .i64 lsn, .slice A n c], .slice A' m d, .int .i64 fr] w fun e w' => e = .returned (.bool true) ∧ Below w.heap.size w w' := by
  have CA := Lib.hid paAwake_any
  have CG := fun w h h2 => paGreat_any lsn A n c l A' m d L w h h2
  have hlenJ := J.len
  have hcapJ := J.cap
  have hmostJ := J.most
  have hcapI := I.cap
  have hmostI := I.most
  obtain ⟨G, hG⟩ : ∃ G, paGreat l L = G := ⟨_, rfl⟩
  have HN : Hid (G = false → m ≤ 60) := Lib.hid (fun e => by have := paGreat_few (hG.trans e); omega)
  rw [hG] at CG
  clear hG
  replace CG := Lib.hid CG
  go_enter Try.func7, Try.ntmps7
  go_upto_region 1 with (fail)
  have P := Lib.hid (Has.new w (.cells #[.int .i64 lsn, .slice A n c] 24))
  have B : Hid (Below w.heap.size w (w.alloc (.cells #[.int .i64 lsn, .slice A n c] 24))) := Lib.hid (bnew w _)
  have I0 := Lib.hid (I.below B.out)
  have J0 := Lib.hid (J.below B.out)
  generalize hw0 : World.alloc w _ = w0
  rw [hw0] at P B I0 J0
  clear hw0 I J
  go_wp2_with fail
  refine (CA.out _).mono ?_
  rintro e1 w1 ⟨rfl, b1⟩
  replace P := Lib.hid (P.out.below b1)
  replace B := Lib.hid (bup B.out b1)
  replace I0 := Lib.hid (I0.out.below b1)
  replace J0 := Lib.hid (J0.out.below b1)
  clear b1
  have p0 := P.out.cell 0 _ rfl
  have p1 := P.out.cell 1 _ rfl
  go_wp2_with fail
  refine (CG.out _ I0.out J0.out).mono ?_
  rintro e2 w2 ⟨rfl, b2⟩
  clear p0 p1
  replace P := Lib.hid (P.out.below b2)
  replace B := Lib.hid (bup B.out b2)
  replace I0 := Lib.hid (I0.out.below b2)
  replace J0 := Lib.hid (J0.out.below b2)
  clear b2
  have p0 := P.out.cell 0 _ rfl
  have p1 := P.out.cell 1 _ rfl
  cases G with
  | true =>
    go_wp2_with fail
    go_ret
    exact ⟨rfl, B.out⟩
  | false =>
  have hm60 := HN.out rfl
  obtain ⟨kc, hkm, hke⟩ := pa_cut fr m (by omega)
  have hsl1 := fun w => slice_upto (A := A') (d := d) hkm hcapJ w
  have hsl2 := fun w => slice_from (A := A') (d := d) hkm w
  have hpart1 := fun (w : World) (h : IsEnts w A' m d L) => ents_part h (Nat.zero_le kc) hkm
  have hpart2 := fun (w : World) (h : IsEnts w A' m d L) => ents_part h hkm (Nat.le_refl m)
  obtain ⟨AU, hAU⟩ : ∃ AU, (if d = 0 then A' else A'.map (·.add (0 * 13))) = AU := ⟨_, rfl⟩
  obtain ⟨AD, hAD⟩ : ∃ AD, (if d = kc then A' else A'.map (·.add (kc * 13))) = AD := ⟨_, rfl⟩
  rw [hAU] at hsl1 hpart1
  rw [hAD] at hsl2 hpart2
  rw [List.take_of_length_le (by omega)] at hpart2
  simp only [Nat.sub_zero, List.drop_zero] at hpart1
  clear hAU hAD
  have C1 := fun w h h2 => all_any lsn A n c l 0 A' m d L w h h2
  have C2 := fun w h h2 => all_any lsn A n c l 0 AU kc d (L.take kc) w h h2
  have HE := fun (h : (allR lsn l 0 (L.take kc)).2.2 ≠ 0) => all_part_err h
  have HO := fun (h : (allR lsn l 0 (L.take kc)).2.2 = 0) => all_part_ok h
  obtain ⟨R, hR⟩ : ∃ R, allR lsn l 0 L = R := ⟨_, rfl⟩
  obtain ⟨T, hT⟩ : ∃ T, allR lsn l 0 (L.take kc) = T := ⟨_, rfl⟩
  rw [hR] at C1 HO HE
  rw [hT] at C2 HO HE
  obtain ⟨r1, r2, r3⟩ := R
  obtain ⟨t1, t2, t3⟩ := T
  have C3 := fun A n c w h h2 => all_any t1 A n c t2 0 AD (m - kc) (d - kc) (L.drop kc) w h h2
  have C5 := Lib.hid (fun A1 n1 c1 A2 n2 c2 w h1 h2 => psame_any r1 A1 n1 c1 r2 r1 A2 n2 c2 r2 w h1 h2)
  rw [(pgSame_iff r1 r1 r2 r2).2 ⟨rfl, rfl⟩] at C5
  clear hR hT
  replace C1 := Lib.hid C1
  replace C2 := Lib.hid C2
  replace C3 := Lib.hid C3
  replace HE := Lib.hid HE
  replace HO := Lib.hid HO
  replace hpart1 := Lib.hid hpart1
  replace hpart2 := Lib.hid hpart2
  replace hsl2 := Lib.hid hsl2
  go_upto_region 6 with (fail)
  rw [hke]
  clear hke
  go_wp2_with fail
  refine (C1.out _ I0.out J0.out).mono ?_
  rintro e3 w3 ⟨A4, n4, c4, rfl, K4, b3⟩
  clear p0 p1
  replace P := Lib.hid ((P.out.below b3).alloc (.cells #[.int .i64 r1, .slice A4 n4 c4] 24))
  replace B := Lib.hid (bup (bup B.out b3) (bnew w3 (.cells #[.int .i64 r1, .slice A4 n4 c4] 24)))
  replace I0 := Lib.hid ((I0.out.below b3).alloc (.cells #[.int .i64 r1, .slice A4 n4 c4] 24))
  replace J0 := Lib.hid ((J0.out.below b3).below (bnew w3 (.cells #[.int .i64 r1, .slice A4 n4 c4] 24)))
  have Q1 := Lib.hid (Has.new w3 (.cells #[.int .i64 r1, .slice A4 n4 c4] 24))
  have K1 := Lib.hid (K4.alloc (.cells #[.int .i64 r1, .slice A4 n4 c4] 24))
  clear b3 K4
  go_upto_region 7 with (fail)
  generalize hw4 : World.alloc w3 _ = w4
  rw [hw4] at P B I0 J0 Q1 K1
  clear hw4
  obtain ⟨w7, hw7⟩ : ∃ w7 : World, w7 = w4 := ⟨_, rfl⟩
  rw [← hw7] at P B I0 J0 Q1 K1 ⊢
  clear hw7
  have p0 := P.out.cell 0 _ rfl
  have p1 := P.out.cell 1 _ rfl
  have hzp : w.heap.size < w7.heap.size := P.out.lt
  have JU := Lib.hid (hpart1.out _ J0.out)
  go_upto_region 7 with (fail)
  go_cut [10, 11] from 33 to 40 (fun v10 v11 wx => ∃ gq A8 n8 c8, v10 = .pointer (some ⟨gq, 0, none⟩) ∧ v11 = .int .i64 t3 ∧ Hid (Has wx gq (.cells #[.int .i64 t1, .slice A8 n8 c8] 24)) ∧ Hid (IsSlots wx A8 n8 c8 t2) ∧ Hid (Below w7.heap.size w7 wx))
  case first =>
    go_region_law ((go_simp; go_at_call 16; refine (C2.out _ (by repeat (first | exact I0.out | refine IsSlots.drew ?_ | refine IsSlots.alloc ?_ _)) (by repeat (first | exact JU.out | refine IsEnts.drew ?_ | refine IsEnts.alloc ?_ _))).mono ?_; rintro e w8 ⟨A8, n8, c8, rfl, I8, b8⟩; obtain ⟨hc5, hf5⟩ := bcell b8; have hz5 := b8.size))
    all_goals
      clear hc5 hf5 hz5 p0 p1
      go_wp2_with fail
      go_meet
      first
      | exact ⟨_, _, _, _, rfl, rfl, close_out (by repeat (first | exact Below.refl _ _ | refine Below.drew ?_ | refine bup ?_ (bnew _ _))) b8 I8⟩
      | exact ⟨_, _, _, _, rfl, rfl, close_in (by repeat (first | exact Below.refl _ _ | refine Below.drew ?_ | refine bup ?_ (bnew _ _))) (by simp) (by repeat (first | exact Has.new _ _ | exact Has.new1 _ _ _ | refine Has.drew ?_ | refine Has.alloc ?_ _)) b8 I8⟩
  case rest =>
  obtain ⟨gq, A8, n8, c8, rfl, rfl, Q9, I9, BX⟩ := hcut
  have Q19 := Lib.hid (Q1.out.below BX.out)
  have K9 := Lib.hid (K1.out.below BX.out)
  have J9 := Lib.hid (J0.out.below BX.out)
  have B9 := Lib.hid (bup B.out BX.out)
  clear P B Q1 K1 BX I0 J0 JU p0 p1 hsl1 hzp
  by_cases ht3 : t3 = 0
  case neg =>
    have he := HE.out ht3
    have he3 : r3 = t3 := congrArg (fun R : Int × List Sl × Int => R.2.2) he
    subst he3
    have hqb : ((r3 : Int) != 0) = true := by simp [ht3]
    clear HE HO he ht3
    go_wp2_with fail
    go_ret
    exact ⟨congrArg (fun b => Ending.returned (.bool b)) (by simp), B9.out⟩
  subst ht3
  have hO : allR t1 t2 0 (L.drop kc) = (r1, r2, r3) := HO.out rfl
  have C3 := C3.out
  rw [hO] at C3
  replace C3 := Lib.hid C3
  have hsl2 := hsl2.out
  have hcap8 := I9.out.cap
  have hmost8 := I9.out.most
  clear HE HO hO
  obtain ⟨wy, hwy⟩ : ∃ wy : World, wy = wc := ⟨_, rfl⟩
  rw [← hwy] at Q9 I9 Q19 K9 J9 B9 ⊢
  clear hwy
  have q0 := Q9.out.cell 0 _ rfl
  have q1 := Q9.out.cell 1 _ rfl
  have hzq : gq < wy.heap.size := Q9.out.lt
  have JD := Lib.hid (hpart2.out _ J9.out)
  go_upto_region 10 with (fail)
  go_cut [12, 13] from 46 to 53 (fun v10 v11 wx => ∃ gq A8 n8 c8, v10 = .pointer (some ⟨gq, 0, none⟩) ∧ v11 = .int .i64 r3 ∧ Hid (Has wx gq (.cells #[.int .i64 r1, .slice A8 n8 c8] 24)) ∧ Hid (IsSlots wx A8 n8 c8 r2) ∧ Hid (Below wy.heap.size wy wx))
  case first =>
    go_region_law ((go_simp; go_at_call 16; refine (C3.out _ _ _ _ (by repeat (first | exact I9.out | refine IsSlots.drew ?_ | refine IsSlots.alloc ?_ _)) (by repeat (first | exact JD.out | refine IsEnts.drew ?_ | refine IsEnts.alloc ?_ _))).mono ?_; rintro e w8 ⟨A8, n8, c8, rfl, I8, b8⟩; obtain ⟨hc5, hf5⟩ := bcell b8; have hz5 := b8.size))
    all_goals
      clear hc5 hf5 hz5 q0 q1
      go_wp2_with fail
      go_meet
      first
      | exact ⟨_, _, _, _, rfl, rfl, close_out (by repeat (first | exact Below.refl _ _ | refine Below.drew ?_ | refine bup ?_ (bnew _ _))) b8 I8⟩
      | exact ⟨_, _, _, _, rfl, rfl, close_in (by repeat (first | exact Below.refl _ _ | refine Below.drew ?_ | refine bup ?_ (bnew _ _))) (by simp) (by repeat (first | exact Has.new _ _ | exact Has.new1 _ _ _ | refine Has.drew ?_ | refine Has.alloc ?_ _)) b8 I8⟩
  case rest =>
  obtain ⟨gz, A9, n9, c9, rfl, rfl, QZ, IZ, BY⟩ := hcut
  have Q20 := Lib.hid (Q19.out.below BY.out)
  have K20 := Lib.hid (K9.out.below BY.out)
  have B20 := Lib.hid (bup B9.out BY.out)
  clear Q9 I9 Q19 K9 J9 B9 BY JD q0 q1 hsl2
  have q0 := Q20.out.cell 0 _ rfl
  have q1 := Q20.out.cell 1 _ rfl
  have r0 := QZ.out.cell 0 _ rfl
  have r1 := QZ.out.cell 1 _ rfl
  go_wp2_with fail
  refine (C5.out _ _ _ _ _ _ _ IZ.out K20.out).mono ?_
  rintro e21 w21 ⟨rfl, b21⟩
  clear q0 q1 r0 r1
  replace Q20 := Lib.hid (Q20.out.below b21)
  replace QZ := Lib.hid (QZ.out.below b21)
  replace IZ := Lib.hid (IZ.out.below b21)
  replace K20 := Lib.hid (K20.out.below b21)
  replace B20 := Lib.hid (bup B20.out b21)
  clear b21
  have q0 := Q20.out.cell 0 _ rfl
  have q1 := Q20.out.cell 1 _ rfl
  have r0 := QZ.out.cell 0 _ rfl
  have r1 := QZ.out.cell 1 _ rfl
  go_wp2_with fail
  go_ret
  exact ⟨congrArg (fun b => Ending.returned (.bool b)) (by simp), B20.out⟩
end Go.Proofs.Ytpgeiopknjfdmaa
