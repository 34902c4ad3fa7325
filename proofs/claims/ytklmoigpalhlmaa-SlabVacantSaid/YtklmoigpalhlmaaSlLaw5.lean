/-
  The walk of a statement of layer 3: the first vacant slot.
-/
import Derived.Test.YtklmoigpalhlmaaSlLaw4
namespace Go.Proofs.Ytklmoigpalhlmaa
open Go.RowKit Go.Sort
set_option linter.unusedVariables false
set_option linter.unusedSimpArgs false

theorem vac_none {lsn : Int} {l : List Sl} (h : slGood lsn l = true) {n : Nat} (hn : n ≤ 200) (hv : 32 ≤ slVac l ∨ 240 < (slSize l : Int) + ((n : Int) + if slVac l = l.length then 1 else 0)) {i : Nat} (hi : i < 32) {d : ByteArray} (hd : d.size = n) :
    (slAt lsn l i).u = true ∨ ((slAt lsn l i).u = false ∧ putRes lsn l i ⟨true, d⟩ = (0, [], 22)) := by
  cases hu : (slAt lsn l i).u with
  | true => exact .inl rfl
  | false =>
    refine .inr ⟨rfl, ?_⟩
    have hodd : (Sl.mk true d).odd = false := by simp [Sl.odd]; omega
    rw [putRes_go h hi hodd]
    obtain ⟨h1, h2, h3, h4, h5⟩ := (slGood_iff lsn l).1 h
    have hsz := putL_size h4 i (x := ⟨true, d⟩) rfl
    have hle : slVac l ≤ l.length := List.findIdx_le_length
    have hlow : i < l.length → slVac l ≤ i := by
      intro hil
      refine Nat.le_of_not_lt fun hlt => ?_
      have hx : l[i]? = some l[i] := List.getElem?_eq_getElem hil
      have := List.not_of_lt_findIdx (p := Sl.free) (xs := l) hlt
      rw [slAt_in h hx] at hu
      simp [Sl.free, hu] at this
    have hf := slOther_full i l 0 (fun j x hx e => by
      have e2 : j = i := by omega
      subst e2
      rw [slAt_in h hx] at hu
      have ho : x.odd = false := by have := List.any_eq_false.1 h3 x (List.mem_of_getElem? hx); simpa using this
      rw [free_none ho hu]; rfl)
    simp only [hd] at hsz
    unfold slSize at *
    rw [if_pos ?_]
    by_cases e : slVac l = l.length
    · rw [if_pos e] at hv
      by_cases hil : i < l.length
      · have := hlow hil; omega
      · omega
    · rw [if_neg e] at hv
      by_cases hil : i < l.length
      · omega
      · omega
theorem vac_used {lsn : Int} {l : List Sl} (h : slGood lsn l = true) {i : Nat} (hi : i < slVac l) : (slAt lsn l i).u = true := by
  have hle : slVac l ≤ l.length := List.findIdx_le_length
  have hil : i < l.length := by omega
  have hx : l[i]? = some l[i] := List.getElem?_eq_getElem hil
  have := List.not_of_lt_findIdx (p := Sl.free) (xs := l) hi
  rw [slAt_in h hx]
  simp [Sl.free] at this
  exact this
theorem vac_free {lsn : Int} {l : List Sl} (h : slGood lsn l = true) : (slAt lsn l (slVac l : Nat)).u = false := by
  have hle : slVac l ≤ l.length := List.findIdx_le_length
  by_cases hil : slVac l < l.length
  · have hx : l[slVac l]? = some l[slVac l] := List.getElem?_eq_getElem hil
    rw [slAt_in h hx]
    have : Sl.free (l[slVac l]'hil) = true := List.findIdx_getElem
    simpa [Sl.free] using this
  · rw [slAt_out (.inr (.inr (by omega)))]; rfl
theorem slot_used (u : Bool) (d : ByteArray) (w : World) : (Instr.field 33 (.agg #[.bool u, .string d]) 0).run Try.prog w = .ok (.bool u) w := by kernel_rfl
/-- An image and a slot that a call made lie where they were laid. -/
def Duo (w : World) (lsn : Int) (A : Option Addr) (n c : Nat) (l : List Sl) (g : Nat) (x : Sl) (v : World) : Prop :=
  Has v w.heap.size (.cells #[.int .i64 lsn, .slice A n c] 24) ∧ Has v g (.cells #[.bool x.u, .string x.d] 33) ∧ IsSlots v A n c l ∧ Below w.heap.size w v
section
variable {w v u : World} {lsn : Int} {A : Option Addr} {n c g : Nat} {l : List Sl} {x : Sl}
theorem Duo.go (h : Duo w lsn A n c l g x v) (b : Below v.heap.size v u) : Duo w lsn A n c l g x u := ⟨h.1.below b, h.2.1.below b, h.2.2.1.below b, bup h.2.2.2 b⟩
theorem Duo.cells (h : Duo w lsn A n c l g x v) : v.cell? ⟨w.heap.size, 0, none⟩ = some (.int .i64 lsn) ∧ v.cell? ⟨w.heap.size, 1, none⟩ = some (.slice A n c) ∧ v.cell? ⟨g, 0, none⟩ = some (.bool x.u) ∧ v.cell? ⟨g, 1, none⟩ = some (.string x.d) :=
  ⟨h.1.cell 0 _ rfl, h.1.cell 1 _ rfl, h.2.1.cell 0 _ rfl, h.2.1.cell 1 _ rfl⟩
end
set_option maxRecDepth 100000 in
set_option maxHeartbeats 8000000 in
theorem SlabVacant_walk (lsn : Int) (A : Option Addr) (n c : Nat) (l : List Sl) (w : World) (I : IsSlots w A n c l) (_ : (Lit.int .i64 lsn).wf = true) (k : Int) (_ : (Lit.int .i64 k).wf = true) :
    Calls Try.prog 7 #[.agg #[.int .i64 lsn, .slice A n c], .int .i64 k] w fun e w' => e = .returned (.bool true) ∧ Below w.heap.size w w' := by
  have CA := Lib.hid (fun w => slabAwake_any w)
  have CR := Lib.hid (fun w h => great_any lsn A n c l w h)
  have CG := Lib.hid (fun w h => pgood_any lsn A n c l w h)
  have H := Lib.hid I
  clear I
  obtain ⟨g1, hg1⟩ : ∃ g, slGreat l = g := ⟨_, rfl⟩
  obtain ⟨g2, hg2⟩ : ∃ g, slGood lsn l = g := ⟨_, rfl⟩
  rw [hg1] at CR
  rw [hg2] at CG
  by_cases hgo : g1 = false ∧ g2 = true ∧ 0 ≤ k ∧ k ≤ 200
  · obtain ⟨rfl, rfl, hk0, hk2⟩ := hgo
    obtain ⟨m, rfl⟩ : ∃ m : Nat, k = m := ⟨k.toNat, by omega⟩
    have hm : m ≤ 200 := by omega
    have hds : (bs (zeros m)).size = m := by rw [bs_size]; simp [zeros]
    have VN := Lib.hid (fun hv i hi => vac_none (i := i) hg2 hm hv hi hds)
    have VU := Lib.hid (fun i hi => vac_used (i := i) hg2 hi)
    have VF := Lib.hid (vac_free hg2)
    have VP := Lib.hid (fun s hs hs2 => vac_put (s := s) hg2 hs hs2 hm hds)
    have VR : Hid (vacRes lsn l m = if 32 ≤ slVac l ∨ 240 < (slSize l : Int) + ((m : Int) + if slVac l = l.length then 1 else 0) then (0, 22) else ((slVac l : Int), 0)) := Lib.hid (by
      unfold vacRes; rw [if_neg (by rintro (h | h); rw [hg2] at h; cases h; omega), if_neg (by omega)])
    have CP := Lib.hid (fun i w h => pput_any lsn A n c l i ⟨true, bs (zeros m)⟩ w h (by simp only [hds]; omega))
    have CT := Lib.hid (fun i w h => pat_any lsn A n c l i w h)
    have CQ := Lib.hid (fun r A n c T i w h => pat_any r A n c T i w h)
    have CV := Lib.hid (fun w h => pvac_any lsn A n c l m w h)
    have Hg := Lib.hid hg2
    have hmk := fun w => makeBytes m (by omega) m (Nat.le_refl _) (by omega) w
    obtain ⟨F0, hF0⟩ : ∃ F, (List.replicate m (Value.int .u8 0)).toArray = F := ⟨_, rfl⟩
    rw [hF0] at hmk
    have hct := fun w g (h : Has w g (.cells F0 5)) => zeros_text (m := m) (by rw [hF0]; exact h)
    obtain ⟨S, hS⟩ : ∃ S, bs (zeros m) = S := ⟨_, rfl⟩
    rw [hS] at CP hct VN VP hds
    have Hds := Lib.hid hds
    replace hct := Lib.hid hct
    have Hmk := Lib.hid hmk
    clear hg1 hg2 hF0 hS hmk hds
    go_enter Try.func7, Try.ntmps7
    go_wp2_with fail
    refine (CA.out _).mono ?_
    rintro e w0 ⟨rfl, b0⟩
    have P0 := (Has.new w _).below b0
    have p0 := P0.cell 0 _ rfl
    have p1 := P0.cell 1 _ rfl
    have B0 := Lib.hid (bup (bnew w _) b0)
    have H0 := Lib.hid (H.out.below B0.out)
    replace P0 := Lib.hid P0
    clear b0
    go_wp2_with fail
    refine (CR.out _ H0.out).mono ?_
    rintro e w1 ⟨rfl, b1⟩
    have P1 := Lib.hid (P0.out.below b1)
    have H1 := Lib.hid (H0.out.below b1)
    have B1 := Lib.hid (bup B0.out b1)
    clear p0 p1 P0 H0 B0 b1
    have p0 := P1.out.cell 0 _ rfl
    have p1 := P1.out.cell 1 _ rfl
    go_wp2_with fail
    refine (CG.out _ H1.out).mono ?_
    rintro e w2 ⟨rfl, b2⟩
    have P2 := Lib.hid (P1.out.below b2)
    have H2 := Lib.hid (H1.out.below b2)
    have B2 := Lib.hid (bup B1.out b2)
    clear p0 p1 P1 H1 B1 b2
    have hmk := Hmk.out
    have hcv := hct.out (w2.alloc (.cells F0 5)) w2.heap.size (Has.new _ _)
    go_upto_region 6 with (fail)
    generalize hw3 : World.alloc (World.alloc w2 _) _ = w3
    have D3 : Hid (Duo w lsn A n c l (w2.heap.size + 1) ⟨true, S⟩ w3) := Lib.hid (by
      rw [← hw3]
      exact ⟨(P2.out.alloc _).alloc _, Has.new1 w2 _ _, (H2.out.alloc _).alloc _, bup (bup B2.out (bnew _ _)) (bnew _ _)⟩)
    clear hw3 hmk hcv P2 H2 B2 Hmk hct
    obtain ⟨p0, p1, x0, x1⟩ := D3.out.cells
    by_cases hv : 32 ≤ slVac l ∨ 240 < (slSize l : Int) + ((m : Int) + if slVac l = l.length then 1 else 0)
    · have VN2 := Lib.hid (VN.out hv)
      have vr := VR.out
      rw [if_pos hv] at vr
      rw [vr] at CV
      clear vr hv VN VU VF VP VR
      have hfl := slot_used
      go_wp2_with fail
      refine (CV.out _ D3.out.2.2.1).mono ?_
      rintro e w4 ⟨rfl, b4⟩
      have D4 := Lib.hid (D3.out.go b4)
      clear b4 p0 p1 x0 x1 D3
      go_wp2_with fail
      go_loopw [8, 9, 10] (fun i v f wr => ∃ j : Nat, j ≤ 32 ∧ i = .int .i64 j ∧ Hid (Duo w lsn A n c l (w2.heap.size + 1) ⟨true, S⟩ wr)) (fun i _ _ _ => 32 - (intOf i).toNat)
      case atStart => exact ⟨0, by omega, rfl, D4⟩
      case round =>
        obtain ⟨j, hj, rfl, D5⟩ := hrel
        obtain ⟨p0, p1, x0, x1⟩ := D5.out.cells
        by_cases hlt : j < 32
        · have C1 := fun w h => CP.out j w h
          have C2 := fun w h => CT.out j w h
          have vv := VN2.out j hlt
          obtain ⟨R, hR⟩ : ∃ R, putRes lsn l j ⟨true, S⟩ = R := ⟨_, rfl⟩
          obtain ⟨y, hy⟩ : ∃ y, slAt lsn l j = y := ⟨_, rfl⟩
          rw [hR] at C1 vv
          rw [hy] at C2 vv
          obtain ⟨yu, yd⟩ := y
          obtain ⟨r1, r2, r3⟩ := R
          simp only at C2 vv
          replace C1 := Lib.hid C1
          replace C2 := Lib.hid C2
          clear hR hy
          have vv' : yu = true ∨ (yu = false ∧ r3 = 22) := by
            rcases vv with h | ⟨h1, h2⟩
            · exact .inl h
            · cases h2; exact .inr ⟨h1, rfl⟩
          clear vv
          go_wp2_with fail
          refine (C1.out _ D5.out.2.2.1).mono ?_
          rintro e w5 ⟨A5, n5, c5, rfl, I5, b5⟩
          have D6 := Lib.hid ((D5.out.go b5).go (bnew w5 (.cells #[.int .i64 r1, .slice A5 n5 c5] 24)))
          clear p0 p1 x0 x1 I5 b5 D5
          go_upto_region 12 with (fail)
          generalize World.alloc w5 _ = w6 at D6 ⊢
          obtain ⟨p0, p1, x0, x1⟩ := D6.out.cells
          rcases vv' with rfl | ⟨rfl, rfl⟩ <;>
          · go_wp2_with fail
            refine (C2.out _ D6.out.2.2.1).mono ?_
            rintro e w7 ⟨rfl, b7⟩
            go_wp2_with fail
            go_roundw
            case rel => exact ⟨j + 1, by omega, by go_num, Lib.hid (D6.out.go b7)⟩
            case measure => simp [intOf]; omega
        · obtain rfl : j = 32 := by omega
          go_wp2_with fail
          go_ret
          exact ⟨rfl, D5.out.2.2.2⟩
    · have hv2 : slVac l < 32 ∧ ¬ 240 < (slSize l : Int) + ((m : Int) + if slVac l = l.length then 1 else 0) := ⟨by omega, fun h => hv (.inr h)⟩
      have vr := VR.out
      rw [if_neg hv] at vr
      rw [vr] at CV
      have hvp := VP.out (slVac l) rfl hv2.1
      rw [if_neg hv2.2] at hvp
      have CP1 := fun w h => CP.out (slVac l : Nat) w h
      rw [hvp] at CP1
      have hodd : (Sl.mk true S).odd = false := by have := Hds.out; simp [Sl.odd]; omega
      obtain ⟨_, _, ho3, _, _⟩ := (slGood_iff lsn l).1 Hg.out
      have hTs : slSize (putL l (slVac l) ⟨true, S⟩) ≤ 240 := by
        refine Nat.le_of_not_lt fun h => ?_
        rw [putRes_go Hg.out hv2.1 hodd, if_pos h] at hvp
        have h22 : (22 : Int) = 0 := congrArg (fun r => r.2.2) hvp
        omega
      have hTg := putL_good Hg.out hv2.1 hodd hTs
      have hQ : slAt lsn (putL l (slVac l) ⟨true, S⟩) (slVac l : Nat) = ⟨true, S⟩ := by
        rw [slAt_getD hTg, putL_getD ho3 _ _ hodd, if_pos rfl]
      obtain ⟨T, hT⟩ : ∃ T, putL l (slVac l) ⟨true, S⟩ = T := ⟨_, rfl⟩
      rw [hT] at CP1 hQ
      have VF2 := VF.out
      obtain ⟨s, hs⟩ : ∃ s, slVac l = s := ⟨_, rfl⟩
      rw [hs] at CP1 hQ VF2 CV VU
      have hs32 : s < 32 := by omega
      have C1 := fun w h => CT.out s w h
      obtain ⟨y, hy⟩ : ∃ y, slAt lsn l s = y := ⟨_, rfl⟩
      rw [hy] at C1 VF2
      obtain ⟨yu, yd⟩ := y
      simp only at C1 VF2
      subst VF2
      have C2 := fun A n c w h => CQ.out lsn A n c T s w h
      rw [hQ] at C2
      simp only at C2
      replace C1 := Lib.hid C1
      replace C2 := Lib.hid C2
      replace CP1 := Lib.hid CP1
      clear hv hv2 vr hvp hodd ho3 hTs hTg hQ hT hs hy VF VP VR VN
      have hfl := slot_used
      go_wp2_with fail
      refine (CV.out _ D3.out.2.2.1).mono ?_
      rintro e w4 ⟨rfl, b4⟩
      have D4 := Lib.hid (D3.out.go b4)
      clear b4 p0 p1 x0 x1 D3
      go_wp2_with fail
      go_loopw [11] (fun i wr => ∃ j : Nat, j ≤ s ∧ i = .int .i64 j ∧ Hid (Duo w lsn A n c l (w2.heap.size + 1) ⟨true, S⟩ wr)) (fun i _ => s - (intOf i).toNat)
      case atStart => exact ⟨0, by omega, rfl, D4⟩
      case round =>
        obtain ⟨j, hj, rfl, D5⟩ := hrel
        obtain ⟨p0, p1, x0, x1⟩ := D5.out.cells
        by_cases hlt : j < s
        · have C3 := fun w h => CT.out j w h
          have vv := VU.out j hlt
          obtain ⟨y, hy⟩ : ∃ y, slAt lsn l j = y := ⟨_, rfl⟩
          rw [hy] at C3 vv
          obtain ⟨yu, yd⟩ := y
          simp only at C3 vv
          subst vv
          replace C3 := Lib.hid C3
          clear hy
          go_wp2_with fail
          refine (C3.out _ D5.out.2.2.1).mono ?_
          rintro e w7 ⟨rfl, b7⟩
          go_wp2_with fail
          go_roundw
          case rel => exact ⟨j + 1, by omega, by go_num, Lib.hid (D5.out.go b7)⟩
          case measure => simp [intOf]; omega
        · obtain rfl : j = s := by omega
          go_wp2_with fail
          refine (CP1.out _ D5.out.2.2.1).mono ?_
          rintro e w5 ⟨A5, n5, c5, rfl, I5, b5⟩
          have D6 := Lib.hid ((D5.out.go b5).go (bnew w5 (.cells #[.int .i64 lsn, .slice A5 n5 c5] 24)))
          have Q6 := Lib.hid (Has.new w5 (.cells #[.int .i64 lsn, .slice A5 n5 c5] 24))
          have I6 := Lib.hid (I5.alloc (.cells #[.int .i64 lsn, .slice A5 n5 c5] 24))
          clear p0 p1 x0 x1 I5 b5 D5
          go_upto_region 21 with (fail)
          generalize World.alloc w5 _ = w6 at D6 Q6 I6 ⊢
          obtain ⟨p0, p1, x0, x1⟩ := D6.out.cells
          have p0 := cell_regrown p0
          have p1 := cell_regrown p1
          have x0 := cell_regrown x0
          have x1 := cell_regrown x1
          have q0 := cell_regrown (Q6.out.cell 0 _ rfl)
          have q1 := cell_regrown (Q6.out.cell 1 _ rfl)
          have c1 := fun d os => Calls.regrown_of (C1.out (grow (redrawn w6 d) os) (D6.out.2.2.1.below (below_regrown _ _ _)))
          have c2 := fun d os => Calls.regrown_of (C2.out A5 n5 c5 (grow (redrawn w6 d) os) (I6.out.below (below_regrown _ _ _)))
          have CE := fun w => slEqBin ⟨true, S⟩ ⟨true, S⟩ w
          rw [(slEq_iff (Sl.mk true S) ⟨true, S⟩).2 rfl] at CE
          simp only at CE
          refine wp_region_quiet_below (by kernel_rfl) (by kernel_rfl) ?_
          repeat (quiet_step (first | (with_reducible exact c1 _ _) | (with_reducible exact c2 _ _)))
          refine wpQuiet_nil ?_
          intro _ hw7
          obtain ⟨⟨dq, osq⟩, hw8⟩ := hw7
          subst hw8
          go_wp2_with fail
          go_ret
          exact ⟨rfl, bup D6.out.2.2.2 (below_regrown _ _ _)⟩
  · have hno : g1 = true ∨ (g1 = false ∧ g2 = false) ∨ (g1 = false ∧ g2 = true ∧ k < 0) ∨ (g1 = false ∧ g2 = true ∧ ¬ k < 0 ∧ 200 < k) := by
      cases g1 <;> cases g2 <;> simp at hgo ⊢
      by_cases hk : k < 0
      · exact .inl hk
      · exact .inr ⟨by omega, hgo (by omega)⟩
    clear hgo hg1 hg2
    rcases hno with rfl | ⟨rfl, rfl⟩ | ⟨rfl, rfl, hk⟩ | ⟨rfl, rfl, hk, hk2⟩
    · go_enter Try.func7, Try.ntmps7
      go_wp2_with fail
      refine (CA.out _).mono ?_
      rintro e w0 ⟨rfl, b0⟩
      have P0 := (Has.new w _).below b0
      have p0 := P0.cell 0 _ rfl
      have p1 := P0.cell 1 _ rfl
      go_wp2_with fail
      refine (CR.out _ ((H.out.alloc _).below b0)).mono ?_
      rintro e w1 ⟨rfl, b1⟩
      go_wp2_with fail
      go_ret
      exact ⟨rfl, bup (bup (bnew w _) b0) b1⟩
    all_goals
      go_enter Try.func7, Try.ntmps7
      go_wp2_with fail
      refine (CA.out _).mono ?_
      rintro e w0 ⟨rfl, b0⟩
      have P0 := (Has.new w _).below b0
      have p0 := P0.cell 0 _ rfl
      have p1 := P0.cell 1 _ rfl
      go_wp2_with fail
      refine (CR.out _ ((H.out.alloc _).below b0)).mono ?_
      rintro e w1 ⟨rfl, b1⟩
      have P1 := P0.below b1
      clear p0 p1
      have p0 := P1.cell 0 _ rfl
      have p1 := P1.cell 1 _ rfl
      go_wp2_with fail
      refine (CG.out _ (((H.out.alloc _).below b0).below b1)).mono ?_
      rintro e w2 ⟨rfl, b2⟩
      go_wp2_with fail
      go_ret
      exact ⟨rfl, bup (bup (bup (bnew w _) b0) b1) b2⟩
end Go.Proofs.Ytklmoigpalhlmaa
