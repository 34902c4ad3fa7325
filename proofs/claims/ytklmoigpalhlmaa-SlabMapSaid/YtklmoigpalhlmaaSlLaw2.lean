/-
  The walks of the statements of layer 3: what a put keeps.
-/
import Derived.Test.YtklmoigpalhlmaaSlLaw0
import Derived.Test.YtklmoigpalhlmaaSlJ
import Derived.Deep.RegionHeld3
import Derived.Lib.QuietBelow
import Derived.Deep.DrawnRows
namespace Go.Proofs.Ytklmoigpalhlmaa
open Go.RowKit Go.Sort
set_option linter.unusedVariables false
set_option linter.unusedSimpArgs false
attribute [local go_sem ↓] Go.wp_at_zero Go.wp_at_succ

theorem getD_odd {l : List Sl} (h : l.any Sl.odd = false) (k : Nat) : (l.getD k Sl.none).odd = false := by
  rw [List.getD_eq_getElem?_getD]
  cases hk : l[k]? with
  | none => decide +kernel
  | some y => have := List.any_eq_false.1 h y (List.mem_of_getElem? hk); simpa using this
theorem close_set {W w6 : World} {g : Nat} {L : List Sl} {A6 B : Option Addr} {n6 c6 m k : Nat} {r z : Int} (s6 : Below W.heap.size W w6) (hg : W.heap.size ≤ g) (k6 : Has w6 g (.cells #[.int .i64 z, .slice B m k] 24)) (I6 : IsSlots w6 A6 n6 c6 L) :
    Hid (Has ((w6.setCell ⟨g, 0, none⟩ (.int .i64 r)).setCell ⟨g, 1, none⟩ (.slice A6 n6 c6)) g (.cells #[.int .i64 r, .slice A6 n6 c6] 24)) ∧ Hid (IsSlots ((w6.setCell ⟨g, 0, none⟩ (.int .i64 r)).setCell ⟨g, 1, none⟩ (.slice A6 n6 c6)) A6 n6 c6 L) ∧
      Hid (Below W.heap.size W ((w6.setCell ⟨g, 0, none⟩ (.int .i64 r)).setCell ⟨g, 1, none⟩ (.slice A6 n6 c6))) := by
  have hb := (But.set g 0 w6 (.int .i64 r)).trans (But.set g 1 (w6.setCell ⟨g, 0, none⟩ (.int .i64 r)) (.slice A6 n6 c6))
  exact ⟨Lib.hid ((k6.set 0 _).set 1 _), Lib.hid (I6.apart k6 hb), Lib.hid (s6.trans (hb.below hg s6.size))⟩
theorem close_new {W w6 : World} {L : List Sl} {A6 : Option Addr} {n6 c6 : Nat} {r : Int} (s6 : Below W.heap.size W w6) (I6 : IsSlots w6 A6 n6 c6 L) :
    Hid (Has (w6.alloc (.cells #[.int .i64 r, .slice A6 n6 c6] 24)) w6.heap.size (.cells #[.int .i64 r, .slice A6 n6 c6] 24)) ∧ Hid (IsSlots (w6.alloc (.cells #[.int .i64 r, .slice A6 n6 c6] 24)) A6 n6 c6 L) ∧
      Hid (Below W.heap.size W (w6.alloc (.cells #[.int .i64 r, .slice A6 n6 c6] 24))) :=
  ⟨Lib.hid (Has.new _ _), Lib.hid (I6.alloc _), Lib.hid (bup s6 (bnew _ _))⟩
set_option maxRecDepth 100000 in
set_option maxHeartbeats 8000000 in
theorem SlabKeeps_walk (lsn : Int) (A : Option Addr) (n c : Nat) (l : List Sl) (w : World) (I : IsSlots w A n c l) (_ : (Lit.int .i64 lsn).wf = true) (slot : Int) (_ : (Lit.int .i64 slot).wf = true) (x : Sl) (hx : x.d.size ≤ 140737488351232) :
    Calls Try.prog 6 #[.agg #[.int .i64 lsn, .slice A n c], .int .i64 slot, .agg #[.bool x.u, .string x.d]] w fun e w' => e = .returned (.bool true) ∧ Below w.heap.size w w' := by
  have CA := Lib.hid (fun w => slabAwake_any w)
  have CR := Lib.hid (fun w h => great_any lsn A n c l w h)
  have CG := Lib.hid (fun w h => pgood_any lsn A n c l w h)
  have H := Lib.hid I
  clear I
  obtain ⟨g1, hg1⟩ : ∃ g, slGreat l = g := ⟨_, rfl⟩
  obtain ⟨g2, hg2⟩ : ∃ g, slGood lsn l = g := ⟨_, rfl⟩
  rw [hg1] at CR
  rw [hg2] at CG
  by_cases hgo : g1 = false ∧ g2 = true
  · obtain ⟨rfl, rfl⟩ := hgo
    have CP := fun w h => pput_any lsn A n c l slot x w h hx
    have CA1 := Lib.hid (fun k w h => pat_any lsn A n c l k w h)
    have CA2 := Lib.hid (fun r A n c T k w h => pat_any r A n c T k w h)
    have CS := Lib.hid (fun A2 n2 c2 w h h2 => psame_any 0 A2 n2 c2 [] 0 none 0 0 [] w h h2)
    have hno : (putRes lsn l slot x).2.2 ≠ 0 → (putRes lsn l slot x).1 = 0 ∧ (putRes lsn l slot x).2.1 = [] := putRes_not
    have hok : (putRes lsn l slot x).2.2 = 0 → _ := putRes_ok (lsn := lsn) (l := l) (k := slot) (x := x)
    obtain ⟨R, hR⟩ : ∃ R, putRes lsn l slot x = R := ⟨_, rfl⟩
    rw [hR] at CP hno hok
    obtain ⟨r0, T, er⟩ := R
    simp only at hno hok
    have Hno := Lib.hid hno
    have Hok := Lib.hid hok
    replace CP := Lib.hid CP
    have Hg := Lib.hid hg2
    clear hg1 hg2 hno hok hR
    go_enter Try.func6, Try.ntmps6
    go_wp2_with fail
    refine (CA.out _).mono ?_
    rintro e w0 ⟨rfl, b0⟩
    have P0 := ((Has.new w _).alloc _).below b0
    have X0 := (Has.new1 w _ _).below b0
    have p0 := P0.cell 0 _ rfl
    have p1 := P0.cell 1 _ rfl
    have B0 := Lib.hid (bup (bup (bnew w _) (bnew _ _)) b0)
    have H0 := Lib.hid (H.out.below B0.out)
    replace P0 := Lib.hid P0
    replace X0 := Lib.hid X0
    clear b0
    go_wp2_with fail
    refine (CR.out _ H0.out).mono ?_
    rintro e w1 ⟨rfl, b1⟩
    have P1 := Lib.hid (P0.out.below b1)
    have X1 := Lib.hid (X0.out.below b1)
    have H1 := Lib.hid (H0.out.below b1)
    have B1 := Lib.hid (bup B0.out b1)
    clear p0 p1 P0 H0 B0 b1 X0
    have p0 := P1.out.cell 0 _ rfl
    have p1 := P1.out.cell 1 _ rfl
    go_wp2_with fail
    refine (CG.out _ H1.out).mono ?_
    rintro e w2 ⟨rfl, b2⟩
    have P2 := Lib.hid (P1.out.below b2)
    have X2 := Lib.hid (X1.out.below b2)
    have H2 := Lib.hid (H1.out.below b2)
    have B2 := Lib.hid (bup B1.out b2)
    clear p0 p1 P1 H1 B1 b2 X1
    have p0 := P2.out.cell 0 _ rfl
    have p1 := P2.out.cell 1 _ rfl
    have x0 := X2.out.cell 0 _ rfl
    have x1 := X2.out.cell 1 _ rfl
    go_wp2_with fail
    refine (CP.out _ H2.out).mono ?_
    rintro e w3 ⟨A3, n3, c3, rfl, I3, b3⟩
    have P3 := Lib.hid ((P2.out.below b3).alloc (.cells #[.int .i64 r0, .slice A3 n3 c3] 24))
    have X3 := Lib.hid ((X2.out.below b3).alloc (.cells #[.int .i64 r0, .slice A3 n3 c3] 24))
    have Q3 := Lib.hid (Has.new w3 (.cells #[.int .i64 r0, .slice A3 n3 c3] 24))
    have H3 := Lib.hid ((H2.out.below b3).alloc (.cells #[.int .i64 r0, .slice A3 n3 c3] 24))
    have I3' := Lib.hid (I3.alloc (.cells #[.int .i64 r0, .slice A3 n3 c3] 24))
    have B3 := Lib.hid (bup (bup B2.out b3) (bnew w3 (.cells #[.int .i64 r0, .slice A3 n3 c3] 24)))
    clear p0 p1 x0 x1 P2 H2 B2 b3 X2 I3
    go_upto_region 6 with (fail)
    generalize hw4 : World.alloc w3 _ = w4
    rw [hw4] at P3 X3 Q3 H3 I3' B3
    have hq4 : w3.heap.size < w4.heap.size := Q3.out.lt
    have hp4 : w.heap.size < w4.heap.size := P3.out.lt
    clear hw4
    by_cases he : er = 0
    · obtain ⟨_, hs0, hs1, hodd, hsz, heq⟩ := Hok.out he
      simp only [Prod.mk.injEq] at heq
      obtain ⟨hr, hT, _⟩ := heq
      obtain ⟨k, rfl⟩ : ∃ k : Nat, slot = k := ⟨slot.toNat, by omega⟩
      rw [Int.toNat_natCast] at hT hsz
      subst hr he
      have hk : k < 32 := by omega
      have hTg : slGood r0 T = true := by rw [hT]; exact putL_good Hg.out hk hodd hsz
      obtain ⟨_, _, ho3, _, _⟩ := (slGood_iff r0 l).1 Hg.out
      have HZ : Hid (∀ j : Nat, slAt r0 T j = if j = k then x else slAt r0 l j) := Lib.hid (fun j => by
        rw [slAt_getD hTg, hT, putL_getD ho3 k j hodd, slAt_getD Hg.out])
      have CP2 : Hid (∀ w, IsSlots w A3 n3 c3 T → Calls Try.prog 20 #[.agg #[.int .i64 r0, .slice A3 n3 c3], .int .i64 k, .agg #[.bool (slAt r0 l k).u, .string (slAt r0 l k).d]] w (PageOut (r0, l, 0) w)) := Lib.hid (fun w h => by
        have hy : (slAt r0 l k).odd = false := by rw [slAt_getD Hg.out]; exact getD_odd ho3 k
        have := pput_any r0 A3 n3 c3 T k (slAt r0 l k) w h (by have := odd_size hy; omega)
        have hbk : putL T k (slAt r0 l k) = l := by rw [slAt_getD Hg.out, hT]; exact putL_back Hg.out k hodd
        have h240 := ((slGood_iff r0 l).1 Hg.out).2.2.2.2
        rw [putRes_go hTg hk hy, hbk, if_neg (by omega)] at this
        exact this)
      have CQ := Lib.hid (fun w h => pgood_any r0 A3 n3 c3 T w h)
      rw [hTg] at CQ
      have CSM := Lib.hid (fun A2 n2 c2 w h1 h2 => psame_any r0 A2 n2 c2 l r0 A n c l w h1 h2)
      rw [(pgSame_iff r0 r0 l l).2 ⟨rfl, rfl⟩] at CSM
      clear hT hsz hodd hTg ho3 hs0 hs1
      go_wp2_with fail
      go_loopw [9] (fun i wr => ∃ j : Nat, j ≤ 32 ∧ i = .int .i64 j ∧ Hid (Below w4.heap.size w4 wr)) (fun i _ => 32 - (intOf i).toNat)
      case atStart => exact ⟨0, by omega, rfl, Lib.hid (Below.refl _ _)⟩
      case round =>
        obtain ⟨j, hj, rfl, Hb⟩ := hrel
        have P5 := Lib.hid (P3.out.below Hb.out)
        have X5 := Lib.hid (X3.out.below Hb.out)
        have Q5 := Lib.hid (Q3.out.below Hb.out)
        have H5 := Lib.hid (H3.out.below Hb.out)
        have I5 := Lib.hid (I3'.out.below Hb.out)
        have p0 := P5.out.cell 0 _ rfl
        have p1 := P5.out.cell 1 _ rfl
        by_cases hlt : j < 32
        · have hz := HZ.out j
          have C1 := fun w h => CA1.out j w h
          obtain ⟨y, hy⟩ : ∃ y, slAt r0 l j = y := ⟨_, rfl⟩
          rw [hy] at hz C1
          replace C1 := Lib.hid C1
          clear hy
          by_cases hjk : j = k
          · rw [if_pos hjk] at hz
            have C2 := fun w h => CA2.out r0 A3 n3 c3 T j w h
            rw [hz] at C2
            replace C2 := Lib.hid C2
            have hb : ((j : Int) == (k : Int)) = true := by simp [hjk]
            clear hz hjk
            go_wp2_with fail
            refine (C1.out _ H5.out).mono ?_
            rintro e w5 ⟨rfl, b5⟩
            have x0 := (X5.out.below b5).cell 0 _ rfl
            have x1 := (X5.out.below b5).cell 1 _ rfl
            have xl := (X5.out.below b5).lt
            go_upto_region 14 with (fail)
            generalize hw6 : World.alloc w5 _ = w6
            have G6 : Has w6 w5.heap.size (.cells #[.bool x.u, .string x.d] 33) := by rw [← hw6]; exact Has.new _ _
            have b6 : Below wr.heap.size wr w6 := by rw [← hw6]; exact bup b5 (bnew _ _)
            clear hw6 x0 x1 xl b5 p0 p1
            have I6 := Lib.hid (I5.out.below b6)
            have q0 := cell_regrown ((Q5.out.below b6).cell 0 _ rfl)
            have q1 := cell_regrown ((Q5.out.below b6).cell 1 _ rfl)
            have e0 := cell_regrown (G6.cell 0 _ rfl)
            have e1 := cell_regrown (G6.cell 1 _ rfl)
            have c1 := fun d os => Calls.regrown_of (C2.out (grow (redrawn w6 d) os) (I6.out.below (below_regrown _ _ _)))
            have CE := fun w => slNeqBin x x w
            rw [(slEq_iff x x).2 rfl] at CE
            refine wp_region_quiet_below (by kernel_rfl) (by kernel_rfl) ?_
            repeat (quiet_step (exact c1 _ _))
            refine wpQuiet_nil ?_
            intro _ hw7
            obtain ⟨⟨dq, osq⟩, hw8⟩ := hw7
            subst hw8
            go_wp2_with fail
            go_roundw
            case rel => exact ⟨j + 1, by omega, by go_num, Lib.hid (bup Hb.out (bup b6 (below_regrown _ _ _)))⟩
            case measure => simp [intOf]; omega
          · rw [if_neg hjk] at hz
            have C2 := fun w h => CA2.out r0 A3 n3 c3 T j w h
            rw [hz] at C2
            replace C2 := Lib.hid C2
            have hb : ((j : Int) == (k : Int)) = false := by simp; omega
            clear hz hjk
            go_wp2_with fail
            refine (C1.out _ H5.out).mono ?_
            rintro e w5 ⟨rfl, b5⟩
            go_upto_region 14 with (fail)
            generalize hw6 : World.alloc w5 _ = w6
            have G6 : Has w6 w5.heap.size (.cells #[.bool y.u, .string y.d] 33) := by rw [← hw6]; exact Has.new _ _
            have b6 : Below wr.heap.size wr w6 := by rw [← hw6]; exact bup b5 (bnew _ _)
            clear hw6 b5 p0 p1
            have I6 := Lib.hid (I5.out.below b6)
            have q0 := cell_regrown ((Q5.out.below b6).cell 0 _ rfl)
            have q1 := cell_regrown ((Q5.out.below b6).cell 1 _ rfl)
            have e0 := cell_regrown (G6.cell 0 _ rfl)
            have e1 := cell_regrown (G6.cell 1 _ rfl)
            have c1 := fun d os => Calls.regrown_of (C2.out (grow (redrawn w6 d) os) (I6.out.below (below_regrown _ _ _)))
            have CE := fun w => slNeqBin y y w
            rw [(slEq_iff y y).2 rfl] at CE
            refine wp_region_quiet_below (by kernel_rfl) (by kernel_rfl) ?_
            repeat (quiet_step (exact c1 _ _))
            refine wpQuiet_nil ?_
            intro _ hw7
            obtain ⟨⟨dq, osq⟩, hw8⟩ := hw7
            subst hw8
            go_wp2_with fail
            go_roundw
            case rel => exact ⟨j + 1, by omega, by go_num, Lib.hid (bup Hb.out (bup b6 (below_regrown _ _ _)))⟩
            case measure => simp [intOf]; omega
        · obtain rfl : j = 32 := by omega
          have C1 := Lib.hid (fun w h => CA1.out k w h)
          have BB := Lib.hid (B3.out.trans (Hb.out.mono B3.out.size))
          have hq5 := Q5.out.lt
          have hp5 := P5.out.lt
          have hq6 : w3.heap.size < wr.heap.size + 1 := by omega
          have hp6 : w.heap.size < wr.heap.size + 1 := by omega
          clear Hb X5 P3 X3 Q3 H3 I3' B3 hq4 hp4 CA1 CA2 HZ
          have q0 := Q5.out.cell 0 _ rfl
          have q1 := Q5.out.cell 1 _ rfl
          go_upto_region 16 with (fail)
          have HK : Hid (∀ w', Below wr.heap.size wr w' → (Below wr.heap.size wr w' ∧ w'.cell? ⟨w3.heap.size, 0, none⟩ = some (.int .i64 r0) ∧ w'.cell? ⟨w3.heap.size, 1, none⟩ = some (.slice A3 n3 c3) ∧ w'.cell? ⟨w.heap.size, 0, none⟩ = some (.int .i64 r0) ∧ w'.cell? ⟨w.heap.size, 1, none⟩ = some (.slice A n c))) := Lib.hid (fun w' h =>
            ⟨h, (h.cell (p := ⟨w3.heap.size, 0, none⟩) hq5).trans q0, (h.cell (p := ⟨w3.heap.size, 1, none⟩) hq5).trans q1, (h.cell (p := ⟨w.heap.size, 0, none⟩) hp5).trans p0, (h.cell (p := ⟨w.heap.size, 1, none⟩) hp5).trans p1⟩)
          go_cut [8, 11] from 49 to 57 (fun v8 v11 wx => ∃ gq A' n' c', v11 = .pointer (some ⟨gq, 0, none⟩) ∧ v8 = .int .i64 0 ∧ Hid (Has wx gq (.cells #[.int .i64 r0, .slice A' n' c'] 24)) ∧ Hid (IsSlots wx A' n' c' l) ∧ Hid (Below wr.heap.size wr wx))
          case first =>
            obtain ⟨z, hz⟩ : ∃ z, slAt r0 l k = z := ⟨_, rfl⟩
            rw [hz] at C1 CP2
            clear hz p0 p1 q0 q1 hq6 hp6
            go_region_held3 (fun w' => Below wr.heap.size wr w' ∧ w'.cell? ⟨w3.heap.size, 0, none⟩ = some (.int .i64 r0) ∧ w'.cell? ⟨w3.heap.size, 1, none⟩ = some (.slice A3 n3 c3) ∧ w'.cell? ⟨w.heap.size, 0, none⟩ = some (.int .i64 r0) ∧ w'.cell? ⟨w.heap.size, 1, none⟩ = some (.slice A n c)) ((refine HK.out _ ?_; first | exact (Below.refl _ _).drew | exact bup (Below.refl _ _).drew (bnew _ _) | exact s6 | exact bup s6 (bnew _ _) | exact Below.setCell (Below.setCell s6 (by first | (simp; done) | (simp; omega) | omega) _) (by first | (simp; done) | (simp; omega) | omega) _ | exact s5 | exact bup s5 (bnew _ _) | exact bup (And.left (by assumption)) (bnew _ _)))
              (first
              | (go_at_call 21; refine (C1.out _ (H5.out.below (And.left (by assumption)))).mono ?_; rintro e w5 ⟨rfl, b5⟩; have s5 : Below wr.heap.size wr w5 := bup (And.left (by assumption)) b5; have z5 := b5.size; (try simp at z5))
              | (go_at_call 20; refine (CP2.out _ (I5.out.below (And.left (by assumption)))).mono ?_; rintro e w6 ⟨A6, n6, c6, rfl, I6, b6⟩; have s6 : Below wr.heap.size wr w6 := bup (And.left (by assumption)) b6; have z6 := b6.size; (try simp at z6); (first | (have k6 := (Has.new _ _).below b6; have ka := k6.cell 0 _ rfl; have kb := k6.cell 1 _ rfl; have kf := k6.free 0; have kg := k6.free 1) | (have k6 := (((Has.new _ _).drew).below b5).below b6; have ka : w6.cell? ⟨wr.heap.size, 0, none⟩ = some (.int .i64 0) := k6.cell 0 _ rfl; have kb : w6.cell? ⟨wr.heap.size, 1, none⟩ = some (.slice none 0 0) := k6.cell 1 _ rfl; have kf : w6.frozen? ⟨wr.heap.size, 0, none⟩ = false := k6.free 0; have kg : w6.frozen? ⟨wr.heap.size, 1, none⟩ = false := k6.free 1) | skip)))
            all_goals
              go_wp2_with fail
              go_meet
              first
              | exact ⟨_, _, _, _, rfl, rfl, close_new s6 I6⟩
              | exact ⟨_, _, _, _, rfl, rfl, close_set s6 z5 k6 I6⟩
              | exact ⟨_, _, _, _, rfl, rfl, close_set s6 (Nat.le_refl _) k6 I6⟩
          case rest =>
          obtain ⟨gq, A7, n7, c7, rfl, rfl, Hq, I7, B7⟩ := hcut
          have P7 := Lib.hid (P5.out.below B7.out)
          have Q7 := Lib.hid (Q5.out.below B7.out)
          have H7 := Lib.hid (H5.out.below B7.out)
          have I7' := Lib.hid (I5.out.below B7.out)
          have BZ := Lib.hid (BB.out.trans (B7.out.mono BB.out.size))
          clear p0 p1 q0 q1 B7 BB P5 Q5 H5 I5
          have q0 := Q7.out.cell 0 _ rfl
          have q1 := Q7.out.cell 1 _ rfl
          go_wp2_with fail
          refine (CQ.out _ I7'.out).mono ?_
          rintro e w8 ⟨rfl, b8⟩
          clear q0 q1
          have q0 := (Q7.out.below b8).cell 0 _ rfl
          have p0 := (P7.out.below b8).cell 0 _ rfl
          have p1 := (P7.out.below b8).cell 1 _ rfl
          have t0 := (Hq.out.below b8).cell 0 _ rfl
          have t1 := (Hq.out.below b8).cell 1 _ rfl
          have I8 := Lib.hid (I7.out.below b8)
          have H8 := Lib.hid (H7.out.below b8)
          have B8 := Lib.hid (bup BZ.out b8)
          clear b8
          go_wp2_with fail
          refine (CSM.out _ _ _ _ I8.out H8.out).mono ?_
          rintro e w9 ⟨rfl, b9⟩
          go_wp2_with fail
          go_ret
          exact ⟨by simp, bup B8.out b9⟩
    · obtain ⟨rfl, rfl⟩ := Hno.out he
      have hb : (er != 0) = true := by simpa using he
      have q0 := Q3.out.cell 0 _ rfl
      have q1 := Q3.out.cell 1 _ rfl
      clear he
      go_wp2_with fail
      refine (CS.out _ _ _ _ I3'.out (IsSlots.nil _)).mono ?_
      rintro e w5 ⟨rfl, b5⟩
      go_wp2_with fail
      go_ret
      exact ⟨rfl, bup B3.out b5⟩
  · have hno : (g1 = true) ∨ (g1 = false ∧ g2 = false) := by
      cases g1 <;> cases g2 <;> simp_all
    rcases hno with rfl | ⟨rfl, rfl⟩
    · go_enter Try.func6, Try.ntmps6
      go_wp2_with fail
      refine (CA.out _).mono ?_
      rintro e w0 ⟨rfl, b0⟩
      have P0 := ((Has.new w _).alloc _).below b0
      have p0 := P0.cell 0 _ rfl
      have p1 := P0.cell 1 _ rfl
      go_wp2_with fail
      refine (CR.out _ (((H.out.alloc _).alloc _).below b0)).mono ?_
      rintro e w1 ⟨rfl, b1⟩
      go_wp2_with fail
      go_ret
      exact ⟨rfl, bup (bup (bup (bnew w _) (bnew _ _)) b0) b1⟩
    · go_enter Try.func6, Try.ntmps6
      go_wp2_with fail
      refine (CA.out _).mono ?_
      rintro e w0 ⟨rfl, b0⟩
      have P0 := ((Has.new w _).alloc _).below b0
      have p0 := P0.cell 0 _ rfl
      have p1 := P0.cell 1 _ rfl
      go_wp2_with fail
      refine (CR.out _ (((H.out.alloc _).alloc _).below b0)).mono ?_
      rintro e w1 ⟨rfl, b1⟩
      have P1 := P0.below b1
      clear p0 p1
      have p0 := P1.cell 0 _ rfl
      have p1 := P1.cell 1 _ rfl
      go_wp2_with fail
      refine (CG.out _ ((((H.out.alloc _).alloc _).below b0).below b1)).mono ?_
      rintro e w2 ⟨rfl, b2⟩
      go_wp2_with fail
      go_ret
      exact ⟨rfl, bup (bup (bup (bup (bnew w _) (bnew _ _)) b0) b1) b2⟩
end Go.Proofs.Ytklmoigpalhlmaa
