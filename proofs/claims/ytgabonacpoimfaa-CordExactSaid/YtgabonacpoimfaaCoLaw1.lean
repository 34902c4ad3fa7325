/-
  The walk of a statement of layer 12: each answer is the document's.
-/
import Derived.Test.YtgabonacpoimfaaCrAct
import Derived.OpenShut
import Derived.Deep.DrawnRows
import Derived.Deep.RegionHeld3
namespace Go.Proofs.Ytgabonacpoimfaa
open Go.RowKit Go.Sort
set_option linter.unusedVariables false
set_option linter.unusedSimpArgs false
attribute [local go_sem ↓] Go.wp_at_zero Go.wp_at_succ
set_option maxRecDepth 100000 in
set_option maxHeartbeats 60000000 in
theorem CordExact_walk (epoch : Int) (he : (Lit.int .i64 epoch).wf = true) (A : Option Addr) (n c : Nat) (l : List CAct) (w : World) (I : IsRow 8 CAct.row CAct.ok w A n c l) :
    Calls Try.prog 3 #[.int .i64 epoch, .slice A n c] w fun e w' => e = .returned (.bool true) ∧ Below w.heap.size w w' := by
  have CA := Lib.hid (fun w => cordAwake_any w)
  have H := Lib.hid I
  have hcap := I.cap
  have hmost := I.most
  have hbe := bounds_i64 he
  clear I he
  by_cases hbad : epoch < 1 ∨ 1073741824 < epoch
  · go_enter Try.func3, Try.ntmps3
    go_wp2_with fail
    refine (CA.out _).mono ?_
    rintro e w0 ⟨rfl, b0⟩
    have B0 := Lib.hid b0
    clear b0
    go_wp2_with fail
    refine (cnew_bad epoch w0 hbad).mono ?_
    rintro e w1 ⟨rfl, rfl⟩
    go_wp2_with fail
    refine (rnew_bad epoch w0 hbad).mono ?_
    rintro e w1 ⟨rfl, rfl⟩
    go_wp2_with fail
    go_ret
    exact ⟨rfl, B0.out⟩
  · have h1 : 1 ≤ epoch := by omega
    have h2 : epoch ≤ 1073741824 := by omega
    clear hbad
    go_enter Try.func3, Try.ntmps3
    go_wp2_with fail
    refine (CA.out _).mono ?_
    rintro e w0 ⟨rfl, b0⟩
    have B0 := Lib.hid b0
    clear b0 CA
    obtain ⟨F, hF⟩ : ∃ F : Nat → Prop, F = fun k => k < w0.heap.size := ⟨_, rfl⟩
    have H0 : Hid (Held F Emp w0) := Lib.hid (Held.emp (fun k hk => by rw [hF] at hk; exact hk))
    have HFB : Hid (∀ k, k < w0.heap.size → F k) := Lib.hid (fun k hk => by rw [hF]; exact hk)
    clear hF
    go_wp2_with fail
    refine (cnew_any epoch w0 h1 h2).mono ?_
    rintro e w1 ⟨rfl, hw1⟩
    obtain ⟨p, hp⟩ : ∃ p, w0.heap.size + 1 = p := ⟨_, rfl⟩
    rw [hp]
    have H1 : Hid (Held F (Star (EndR p (En.new epoch)) Emp) w1) := Lib.hid (by rw [← hp, ← hw1]; exact H0.out.newEnd Emp.good epoch)
    have B1 : Hid (Below w0.heap.size w0 w1) := Lib.hid (by rw [← hw1]; exact cordWorld_below w0 epoch)
    clear hw1 hp H0
    go_wp2_with fail
    refine (rnew_any epoch w1 h1 h2).mono ?_
    rintro e w2 ⟨rfl, hw2⟩
    obtain ⟨u, hu⟩ : ∃ u, w1.heap.size = u := ⟨_, rfl⟩
    rw [hu]
    have H2 : Hid (Held F (Star (EndR p (En.new epoch)) (Star Emp (RefR u (rfOf (En.new epoch))))) w2) := Lib.hid (by rw [← hu, ← hw2]; exact (H1.out.newRef (Star.good (EndR.good _ _) Emp.good) epoch).rot)
    have B2 : Hid (Below w0.heap.size w0 w2) := Lib.hid (by rw [← hw2]; exact bup B1.out (bnew w1 _))
    have HI := Lib.hid (H.out.below B0.out)
    clear hw2 hu H1 B1 H
    go_wp2_with fail
    go_loopw [7] (fun iv wr => ∃ (k : Nat) (E : En), k ≤ n ∧ k ≤ 150 ∧ iv = .int .i64 k ∧ Hid E.ok ∧ Hid (E.ep = epoch) ∧ Hid (E.gv ≤ k) ∧ Hid (E.tk ≤ k) ∧ Hid (Held F (Star (EndR p E) (Star Emp (RefR u (rfOf E)))) wr) ∧ Hid (Below w0.heap.size w0 wr)) (fun iv _ => n - (intOf iv).toNat)
    case atStart => exact ⟨0, En.new epoch, by omega, by omega, rfl, Lib.hid (En.new_ok epoch), Lib.hid rfl, Lib.hid (Nat.le_refl _), Lib.hid (Nat.le_refl _), H2, B2⟩
    case round =>
      obtain ⟨k, E, hk, hk2, rfl, HOK, HEP, HGV, HTK, HS, HB⟩ := hrel
      clear H2 B2
      by_cases hlt : k < n ∧ k < 150
      · obtain ⟨hlt, hlt2⟩ := hlt
        obtain ⟨b, off, x, rfl, hx, hok, hG⟩ := acts_at HI.out hlt
        have hG0 := hG.below HB.out
        obtain ⟨kd, tx, ⟨c', up, ep, sq, ak, bd⟩⟩ := x
        have hbt : tx.size ≤ 140737488351232 := hok.2.1
        have hbd : bd.size ≤ 140737488351232 := hok.2.2.2.2.2.2
        have hbl : b < wr.heap.size := block_lt_of_cell hG0.k
        have dk := hG0.k
        have dt := hG0.t
        have d0 := hG0.g.a0
        have d1 := hG0.g.a1
        have d2 := hG0.g.a2
        have d3 := hG0.g.a3
        have d4 := hG0.g.a4
        have d5 := hG0.g.a5
        simp only at d0 d1 d2 d3 d4 d5 dk dt
        clear hG hx hG0 hok
        have hk150 : (k : Int) < 150 := by omega
        by_cases hbig : 32768 < tx.size ∨ 32768 < bd.size
        · by_cases hb1 : 32768 < tx.size
          · clear hbig
            go_wp2_with fail
            go_ret
            exact ⟨rfl, B0.out.trans ((bup HB.out (bnew wr _)).mono B0.out.size)⟩
          · have hb2 : 32768 < bd.size := by omega
            have hb1' : tx.size ≤ 32768 := by omega
            clear hbig hb1
            go_wp2_with fail
            go_ret
            exact ⟨rfl, B0.out.trans ((bup HB.out (bnew wr _)).mono B0.out.size)⟩
        · have ht1 : tx.size ≤ 32768 := by omega
          have hd1 : bd.size ≤ 32768 := by omega
          clear hbig
          go_upto_block 2 with (fail)
          have Y3 := Lib.hid (Has.new wr (.cells #[.int .i64 kd, .string tx, .int .i64 c', .bool up, .int .i64 ep, .int .i64 sq, .int .i64 ak, .string bd] 31))
          have gdA : Hid (∀ E', (Star (EndR p E') (Star Emp (RefR u (rfOf E')))).Good) := Lib.hid (fun E' => Star.good (EndR.good _ _) (Star.good Emp.good (RefR.good _ _)))
          have H3 : Hid (Held (fun j => F j ∨ j = wr.heap.size) (Star (EndR p E) (Star Emp (RefR u (rfOf E)))) (wr.alloc (.cells #[.int .i64 kd, .string tx, .int .i64 c', .bool up, .int .i64 ep, .int .i64 sq, .int .i64 ak, .string bd] 31))) := Lib.hid (HS.out.more (gdA.out _) (bnew wr _) (fun j hj => hj.imp id (fun e => by subst e; simp)))
          have B3 := Lib.hid (bup HB.out (bnew wr (.cells #[.int .i64 kd, .string tx, .int .i64 c', .bool up, .int .i64 ep, .int .i64 sq, .int .i64 ak, .string bd] 31)))
          generalize World.alloc wr _ = w3 at Y3 H3 B3 ⊢
          clear d0 d1 d2 d3 d4 d5 dk dt HS hbl
          go_cut [9, 10, 11, 12] from 25 to 135 (fun _ _ _ _ wx => ∃ E' : En, Hid E'.ok ∧ Hid (E'.ep = epoch) ∧ Hid (E'.gv ≤ k + 1) ∧ Hid (E'.tk ≤ k + 1) ∧ Hid (Held F (Star (EndR p E') (Star Emp (RefR u (rfOf E')))) wx) ∧ Hid (Below w0.heap.size w0 wx))
          case first =>
            obtain ⟨F3, hF3⟩ : ∃ F3 : Nat → Prop, F3 = fun j => F j ∨ j = wr.heap.size := ⟨_, rfl⟩
            rw [← hF3] at H3
            have hFx : F3 wr.heap.size := by rw [hF3]; exact .inr rfl
            have HLE : Hid (∀ j, F j → F3 j) := Lib.hid (fun j h => by rw [hF3]; exact .inl h)
            have HFB3 : Hid (∀ j, j < w0.heap.size → F3 j) := Lib.hid (fun j hj => HLE.out j (HFB.out j hj))
            have hgE : E.gv ≤ 1000000 := by have := HGV.out; omega
            have htE : E.tk ≤ 900000 := by have := HTK.out; omega
            have HD := Lib.hid (fun (w' : World) (b : Below w3.heap.size w3 w') => H3.out.below (gdA.out _) b)
            by_cases k1 : (kd == 1) = true
            · obtain ⟨R, hR⟩ : ∃ R, sendE E tx = R := ⟨_, rfl⟩
              have CS : Hid (∀ w', Held F3 (Star (EndR p E) (Star Emp (RefR u (rfOf E)))) w' → Calls Try.prog 11 #[.pointer (some ⟨p, 0, none⟩), .string tx] w' fun e w'' => e = .returned (.int .i64 R.2) ∧ Held F3 (Star (EndR p R.1) (Star Emp (RefR u (rfOf E)))) w'' ∧ KeptF F3 w' w'') := Lib.hid (fun w' h => by
                have := sendH (Star.good Emp.good (RefR.good _ _)) p E tx w' hgE (by have := HOK.out.most; omega) h
                rwa [hR] at this)
              have CR : Hid (∀ w', Held F3 (Star (EndR p R.1) (Star Emp (RefR u (rfOf E)))) w' → Calls Try.prog 12 #[.pointer (some ⟨u, 0, none⟩), .string tx] w' fun e w'' => e = .returned (.int .i64 R.2) ∧ Held F3 (Star (EndR p R.1) (Star Emp (RefR u (rfOf R.1)))) w'' ∧ KeptF F3 w' w'') := Lib.hid (fun w' h => by
                have := rsendH (Star.good (EndR.good p R.1) Emp.good) u E tx w' HOK.out hgE h.rot.rot
                rw [hR] at this
                exact this.mono (fun e w'' ⟨a, b, c⟩ => ⟨a, b.rot, c⟩))
              have HKY : Hid (∀ w', KeptF F3 w3 w' → (fun w' => w'.cell? ⟨wr.heap.size, 1, none⟩ = some (.string tx)) w') := Lib.hid (fun w' k => (Y3.out.keptF k hFx).cell 1 _ rfl)
              have HRE := Lib.hid hR
              clear hR hF3
              go_upto_region 17 with (fail)
              go_region_held3 (fun w' => w'.cell? ⟨wr.heap.size, 1, none⟩ = some (.string tx)) ((refine HKY.out _ ?_; first | exact Kept.of ((Below.refl _ _).drew) | exact s1 | exact s2))
                (first
                | (go_at_call 11; ((with_reducible refine (CS.out _ (HD.out _ ((Below.refl _ _).drew))).mono ?_)); rintro e wA ⟨rfl, hA, kA⟩; have s1 : KeptF F3 w3 wA := (Kept.of ((Below.refl _ _).drew)).trans kA; have hA' := Lib.hid hA; clear hA kA)
                | (go_at_call 12; ((with_reducible refine (CR.out _ hA'.out).mono ?_)); rintro e wB ⟨rfl, hB, kB⟩; have s2 : KeptF F3 w3 wB := s1.trans kB; have hB' := Lib.hid hB; clear hB kB))
              all_goals
                go_wp2_with fail
                go_meet
                have hg1 := (sendE_gv E tx).1
                have hg2 := HGV.out
                have hg3 := HTK.out
                exact ⟨R.1, Lib.hid (by rw [← HRE.out]; exact sendE_ok HOK.out tx), Lib.hid (by rw [← HRE.out, sendE_ep]; exact HEP.out), Lib.hid (by rw [← HRE.out]; omega), Lib.hid (by rw [← HRE.out, sendE_tk]; omega), Lib.hid (hB'.out.less HLE.out), Lib.hid (B3.out.trans (s2.belowB HFB3.out B3.out.size))⟩
            · have k1' : (kd == 1) = false := by simpa using k1
              clear k1
              by_cases k2 : (kd == 2) = true
              · have hGl : (outG E).length ≤ 1000000 := by
                  have := HOK.out.most
                  unfold outG
                  split
                  · rw [gramsF_len]; omega
                  · split <;> simp
                obtain ⟨G, hG⟩ : ∃ G, outG E = G := ⟨_, rfl⟩
                obtain ⟨R, hR⟩ : ∃ R, outE E = R := ⟨_, rfl⟩
                obtain ⟨ob, hob⟩ : ∃ b, owesE E = b := ⟨_, rfl⟩
                rw [hG] at hGl
                obtain ⟨gl, hgl⟩ : ∃ gl, G.length = gl := ⟨_, rfl⟩
                have CO : Hid (∀ w', Held F3 (Star (EndR p E) (Star Emp (RefR u (rfOf E)))) w' → Calls Try.prog 13 #[.pointer (some ⟨p, 0, none⟩)] w' fun e w'' => e = .returned (.bool ob) ∧ w' = w'') := Lib.hid (fun w' h => by
                  have := owesH p E w' h
                  rwa [hob] at this)
                have CS : Hid (∀ w', Held F3 (Star (EndR p E) (Star Emp (RefR u (rfOf E)))) w' → Calls Try.prog 15 #[.pointer (some ⟨p, 0, none⟩)] w' fun e w'' => ∃ A cap, e = .returned (.slice A gl cap) ∧ RowG 0 w'' (.slice A gl cap) G ∧ Held (fun j => F3 j ∨ (Value.slice A gl cap).ownBlock = some j) (Star (EndR p R) (Star Emp (RefR u (rfOf E)))) w'' ∧ KeptF F3 w' w'') := Lib.hid (fun w' h => by
                  have := outH (Star.good Emp.good (RefR.good _ _)) p E w' HOK.out.op hgE h
                  rw [hG, hR, hgl] at this
                  exact this.mono (fun e w'' ⟨A, cap, a, b, _, d, f⟩ => ⟨A, cap, a, b, d, f⟩))
                have CR : Hid (∀ (G' : Nat → Prop) w', Held G' (Star (EndR p R) (Star Emp (RefR u (rfOf E)))) w' → Calls Try.prog 16 #[.pointer (some ⟨u, 0, none⟩)] w' fun e w'' => ∃ A cap, e = .returned (.slice A gl cap) ∧ RowG 0 w'' (.slice A gl cap) G ∧ Held G' (Star (EndR p R) (Star Emp (RefR u (rfOf R)))) w'' ∧ KeptF G' w' w'') := Lib.hid (fun G' w' h => by
                  have := routH (Star.good (EndR.good p R) Emp.good) u E w' HOK.out hgE h.rot.rot
                  rw [hG, hR, hgl] at this
                  exact this.mono (fun e w'' ⟨A, cap, a, b, d, f⟩ => ⟨A, cap, a, b, d.rot, f⟩))
                have CM : Hid (∀ A B c1 c2 w', RowG 0 w' (.slice A gl c1) G → RowG 0 w' (.slice B gl c2) G → Calls Try.prog 14 #[.slice A gl c1, .slice B gl c2] w' fun e w'' => e = .returned (.bool true) ∧ Below w'.heap.size w' w'') := Lib.hid (fun A B c1 c2 w' h1 h2 => same_any A B gl c1 c2 G w' h1 h2 hgl.symm (by omega))
                obtain ⟨rl, re, hN, _⟩ := H3.out.rot.rot.callF (Star.good (EndR.good p E) Emp.good)
                obtain ⟨A7, cap7, B7, cb7, hp7, _, _, _, _, hb7, hb8, _, _⟩ := hN.open
                have hln : (rfOf E).L.length = E.op.length := numF_len _ _
                obtain ⟨m, hm⟩ : ∃ m, E.op.length = m := ⟨_, rfl⟩
                obtain ⟨ow, how⟩ : ∃ b, E.ow = b := ⟨_, rfl⟩
                have q1 : w3.cell? ⟨u, 1, none⟩ = some (.slice A7 m cap7) := by rw [← hm, ← hln]; exact hp7.cell 1 _ rfl
                have q5 : w3.cell? ⟨u, 5, none⟩ = some (.bool ow) := by rw [← how]; exact hp7.cell 5 _ rfl
                have hpl7 := hp7.lt
                rw [hln, hm] at hb7
                have hm32 : m ≤ 32 := by rw [← hm]; exact HOK.out.most
                have key : (0 < m ∧ ob = true) ∨ (m = 0 ∧ ob = ow) := by
                  rw [← hob, ← hm, ← how]
                  unfold owesE
                  by_cases h0 : 0 < E.op.length
                  · exact .inl ⟨h0, by simp [h0]⟩
                  · exact .inr ⟨by omega, by simp [h0]⟩
                have HRE := Lib.hid hR
                clear hR hG hob hgl hGl hp7 hN hln hm how hF3
                have fin : Hid (∀ wB wC : World, Held F3 (Star (EndR p R) (Star Emp (RefR u (rfOf R)))) wB → KeptF F3 w3 wB → Below wB.heap.size wB wC → ∃ E' : En, Hid E'.ok ∧ Hid (E'.ep = epoch) ∧ Hid (E'.gv ≤ k + 1) ∧ Hid (E'.tk ≤ k + 1) ∧ Hid (Held F (Star (EndR p E') (Star Emp (RefR u (rfOf E')))) wC) ∧ Hid (Below w0.heap.size w0 wC)) := Lib.hid (fun wB wC hB kB bC => ⟨R, Lib.hid (by rw [← HRE.out]; exact outE_ok HOK.out), Lib.hid (by rw [← HRE.out]; exact HEP.out), Lib.hid (by rw [← HRE.out]; have := HGV.out; show E.gv ≤ k + 1; omega), Lib.hid (by rw [← HRE.out]; have := HTK.out; show E.tk ≤ k + 1; omega), Lib.hid ((hB.below (gdA.out _) bC).less HLE.out), Lib.hid (B3.out.trans ((kB.belowB HFB3.out B3.out.size).trans (bC.mono (Nat.le_trans B3.out.size kB.size))))⟩)
                clear HOK HEP HGV HTK
                rcases key with ⟨hm0, rfl⟩ | ⟨rfl, rfl⟩
                · skip
                  have hd1 : decide ((0 : Int) < (m : Int)) = true := by simp; omega
                  have hd2 : decide (0 < m) = true := by simp; omega
                  go_upto_region 20 with (fail)
                  first | (go_region_with
                    (first
                    | (go_at_call 13; ((with_reducible refine (CO.out _ (HD.out _ ((Below.refl _ _).drew))).mono ?_)); rintro e wO ⟨rfl, rfl⟩)
                    | (go_at_call 15; ((with_reducible refine (CS.out _ (HD.out _ ((Below.refl _ _).drew))).mono ?_)); rintro e wA ⟨A1, c1, rfl, r1, hA, kA⟩; have s1 : KeptF F3 w3 wA := (Kept.of ((Below.refl _ _).drew)).trans kA; have hA' := Lib.hid hA; have r1' := Lib.hid r1; clear hA kA r1)
                    | (go_at_call 16; ((with_reducible refine (CR.out _ _ hA'.out).mono ?_)); rintro e wB ⟨A2, c2, rfl, r2, hB, kB⟩; have s2 : KeptF F3 w3 wB := s1.trans (kB.mono (fun j h1 h2 => h1 (.inl h2))); have r1'' := Lib.hid (r1'.out.held kB (fun g e1 e2 => e2 (.inr e1))); have r2' := Lib.hid r2; have hB' := Lib.hid (hB.less (G := F3) (fun j h => .inl h)); clear hB kB r2)
                    | (go_at_call 14; ((with_reducible refine (CM.out _ _ _ _ _ r1''.out r2'.out).mono ?_)); rintro e wC ⟨rfl, bC⟩))) | fail
                  all_goals
                    go_wp2_with fail
                    go_meet
                    exact fin.out _ _ hB'.out s2 bC

                · skip
                  have hoo : (ob != ob) = false := by cases ob <;> rfl
                  go_upto_region 20 with (fail)
                  go_region_with
                    (first
                    | (go_at_call 13; ((with_reducible refine (CO.out _ (HD.out _ ((Below.refl _ _).drew))).mono ?_)); rintro e wO ⟨rfl, rfl⟩)
                    | (go_at_call 15; ((with_reducible refine (CS.out _ (HD.out _ ((Below.refl _ _).drew))).mono ?_)); rintro e wA ⟨A1, c1, rfl, r1, hA, kA⟩; have s1 : KeptF F3 w3 wA := (Kept.of ((Below.refl _ _).drew)).trans kA; have hA' := Lib.hid hA; have r1' := Lib.hid r1; clear hA kA r1)
                    | (go_at_call 16; ((with_reducible refine (CR.out _ _ hA'.out).mono ?_)); rintro e wB ⟨A2, c2, rfl, r2, hB, kB⟩; have s2 : KeptF F3 w3 wB := s1.trans (kB.mono (fun j h1 h2 => h1 (.inl h2))); have r1'' := Lib.hid (r1'.out.held kB (fun g e1 e2 => e2 (.inr e1))); have r2' := Lib.hid r2; have hB' := Lib.hid (hB.less (G := F3) (fun j h => .inl h)); clear hB kB r2)
                    | (go_at_call 14; ((with_reducible refine (CM.out _ _ _ _ _ r1''.out r2'.out).mono ?_)); rintro e wC ⟨rfl, bC⟩))
                  all_goals
                    go_wp2_with fail
                    go_meet
                    exact fin.out _ _ hB'.out s2 bC

              · have k2' : (kd == 2) = false := by simpa using k2
                clear k2
                by_cases k3 : (kd == 3) = true
                · obtain ⟨R, hR⟩ : ∃ R, takeE E (⟨c', up, ep, sq, ak, bd⟩ : Gr) = R := ⟨_, rfl⟩
                  have CT : Hid (∀ w', Held F3 (Star (EndR p E) (Star Emp (RefR u (rfOf E)))) w' → Calls Try.prog 17 #[.pointer (some ⟨p, 0, none⟩), .agg #[.int .i64 c', .bool up, .int .i64 ep, .int .i64 sq, .int .i64 ak, .string bd]] w' fun e w'' => ∃ A cap, e = .returned (.tuple #[.slice A R.2.1.length cap, .int .i64 R.2.2]) ∧ SRow w'' (.slice A R.2.1.length cap) R.2.1 ∧ Held (fun j => F3 j ∨ (Value.slice A R.2.1.length cap).ownBlock = some j) (Star (EndR p R.1) (Star Emp (RefR u (rfOf E)))) w'' ∧ KeptF F3 w' w'') := Lib.hid (fun w' h => by
                    have := takeH (Star.good Emp.good (RefR.good _ _)) p E ⟨c', up, ep, sq, ak, bd⟩ w' HOK.out hgE (by omega) h
                    rw [hR] at this
                    exact this.mono (fun e w'' ⟨A, cap, a, b, _, d, f⟩ => ⟨A, cap, a, b, d, f⟩))
                  have CU : Hid (∀ (G : Nat → Prop) w', Held G (Star (EndR p R.1) (Star Emp (RefR u (rfOf E)))) w' → Calls Try.prog 18 #[.pointer (some ⟨u, 0, none⟩), .agg #[.int .i64 c', .bool up, .int .i64 ep, .int .i64 sq, .int .i64 ak, .string bd]] w' fun e w'' => ∃ A cap, e = .returned (.tuple #[.slice A R.2.1.length cap, .int .i64 R.2.2]) ∧ SRow w'' (.slice A R.2.1.length cap) R.2.1 ∧ Held G (Star (EndR p R.1) (Star Emp (RefR u (rfOf R.1)))) w'' ∧ KeptF G w' w'') := Lib.hid (fun G w' h => by
                    have := rtakeH (Star.good (EndR.good p R.1) Emp.good) u E ⟨c', up, ep, sq, ak, bd⟩ w' HOK.out hgE htE h.rot.rot
                    rw [hR] at this
                    exact this.mono (fun e w'' ⟨A, cap, a, b, d, f⟩ => ⟨A, cap, a, b, d.rot, f⟩))
                  have HRE := Lib.hid hR
                  have y2 := Y3.out.cell 2 _ rfl
                  have y3 := Y3.out.cell 3 _ rfl
                  have y4 := Y3.out.cell 4 _ rfl
                  have y5 := Y3.out.cell 5 _ rfl
                  have y6 := Y3.out.cell 6 _ rfl
                  have y7 := Y3.out.cell 7 _ rfl
                  clear hR hF3
                  go_wp2_with fail
                  refine (CT.out _ H3.out).mono ?_
                  rintro e wA ⟨A5, cap5, rfl, r5, hA, kA⟩
                  have YA := Y3.out.keptF kA hFx
                  have y2 := YA.cell 2 _ rfl
                  have y3 := YA.cell 3 _ rfl
                  have y4 := YA.cell 4 _ rfl
                  have y5 := YA.cell 5 _ rfl
                  have y6 := YA.cell 6 _ rfl
                  have y7 := YA.cell 7 _ rfl
                  have HA := Lib.hid hA
                  have KA := Lib.hid kA
                  have R5 := Lib.hid r5
                  clear hA kA r5 YA
                  go_wp2_with fail
                  refine (CU.out _ _ HA.out).mono ?_
                  rintro e wB ⟨A6, cap6, rfl, r6, hB, kB⟩
                  have R6 := Lib.hid r6
                  have R5' := Lib.hid (R5.out.held kB (fun g e1 e2 => e2 (.inr e1)))
                  have HBB := Lib.hid hB
                  have KB : Hid (KeptF F3 w3 wB) := Lib.hid (KA.out.trans (kB.mono (fun j h1 h2 => h1 (.inl h2))))
                  obtain ⟨m, hm⟩ : ∃ m, R.2.1.length = m := ⟨_, rfl⟩
                  rw [hm] at R6 R5'
                  rw [hm]
                  obtain ⟨er, her⟩ : ∃ er, R.2.2 = er := ⟨_, rfl⟩
                  rw [her]
                  have CX := Lib.hid (texts_any A5 A6 m cap5 cap6 R.2.1 wB R5'.out R6.out hm.symm)
                  have hm2 : m ≤ 9223372036854775807 := by
                    obtain ⟨_, _, e1, e2, e3⟩ := R6.out.form
                    cases e1
                    omega
                  clear r6 hB kB y2 y3 y4 y5 y6 y7
                  go_wp2_with fail
                  refine (CX.out hm2).mono ?_
                  rintro e wC ⟨rfl, bC⟩
                  go_wp2_with fail
                  go_meet
                  have hg1 := takeE_gv E (⟨c', up, ep, sq, ak, bd⟩ : Gr)
                  have hg4 := takeE_tk E (⟨c', up, ep, sq, ak, bd⟩ : Gr)
                  have hg2 := HGV.out
                  have hg3 := HTK.out
                  exact ⟨R.1, Lib.hid (by rw [← HRE.out]; exact takeE_ok HOK.out _), Lib.hid (by rw [← HRE.out, takeE_ep]; exact HEP.out), Lib.hid (by rw [← HRE.out]; omega), Lib.hid (by rw [← HRE.out]; omega), Lib.hid ((HBB.out.below (gdA.out _) bC).less (fun j h => .inl (HLE.out j h))), Lib.hid (B3.out.trans ((KB.out.belowB HFB3.out B3.out.size).trans (bC.mono (Nat.le_trans B3.out.size KB.out.size))))⟩
                · have k3' : (kd == 3) = false := by simpa using k3
                  clear k3
                  go_wp2_with fail
                  go_meet
                  have hg2 := HGV.out
                  have hg3 := HTK.out
                  exact ⟨E, HOK, HEP, Lib.hid (by omega), Lib.hid (by omega), Lib.hid (H3.out.less HLE.out), B3⟩
          case rest =>
            obtain ⟨E', HOK', HEP', HGV', HTK', HS', HB'⟩ := hcut
            clear HOK HEP HGV HTK Y3 H3 B3 HB
            obtain ⟨rl, re, hN, _⟩ := HS'.out.rot.rot.callF (Star.good (EndR.good p E') Emp.good)
            obtain ⟨A7, cap7, B7, cb7, hp7, _, _, _, _, hb7, hb8, _, _⟩ := hN.open
            have hln : (rfOf E').L.length = E'.op.length := numF_len _ _
            obtain ⟨m, hm⟩ : ∃ m, E'.op.length = m := ⟨_, rfl⟩
            obtain ⟨gg, hgg⟩ : ∃ gg, E'.gt = gg := ⟨_, rfl⟩
            have q3 : wc.cell? ⟨u, 3, none⟩ = some (.int .i64 (gg : Int)) := by rw [← hgg]; exact hp7.cell 3 _ rfl
            have q1 : wc.cell? ⟨u, 1, none⟩ = some (.slice A7 m cap7) := by rw [← hm, ← hln]; exact hp7.cell 1 _ rfl
            have hpl7 := hp7.lt
            rw [hln, hm] at hb7
            have hm32 : m ≤ 32 := by rw [← hm]; exact HOK'.out.most
            have HDW := Lib.hid (fun x => HS'.out.below (gdA.out _) (draws_below wc x))
            have CO : Hid (∀ x, Calls Try.prog 20 #[.pointer (some ⟨p, 0, none⟩)] (wc.drewN x) fun e w'' => e = .returned (.int .i64 (m : Int)) ∧ ∃ y, w'' = wc.drewN y) := Lib.hid (fun x => by
              have := openH p E' (wc.drewN x) (HDW.out x)
              rw [hm] at this
              exact this.mono (fun e w'' ⟨a, b⟩ => ⟨a, x, b.symm⟩))
            have CG : Hid (∀ x, Calls Try.prog 21 #[.pointer (some ⟨p, 0, none⟩)] (wc.drewN x) fun e w'' => e = .returned (.int .i64 (gg : Int)) ∧ ∃ y, w'' = wc.drewN y) := Lib.hid (fun x => by
              have := gotH p E' (wc.drewN x) (HDW.out x)
              rw [hgg] at this
              exact this.mono (fun e w'' ⟨a, b⟩ => ⟨a, x, b.symm⟩))
            have CP : Hid (∀ x, Calls Try.prog 22 #[.pointer (some ⟨p, 0, none⟩)] (wc.drewN x) fun e w'' => e = .returned (.int .i64 epoch) ∧ ∃ y, w'' = wc.drewN y) := Lib.hid (fun x => by
              have := epochH p E' (wc.drewN x) (HDW.out x)
              rw [HEP'.out] at this
              exact this.mono (fun e w'' ⟨a, b⟩ => ⟨a, x, b.symm⟩))
            clear hp7 hN hln hm hgg
            go_upto_region 27 with (fail)
            go_quiet ((first | (go_at_call 20; exact CO.out _) | (go_at_call 21; exact CG.out _) | (go_at_call 22; exact CP.out _)))
            go_wp2_with fail
            go_roundw
            case rel => exact ⟨k + 1, E', by omega, by omega, by go_num, HOK', HEP', HGV', HTK', Lib.hid (HS'.out.below (gdA.out _) (draws_below _ _)), Lib.hid (HB'.out.trans ((draws_below _ _).mono HB'.out.size))⟩
            case measure => simp [intOf]; omega
      · by_cases h3 : k < n
        · have h4 : k = 150 := by omega
          subst h4
          clear hlt HI
          go_wp2_with fail
          go_ret
          exact ⟨rfl, B0.out.trans (HB.out.mono B0.out.size)⟩
        · have h4 : k = n := by omega
          subst h4
          clear hlt h3 HI
          go_wp2_with fail
          go_ret
          exact ⟨rfl, B0.out.trans (HB.out.mono B0.out.size)⟩
end Go.Proofs.Ytgabonacpoimfaa
