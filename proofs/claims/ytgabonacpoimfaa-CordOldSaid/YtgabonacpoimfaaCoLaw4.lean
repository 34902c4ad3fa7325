/-
  The walk of a statement of layer 12: datagrams of another epoch are refused.
-/
import Derived.Test.YtgabonacpoimfaaTkNil
import Derived.Test.YtgabonacpoimfaaCoLaw2
namespace Go.Proofs.Ytgabonacpoimfaa
open Go.RowKit Go.Sort
set_option linter.unusedVariables false
set_option linter.unusedSimpArgs false
def mine : ByteArray := ⟨#[109, 105, 110, 101]⟩
def eMine (o : Int) : En := ⟨o, [mine], 1, 0, [], false, 0⟩
theorem send_mine (o : Int) : sendE (En.new o) ⟨#[109, 105, 110, 101]⟩ = (eMine o, 0) := by
  unfold sendE
  rw [if_neg (by show ¬ 16384 < 4; omega), if_neg (by simp [En.new])]
  rfl
theorem eMine_ok (o : Int) : (eMine o).ok := by
  have := sendE_ok (En.new_ok o) ⟨#[109, 105, 110, 101]⟩
  rwa [send_mine] at this
theorem take_old (o : Int) (g : Gr) (h : g.ep ≠ o) : takeE (eMine o) g = (eMine o, [], 23) := by
  have hr : rightE (eMine o) g = 23 := by unfold rightE; exact if_pos h
  unfold takeE
  rw [if_pos (by rw [hr]; decide), hr]
set_option maxRecDepth 100000 in
set_option maxHeartbeats 16000000 in
theorem CordOld_walk (epoch : Int) (he : (Lit.int .i64 epoch).wf = true) (A : Option Addr) (n c : Nat) (l : List Ev) (w : World) (I : IsRow 3 Ev.row Ev.ok w A n c l) (other : Int) (ho : (Lit.int .i64 other).wf = true) :
    Calls Try.prog 6 #[.int .i64 epoch, .slice A n c, .int .i64 other] w fun e w' => e = .returned (.bool true) ∧ Below w.heap.size w w' := by
  have CA := Lib.hid (fun w => cordAwake_any w)
  have H := Lib.hid I
  have hcap := I.cap
  have hmost := I.most
  obtain ⟨a, ha, hae⟩ := mod1000_of epoch
  obtain ⟨o, ho2, hoe⟩ := mod1000_of other
  clear I he ho
  go_enter Try.func6, Try.ntmps6
  go_wp2_with fail
  refine (CA.out _).mono ?_
  rintro e w0 ⟨rfl, b0⟩
  have B0 := Lib.hid b0
  have HI := Lib.hid (H.out.below B0.out)
  clear b0 H CA
  go_wp2_with fail
  clear hae hoe
  go_loop [7] (fun iv => ∃ k : Nat, k ≤ n ∧ k ≤ 120 ∧ iv = .int .i64 k) (fun iv => n - (intOf iv).toNat)
  case atStart => exact ⟨0, by omega, by omega, rfl⟩
  case round =>
    obtain ⟨k, hk, hk2, rfl⟩ := hrel
    by_cases hlt : k < n ∧ k < 120
    · obtain ⟨hlt, hlt2⟩ := hlt
      obtain ⟨b, off, y, rfl, hy, hok, hG⟩ := evs_at HI.out hlt
      have dt := hG.t
      have hbt : y.tx.size ≤ 140737488351232 := hok.2.2
      have hk120 : (k : Int) < 120 := by omega
      clear hy hok hG
      by_cases hbig : 1024 < y.tx.size
      · go_wp2_with fail
        go_ret
        exact ⟨rfl, B0.out⟩
      · have hb2 : y.tx.size ≤ 1024 := by omega
        clear hbig
        go_wp2_with fail
        go_round
        case rel => exact ⟨k + 1, by omega, by omega, by go_num⟩
        case measure => simp [intOf]; omega
    · have key : ¬ k < n ∨ (k < n ∧ k = 120) := by omega
      by_cases heq : a = o
      · subst heq
        clear hlt HI
        rcases key with h3 | ⟨h3, rfl⟩
        all_goals
          go_wp2_with fail
          go_ret
          exact ⟨rfl, B0.out⟩
      · have hne : ((1 + (a : Int)) == (1 + (o : Int))) = false := by simp; omega
        have hep : (1 + (a : Int)) ≠ 1 + (o : Int) := by omega
        have HEP := Lib.hid hep
        have CT := Lib.hid (talked_any (1 + (a : Int)) (by omega) (by omega) A n c l w0 HI.out)
        obtain ⟨F, hF⟩ : ∃ F : Nat → Prop, F = fun k => k < w0.heap.size := ⟨_, rfl⟩
        have HFB : Hid (∀ k, k < w0.heap.size → F k) := Lib.hid (fun k hk => by rw [hF]; exact hk)
        have HFe : Hid ((fun k => k < w0.heap.size) = F) := Lib.hid hF.symm
        clear hlt HI hF hep heq
        rcases key with h3 | ⟨h3, rfl⟩
        all_goals as_aux_lemma =>
          go_wp2_with fail
          refine CT.out.mono ?_
          rintro e w1 ⟨t, V, x, rfl, ho, hd, hT, bT⟩
          rw [HFe.out] at hT
          have HO0 := Lib.hid ho
          have HD0 := Lib.hid hd
          have HT0 := Lib.hid hT
          have BT0 := Lib.hid bT
          clear ho hd hT bT CT hne
          go_wp2_with fail
          refine (cnew_any (1 + (o : Int)) w1 (by omega) (by omega)).mono ?_
          rintro e w2 ⟨rfl, hw2⟩
          obtain ⟨pe, hpe⟩ : ∃ pe, w1.heap.size + 1 = pe := ⟨_, rfl⟩
          rw [hpe]
          have H2 := Lib.hid (HT0.out.newEnd (TkR.good _ _ _) (1 + (o : Int)))
          rw [hpe, hw2] at H2
          have B2 : Hid (Below w0.heap.size w0 w2) := Lib.hid (BT0.out.trans ((by rw [← hw2]; exact cordWorld_below w1 _ : Below w1.heap.size w1 w2).mono BT0.out.size))
          clear hw2 hpe HT0 BT0
          have CS : Hid (Calls Try.prog 11 #[.pointer (some ⟨pe, 0, none⟩), .string ⟨#[109, 105, 110, 101]⟩] w2 fun e w'' => e = .returned (.int .i64 0) ∧ Held F (Star (EndR pe (eMine (1 + (o : Int)))) (TkR t V x)) w'' ∧ KeptF F w2 w'') := Lib.hid (by
            have := sendH (TkR.good t V x) pe (En.new (1 + (o : Int))) ⟨#[109, 105, 110, 101]⟩ w2 (show (0 : Nat) ≤ 1000000 by omega) (show (0 : Nat) ≤ 1000000 by omega) H2.out
            rwa [send_mine] at this)
          go_wp2_with fail
          refine CS.out.mono ?_
          rintro e w3 ⟨rfl, h3', k3⟩
          have H3 := Lib.hid h3'
          have B3 : Hid (Below w0.heap.size w0 w3) := Lib.hid (B2.out.trans (k3.belowB HFB.out B2.out.size))
          obtain ⟨pa, pb, v2, v3, v4, v5, v6⟩ := V
          obtain ⟨m, hm⟩ : ∃ m, x.pool.length = m := ⟨_, rfl⟩
          obtain ⟨A6, cap6, hv6, h61, h62⟩ := (TkR.pool (Held.snd (H3.out))).form
          rw [hm] at hv6 h61
          simp only at hv6
          subst hv6
          have HM := Lib.hid hm
          clear h3' k3 H2 B2 CS hm
          go_wp2_with fail
          go_loopw [11] (fun iv wr => ∃ i : Nat, i ≤ m ∧ iv = .int .i64 i ∧ Hid (Held F (Star (EndR pe (eMine (1 + (o : Int)))) (TkR t ⟨pa, pb, v2, v3, v4, v5, .slice A6 m cap6⟩ x)) wr) ∧ Hid (Below w0.heap.size w0 wr)) (fun iv _ => m - (intOf iv).toNat)
          case atStart => exact ⟨0, by omega, rfl, H3, B3⟩
          case round =>
            obtain ⟨i, hi, rfl, HS, HB⟩ := hrel
            clear H3 B3
            have q6 : wr.cell? ⟨t, 6, none⟩ = some (.slice A6 m cap6) := (TkR.blk (Held.snd HS.out)).cell 6 _ rfl
            have htl : t < wr.heap.size := (TkR.blk (Held.snd HS.out)).lt
            by_cases hlt : i < m
            · obtain ⟨s, hs⟩ : ∃ s, x.pool[i]? = some s := ⟨_, List.getElem?_eq_getElem (by rw [HM.out]; exact hlt)⟩
              obtain ⟨g, rfl, _, _, hsn⟩ := RowS.at (TkR.pool (Held.snd HS.out)) hs
              have hge : s.g.ep = 1 + (a : Int) := by
                have := HO0.out.pool s (List.mem_of_getElem? hs)
                cases hf : s.first with
                | true => exact (this.1 hf).ep
                | false => exact (this.2 hf).ep
              have hto := take_old (1 + (o : Int)) s.g (by rw [hge]; exact HEP.out)
              have d0 := hsn.g.a0
              have d1 := hsn.g.a1
              have d2 := hsn.g.a2
              have d3 := hsn.g.a3
              have d4 := hsn.g.a4
              have d5 := hsn.g.a5
              have CP := takeH (TkR.good t ⟨pa, pb, v2, v3, v4, v5, .slice (some ⟨g, 0, none⟩) m cap6⟩ x) pe (eMine (1 + (o : Int))) s.g wr (eMine_ok _) (show (1 : Nat) ≤ 1000000 by omega) (show (0 : Nat) ≤ 1000000 by omega) HS.out
              rw [hto] at CP
              obtain ⟨⟨c0, u0, ep0, sq0, ak0, bd0⟩, f0⟩ := s
              simp only [Gr.val] at CP d0 d1 d2 d3 d4 d5
              have CP' := Lib.hid CP
              clear CP hto hge hsn hs
              go_wp2_with fail
              refine CP'.out.mono ?_
              rintro e w4 ⟨A7, cap7, rfl, _, _, h4, k4⟩
              have H4 := Lib.hid (h4.less (G := F) (fun j h => .inl h))
              have B4 : Hid (Below w0.heap.size w0 w4) := Lib.hid (HB.out.trans (k4.belowB HFB.out HB.out.size))
              have CG := Lib.hid (gotH pe (eMine (1 + (o : Int))) w4 H4.out)
              have CO := Lib.hid (openH pe (eMine (1 + (o : Int))) w4 H4.out)
              clear h4 k4 CP' HS HB q6 htl d0 d1 d2 d3 d4 d5
              go_wp2_with fail
              refine CG.out.mono ?_
              rintro e w5 ⟨rfl, rfl⟩
              simp only [show (((eMine (1 + (o : Int))).gt : Nat) : Int) = 0 from rfl]
              go_wp2_with fail
              refine CO.out.mono ?_
              rintro e w5 ⟨rfl, rfl⟩
              simp only [show (((eMine (1 + (o : Int))).op.length : Nat) : Int) = 1 from rfl]
              go_wp2_with fail
              go_roundw
              case rel => exact ⟨i + 1, by omega, by go_num, H4, B4⟩
              case measure => simp [intOf]; omega
            · obtain rfl : i = m := by omega
              have HBB := HB
              go_wp2_with fail
              refine (nilTake _).mono ?_
              rintro e w4 ⟨rfl, b4⟩
              have B4 : Hid (Below w0.heap.size w0 w4) := Lib.hid (HBB.out.trans (b4.mono HBB.out.size))
              clear q6 htl HS HB b4
              go_wp2_with (first
                | (go_at_call 11; (with_reducible refine (nilSend _ _).mono ?_); rintro e w' ⟨rfl, rfl⟩)
                | (go_at_call 15; (with_reducible refine (nilOut _).mono ?_); rintro e w' ⟨rfl, rfl⟩)
                | (go_at_call 22; (with_reducible refine (nilEpoch _).mono ?_); rintro e w' ⟨rfl, rfl⟩)
                | (go_at_call 20; (with_reducible refine (nilOpen _).mono ?_); rintro e w' ⟨rfl, rfl⟩)
                | (go_at_call 21; (with_reducible refine (nilGot _).mono ?_); rintro e w' ⟨rfl, rfl⟩)
                | (go_at_call 13; (with_reducible refine (nilOwes _).mono ?_); rintro e w' ⟨rfl, rfl⟩))
              go_ret
              exact ⟨rfl, B0.out.trans (B4.out.mono B0.out.size)⟩
end Go.Proofs.Ytgabonacpoimfaa
