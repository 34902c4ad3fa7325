/-
  The walk of a statement of layer 12: all comes in the end.
-/
import Derived.Test.YtgabonacpoimfaaTkInn
import Derived.Test.YtgabonacpoimfaaCoLaw2
namespace Go.Proofs.Ytgabonacpoimfaa
open Go.RowKit Go.Sort
set_option linter.unusedVariables false
set_option linter.unusedSimpArgs false
attribute [local go_sem ↓] Go.wp_at_zero Go.wp_at_succ
set_option maxRecDepth 100000 in
set_option maxHeartbeats 16000000 in
theorem CordComes_walk (epoch : Int) (he : (Lit.int .i64 epoch).wf = true) (A : Option Addr) (n c : Nat) (l : List Ev) (w : World) (I : IsRow 3 Ev.row Ev.ok w A n c l) :
    Calls Try.prog 5 #[.int .i64 epoch, .slice A n c] w fun e w' => e = .returned (.bool true) ∧ Below w.heap.size w w' := by
  have CA := Lib.hid (fun w => cordAwake_any w)
  have H := Lib.hid I
  have hcap := I.cap
  have hmost := I.most
  obtain ⟨a, ha, hae⟩ := mod1000_of epoch
  clear I he
  go_enter Try.func5, Try.ntmps5
  go_wp2_with fail
  refine (CA.out _).mono ?_
  rintro e w0 ⟨rfl, b0⟩
  have B0 := Lib.hid b0
  have HI := Lib.hid (H.out.below B0.out)
  clear b0 H CA
  go_wp2_with fail
  clear hae
  go_loop [5] (fun iv => ∃ k : Nat, k ≤ n ∧ k ≤ 120 ∧ iv = .int .i64 k) (fun iv => n - (intOf iv).toNat)
  case atStart => exact ⟨0, by omega, by omega, rfl⟩
  case round =>
    obtain ⟨k, hk, hk2, rfl⟩ := hrel
    by_cases hlt : k < n ∧ k < 120
    · obtain ⟨hlt, hlt2⟩ := hlt
      obtain ⟨b, off, y, rfl, hy, hok, hG⟩ := evs_at HI.out hlt
      have dt := hG.t
      have hbt : y.tx.size ≤ 140737488351232 := hok.2.2
      have hk120 : (k : Int) < 120 := by omega
      clear hy hok hG
      by_cases hbig : 1024 < y.tx.size
      · go_wp2_with fail
        go_ret
        exact ⟨rfl, B0.out⟩
      · have hb2 : y.tx.size ≤ 1024 := by omega
        clear hbig
        go_wp2_with fail
        go_round
        case rel => exact ⟨k + 1, by omega, by omega, by go_num⟩
        case measure => simp [intOf]; omega
    · obtain ⟨ep, hep⟩ : ∃ ep : Int, 1 + (a : Int) = ep := ⟨_, rfl⟩
      have CT := Lib.hid (talked_any (1 + (a : Int)) (by omega) (by omega) A n c l w0 HI.out)
      obtain ⟨F, hF⟩ : ∃ F : Nat → Prop, F = fun k => k < w0.heap.size := ⟨_, rfl⟩
      have HFB : Hid (∀ k, k < w0.heap.size → F k) := Lib.hid (fun k hk => by rw [hF]; exact hk)
      have HFe : Hid ((fun k => k < w0.heap.size) = F) := Lib.hid hF.symm
      have HEP := Lib.hid hep
      have key : ¬ k < n ∨ (k < n ∧ k = 120) := by omega
      clear hlt HI hF hep
      rcases key with h3 | ⟨h3, rfl⟩
      all_goals as_aux_lemma =>
        go_wp2_with fail
        refine CT.out.mono ?_
        rintro e w1 ⟨t, V0, x0, rfl, ho, hd, hT, bT⟩
        rw [HEP.out] at ho
        rw [HFe.out] at hT
        have HO0 := Lib.hid ho
        have HD0 := Lib.hid hd
        have HT0 := Lib.hid hT
        have BT0 := Lib.hid bT
        clear ho hd hT bT CT
        go_wp2_with fail
        go_loopw [8] (fun rv wo => ∃ (r : Nat) (V : Tv) (x : Tk), r ≤ 6 ∧ rv = .int .i64 r ∧ Hid (TkOk ep x) ∧ Hid (TkBd (120 + 33 * r) x) ∧ Hid (Rnd r x) ∧ Hid (Held F (TkR t V x) wo) ∧ Hid (Below w0.heap.size w0 wo)) (fun rv _ => 6 - (intOf rv).toNat)
        case atStart => exact ⟨0, V0, x0, by omega, rfl, HO0, HD0, Lib.hid trivial, HT0, BT0⟩
        case round =>
          obtain ⟨r, V, x, hr, rfl, HO, HD, HR, HS, HB⟩ := hrel
          clear HO0 HD0 HT0 BT0
          by_cases hr6 : r < 6
          · obtain ⟨wo, rfl⟩ : ∃ wo : World, wo = wr := ⟨_, rfl⟩
            rcases Nat.mod_two_eq_zero_or_one r with hp | hp
            · as_aux_lemma =>
                have hpar : ((r : Int) % 2 == 0) = true := by simp; omega
                have CD := Lib.hid (sends_any true wo HO.out HD.out (by omega) HS.out)
                have HSI := Lib.hid (InnA.start HO.out)
                have HSO := Lib.hid (HO.out.sends true)
                have HSD := Lib.hid (HD.out.sends HO.out true)
                have hm32 := sndsOf_len HO.out.oka true
                obtain ⟨S, hS⟩ : ∃ S, sndsOf x.a true = S := ⟨_, rfl⟩
                have hS2 : (sendsT x true).2 = S := hS
                obtain ⟨X1, hX1⟩ : ∃ X1, (sendsT x true).1 = X1 := ⟨_, rfl⟩
                obtain ⟨m, hm⟩ : ∃ m, S.length = m := ⟨_, rfl⟩
                rw [hX1] at HSI HSO HSD
                rw [hS, hm] at hm32
                have HX := Lib.hid hX1
                have HM := Lib.hid hm
                have HSN := Lib.hid hS
                have HSN2 := Lib.hid hS2
                clear hS hS2 hX1 hm
                go_wp2_with fail
                refine CD.out.mono ?_
                rintro e wB ⟨V1, A1, cap1, rfl, hrow, hT, hK⟩
                rw [HSN2.out, HM.out] at hrow hT
                rw [HX.out] at hT
                rw [HSN2.out, HM.out]
                obtain ⟨F1, hF1⟩ : ∃ F1 : Nat → Prop, F1 = fun j => F j ∨ (Value.slice A1 m cap1).ownBlock = some j := ⟨_, rfl⟩
                rw [← hF1] at hT
                have HFF : Hid (∀ j, F j → F1 j) := Lib.hid (fun j h => by rw [hF1]; exact .inl h)
                have HFO : Hid (∀ j, (Value.slice A1 m cap1).ownBlock = some j → F1 j) := Lib.hid (fun j h => by rw [hF1]; exact .inr h)
                have HRow := Lib.hid hrow
                have HT1 := Lib.hid hT
                have BB : Hid (Below w0.heap.size w0 wB) := Lib.hid (HB.out.trans (hK.belowB HFB.out HB.out.size))
                have HF1B : Hid (∀ k, k < w0.heap.size → F1 k) := Lib.hid (fun k hk => HFF.out k (HFB.out k hk))
                have K0 : Hid (KeptF F1 wB wB) := Lib.hid (Kept.refl _ _)
                clear hrow hT hK hF1 CD HB
                go_wp2_with fail
                go_loopw [10] (fun iv wq => ∃ (i : Nat) (V2 : Tv) (x2 : Tk), i ≤ m ∧ iv = .int .i64 i ∧ Hid (TkOk ep x2) ∧ Hid (TkBd (120 + 33 * r + 1 + i) x2) ∧ Hid (InnA x x2 i) ∧ Hid (Held F1 (TkR t V2 x2) wq) ∧ Hid (KeptF F1 wB wq)) (fun iv _ => m - (intOf iv).toNat)
                case atStart => exact ⟨0, V1, X1, by omega, rfl, HSO, HSD, HSI, HT1, K0⟩
                case round =>
                  obtain ⟨i, V2, x2, hi, rfl, HO2, HD2, HI2, HS2, HK2⟩ := hrel
                  clear HSO HSD HSI HT1 K0
                  by_cases hlt : i < m
                  · obtain ⟨s, hs⟩ : ∃ s, S[i]? = some s := ⟨_, List.getElem?_eq_getElem (by rw [HM.out]; exact hlt)⟩
                    obtain ⟨g, rfl, hog, hgl, hsn⟩ := RowS.at HRow.out hs
                    have hs' : (sndsOf x.a true)[i]? = some s := by rw [HSN.out]; exact hs
                    have hok := HI2.out.ok HO2.out hs'
                    have hcc := HO2.out.comes s hok
                    have CD2 := Lib.hid (comes_any s wr HO2.out HD2.out (by omega) hok HS2.out)
                    have HO3 := Lib.hid hcc.2
                    have HB3 := Lib.hid hcc.1
                    have HD3 := Lib.hid (HD2.out.comes s)
                    have HI3 := Lib.hid (HI2.out.step HO.out HO2.out hs')
                    obtain ⟨XT, hXT⟩ : ∃ XT, comesT x2 s = XT := ⟨_, rfl⟩
                    rw [hXT] at CD2 HO3 HB3 HD3 HI3
                    obtain ⟨⟨c0, u0, ep0, sq0, ak0, bd0⟩, f0⟩ := s
                    simp only [Sn.val, Sn.row] at CD2
                    have cc : ∀ {o : Nat} {v : Value}, wB.cell? ⟨g, o, none⟩ = some v → wr.cell? ⟨g, o, none⟩ = some v := fun h => HK2.out.cell h (fun e => e (HFO.out g hog))
                    have d0 : wr.cell? ⟨g, i * 7, none⟩ = some (.int .i64 c0) := cc hsn.g.a0
                    have d1 : wr.cell? ⟨g, i * 7 + 1, none⟩ = some (.bool u0) := cc hsn.g.a1
                    have d2 : wr.cell? ⟨g, i * 7 + 2, none⟩ = some (.int .i64 ep0) := cc hsn.g.a2
                    have d3 : wr.cell? ⟨g, i * 7 + 3, none⟩ = some (.int .i64 sq0) := cc hsn.g.a3
                    have d4 : wr.cell? ⟨g, i * 7 + 4, none⟩ = some (.int .i64 ak0) := cc hsn.g.a4
                    have d5 : wr.cell? ⟨g, i * 7 + 5, none⟩ = some (.string bd0) := cc hsn.g.a5
                    have d6 : wr.cell? ⟨g, i * 7 + 6, none⟩ = some (.bool f0) := cc hsn.f
                    clear hs hs' hok hcc hXT hsn cc hog hgl HO2 HD2 HI2 HS2
                    go_wp2_with fail
                    refine CD2.out.mono ?_
                    rintro e wC ⟨V3, rfl, hT3, hK3, _⟩
                    rw [HB3.out]
                    have HS3 := Lib.hid hT3
                    have HK3 : Hid (KeptF F1 wB wC) := Lib.hid (HK2.out.trans hK3)
                    clear hT3 hK3 HK2 d0 d1 d2 d3 d4 d5 d6 CD2
                    go_wp2_with fail
                    go_roundw
                    case rel => exact ⟨i + 1, V3, XT.1, by omega, by go_num, HO3, HD3, HI3, HS3, HK3⟩
                    case measure => simp [intOf]; omega
                  · obtain rfl : i = m := by omega
                    have hlen : (outG x.a).length = i := by
                      have := HM.out
                      rw [← HSN.out] at this
                      unfold sndsOf at this
                      rwa [List.length_map] at this
                    have HR2 : Hid (Rnd (r + 1) x2) := Lib.hid (Rnd.first HR.out hp HO.out HO2.out HI2.out.s HI2.out.tA HI2.out.tB (by rw [hlen]; exact HI2.out.got) (fun h => HI2.out.zero (by omega)))
                    have HD4 : Hid (TkBd (120 + 33 * (r + 1)) x2) := Lib.hid (HD2.out.more (by omega))
                    have HS4 : Hid (Held F (TkR t V2 x2) wr) := Lib.hid (HS2.out.less HFF.out)
                    have B4 : Hid (Below w0.heap.size w0 wr) := Lib.hid (BB.out.trans (HK2.out.belowB HF1B.out BB.out.size))
                    clear hlt hlen HM HRow hpar
                    go_wp2_with fail
                    go_roundw
                    case rel => exact ⟨r + 1, V2, x2, by omega, by go_num, HO2, HD4, HR2, HS4, B4⟩
                    case measure => simp [intOf]; omega
            · as_aux_lemma =>
                have hpar : ((r : Int) % 2 == 0) = false := by simp; omega
                have CD := Lib.hid (sends_any false wo HO.out HD.out (by omega) HS.out)
                have HSI := Lib.hid (InnB.start HO.out)
                have HSO := Lib.hid (HO.out.sends false)
                have HSD := Lib.hid (HD.out.sends HO.out false)
                have hm32 := sndsOf_len HO.out.okb false
                obtain ⟨S, hS⟩ : ∃ S, sndsOf x.b false = S := ⟨_, rfl⟩
                have hS2 : (sendsT x false).2 = S := hS
                obtain ⟨X1, hX1⟩ : ∃ X1, (sendsT x false).1 = X1 := ⟨_, rfl⟩
                obtain ⟨m, hm⟩ : ∃ m, S.length = m := ⟨_, rfl⟩
                rw [hX1] at HSI HSO HSD
                rw [hS, hm] at hm32
                have HX := Lib.hid hX1
                have HM := Lib.hid hm
                have HSN := Lib.hid hS
                have HSN2 := Lib.hid hS2
                clear hS hS2 hX1 hm
                go_wp2_with fail
                refine CD.out.mono ?_
                rintro e wB ⟨V1, A1, cap1, rfl, hrow, hT, hK⟩
                rw [HSN2.out, HM.out] at hrow hT
                rw [HX.out] at hT
                rw [HSN2.out, HM.out]
                obtain ⟨F1, hF1⟩ : ∃ F1 : Nat → Prop, F1 = fun j => F j ∨ (Value.slice A1 m cap1).ownBlock = some j := ⟨_, rfl⟩
                rw [← hF1] at hT
                have HFF : Hid (∀ j, F j → F1 j) := Lib.hid (fun j h => by rw [hF1]; exact .inl h)
                have HFO : Hid (∀ j, (Value.slice A1 m cap1).ownBlock = some j → F1 j) := Lib.hid (fun j h => by rw [hF1]; exact .inr h)
                have HRow := Lib.hid hrow
                have HT1 := Lib.hid hT
                have BB : Hid (Below w0.heap.size w0 wB) := Lib.hid (HB.out.trans (hK.belowB HFB.out HB.out.size))
                have HF1B : Hid (∀ k, k < w0.heap.size → F1 k) := Lib.hid (fun k hk => HFF.out k (HFB.out k hk))
                have K0 : Hid (KeptF F1 wB wB) := Lib.hid (Kept.refl _ _)
                clear hrow hT hK hF1 CD HB
                go_wp2_with fail
                go_loopw [10] (fun iv wq => ∃ (i : Nat) (V2 : Tv) (x2 : Tk), i ≤ m ∧ iv = .int .i64 i ∧ Hid (TkOk ep x2) ∧ Hid (TkBd (120 + 33 * r + 1 + i) x2) ∧ Hid (InnB x x2 i) ∧ Hid (Held F1 (TkR t V2 x2) wq) ∧ Hid (KeptF F1 wB wq)) (fun iv _ => m - (intOf iv).toNat)
                case atStart => exact ⟨0, V1, X1, by omega, rfl, HSO, HSD, HSI, HT1, K0⟩
                case round =>
                  obtain ⟨i, V2, x2, hi, rfl, HO2, HD2, HI2, HS2, HK2⟩ := hrel
                  clear HSO HSD HSI HT1 K0
                  by_cases hlt : i < m
                  · obtain ⟨s, hs⟩ : ∃ s, S[i]? = some s := ⟨_, List.getElem?_eq_getElem (by rw [HM.out]; exact hlt)⟩
                    obtain ⟨g, rfl, hog, hgl, hsn⟩ := RowS.at HRow.out hs
                    have hs' : (sndsOf x.b false)[i]? = some s := by rw [HSN.out]; exact hs
                    have hok := HI2.out.ok HO2.out hs'
                    have hcc := HO2.out.comes s hok
                    have CD2 := Lib.hid (comes_any s wr HO2.out HD2.out (by omega) hok HS2.out)
                    have HO3 := Lib.hid hcc.2
                    have HB3 := Lib.hid hcc.1
                    have HD3 := Lib.hid (HD2.out.comes s)
                    have HI3 := Lib.hid (HI2.out.step HO.out HO2.out hs')
                    obtain ⟨XT, hXT⟩ : ∃ XT, comesT x2 s = XT := ⟨_, rfl⟩
                    rw [hXT] at CD2 HO3 HB3 HD3 HI3
                    obtain ⟨⟨c0, u0, ep0, sq0, ak0, bd0⟩, f0⟩ := s
                    simp only [Sn.val, Sn.row] at CD2
                    have cc : ∀ {o : Nat} {v : Value}, wB.cell? ⟨g, o, none⟩ = some v → wr.cell? ⟨g, o, none⟩ = some v := fun h => HK2.out.cell h (fun e => e (HFO.out g hog))
                    have d0 : wr.cell? ⟨g, i * 7, none⟩ = some (.int .i64 c0) := cc hsn.g.a0
                    have d1 : wr.cell? ⟨g, i * 7 + 1, none⟩ = some (.bool u0) := cc hsn.g.a1
                    have d2 : wr.cell? ⟨g, i * 7 + 2, none⟩ = some (.int .i64 ep0) := cc hsn.g.a2
                    have d3 : wr.cell? ⟨g, i * 7 + 3, none⟩ = some (.int .i64 sq0) := cc hsn.g.a3
                    have d4 : wr.cell? ⟨g, i * 7 + 4, none⟩ = some (.int .i64 ak0) := cc hsn.g.a4
                    have d5 : wr.cell? ⟨g, i * 7 + 5, none⟩ = some (.string bd0) := cc hsn.g.a5
                    have d6 : wr.cell? ⟨g, i * 7 + 6, none⟩ = some (.bool f0) := cc hsn.f
                    clear hs hs' hok hcc hXT hsn cc hog hgl HO2 HD2 HI2 HS2
                    go_wp2_with fail
                    refine CD2.out.mono ?_
                    rintro e wC ⟨V3, rfl, hT3, hK3, _⟩
                    rw [HB3.out]
                    have HS3 := Lib.hid hT3
                    have HK3 : Hid (KeptF F1 wB wC) := Lib.hid (HK2.out.trans hK3)
                    clear hT3 hK3 HK2 d0 d1 d2 d3 d4 d5 d6 CD2
                    go_wp2_with fail
                    go_roundw
                    case rel => exact ⟨i + 1, V3, XT.1, by omega, by go_num, HO3, HD3, HI3, HS3, HK3⟩
                    case measure => simp [intOf]; omega
                  · obtain rfl : i = m := by omega
                    have hlen : (outG x.b).length = i := by
                      have := HM.out
                      rw [← HSN.out] at this
                      unfold sndsOf at this
                      rwa [List.length_map] at this
                    have HR2 : Hid (Rnd (r + 1) x2) := Lib.hid (Rnd.second HR.out hp HO.out HO2.out HI2.out.s HI2.out.tA HI2.out.tB (by rw [hlen]; exact HI2.out.got) (fun h => HI2.out.zero (by omega)))
                    have HD4 : Hid (TkBd (120 + 33 * (r + 1)) x2) := Lib.hid (HD2.out.more (by omega))
                    have HS4 : Hid (Held F (TkR t V2 x2) wr) := Lib.hid (HS2.out.less HFF.out)
                    have B4 : Hid (Below w0.heap.size w0 wr) := Lib.hid (BB.out.trans (HK2.out.belowB HF1B.out BB.out.size))
                    clear hlt hlen HM HRow hpar
                    go_wp2_with fail
                    go_roundw
                    case rel => exact ⟨r + 1, V2, x2, by omega, by go_num, HO2, HD4, HR2, HS4, B4⟩
                    case measure => simp [intOf]; omega
          · as_aux_lemma =>
            obtain rfl : r = 6 := by omega
            obtain ⟨e1, e2, e3, e4, e5, e6⟩ := Rnd.last HR.out HO.out
            obtain ⟨pa, pb, v2, v3, v4, v5, v6⟩ := V
            obtain ⟨A2, c2, q2, a2, b2⟩ := (TkR.toA HS.out).form
            obtain ⟨A3, c3, q3, a3, b3⟩ := (TkR.toB HS.out).form
            obtain ⟨A4, c4, q4, a4, b4⟩ := (TkR.atA HS.out).form
            obtain ⟨A5, c5, q5, a5, b5⟩ := (TkR.atB HS.out).form
            simp only at q2 q3 q4 q5
            have r2 := TkR.toA HS.out
            have r3 := TkR.toB HS.out
            have r4 := TkR.atA HS.out
            have r5 := TkR.atB HS.out
            simp only at r2 r3 r4 r5
            rw [e1] at q4 r4
            rw [e2] at q5 r5
            subst q2 q3 q4 q5
            obtain ⟨n2, hn2⟩ : ∃ n, x.toA.length = n := ⟨_, rfl⟩
            obtain ⟨n3, hn3⟩ : ∃ n, x.toB.length = n := ⟨_, rfl⟩
            rw [hn2] at r2 r4 a2 HS
            rw [hn3] at r3 r5 a3 HS
            have CT1 := Lib.hid (fun w' (b : Below wr.heap.size wr w') => texts_any A4 A2 n2 c4 c2 x.toA w' (r4.below b) (r2.below b) hn2.symm (by omega))
            have CT2 := Lib.hid (fun w' (b : Below wr.heap.size wr w') => texts_any A5 A3 n3 c5 c3 x.toB w' (r5.below b) (r3.below b) hn3.symm (by omega))
            have HD2 := Lib.hid (fun w' (b : Below wr.heap.size wr w') => HS.out.below (TkR.good _ _ _) b)
            have CO1 : Hid (∀ w', Below wr.heap.size wr w' → Calls Try.prog 20 #[.pointer (some ⟨pa, 0, none⟩)] w' fun e w'' => e = .returned (.int .i64 0) ∧ w' = w'') := Lib.hid (fun w' b => by
              have := openH pa x.a w' (TkR.endA (HD2.out w' b))
              rwa [e3] at this)
            have CO2 : Hid (∀ w', Below wr.heap.size wr w' → Calls Try.prog 20 #[.pointer (some ⟨pb, 0, none⟩)] w' fun e w'' => e = .returned (.int .i64 0) ∧ w' = w'') := Lib.hid (fun w' b => by
              have := openH pb x.b w' (TkR.endB (HD2.out w' b))
              rwa [e4] at this)
            have CW1 : Hid (∀ w', Below wr.heap.size wr w' → Calls Try.prog 13 #[.pointer (some ⟨pa, 0, none⟩)] w' fun e w'' => e = .returned (.bool false) ∧ w' = w'') := Lib.hid (fun w' b => by
              have := owesH pa x.a w' (TkR.endA (HD2.out w' b))
              rwa [e5] at this)
            have CW2 : Hid (∀ w', Below wr.heap.size wr w' → Calls Try.prog 13 #[.pointer (some ⟨pb, 0, none⟩)] w' fun e w'' => e = .returned (.bool false) ∧ w' = w'') := Lib.hid (fun w' b => by
              have := owesH pb x.b w' (TkR.endB (HD2.out w' b))
              rwa [e6] at this)
            have HP := Lib.hid (TkR.blk HS.out)
            have HKS : Hid (∀ w', Below wr.heap.size wr w' → (fun w' => w'.cell? ⟨t, 0, none⟩ = some (.pointer (some ⟨pa, 0, none⟩)) ∧ w'.cell? ⟨t, 1, none⟩ = some (.pointer (some ⟨pb, 0, none⟩)) ∧ w'.cell? ⟨t, 2, none⟩ = some (.slice A2 n2 c2) ∧ w'.cell? ⟨t, 3, none⟩ = some (.slice A3 n3 c3) ∧ w'.cell? ⟨t, 4, none⟩ = some (.slice A4 n2 c4) ∧ w'.cell? ⟨t, 5, none⟩ = some (.slice A5 n3 c5)) w') := Lib.hid (fun w' b => ⟨(HP.out.below b).cell 0 _ rfl, (HP.out.below b).cell 1 _ rfl, (HP.out.below b).cell 2 _ rfl, (HP.out.below b).cell 3 _ rfl, (HP.out.below b).cell 4 _ rfl, (HP.out.below b).cell 5 _ rfl⟩)
            clear r2 r3 r4 r5 a2 b2 a3 b3 a4 b4 a5 b5 e1 e2 e3 e4 e5 e6 hn2 hn3 HR HO HD hr6 hr
            go_upto_region 21 with (fail)
            go_region_held3 (fun w' => w'.cell? ⟨t, 0, none⟩ = some (.pointer (some ⟨pa, 0, none⟩)) ∧ w'.cell? ⟨t, 1, none⟩ = some (.pointer (some ⟨pb, 0, none⟩)) ∧ w'.cell? ⟨t, 2, none⟩ = some (.slice A2 n2 c2) ∧ w'.cell? ⟨t, 3, none⟩ = some (.slice A3 n3 c3) ∧ w'.cell? ⟨t, 4, none⟩ = some (.slice A4 n2 c4) ∧ w'.cell? ⟨t, 5, none⟩ = some (.slice A5 n3 c5))
              ((first | exact HKS.out _ s2.out | exact HKS.out _ s1.out | exact HKS.out _ ((Below.refl _ _).drew)))
              ((first
              | (go_at_call 19; ((with_reducible refine (CT1.out _ ((Below.refl _ _).drew)).mono ?_)); rintro e wA ⟨rfl, bA⟩; have s1 : Hid (Below wr.heap.size wr wA) := Lib.hid (bup ((Below.refl _ _).drew) bA); clear bA)
              | (go_at_call 19; ((with_reducible refine (CT2.out _ s1.out).mono ?_)); rintro e wB ⟨rfl, bB⟩; have s2 : Hid (Below wr.heap.size wr wB) := Lib.hid (bup s1.out bB); clear bB)
              | (go_at_call 20; ((with_reducible refine (CO1.out _ s2.out).mono ?_)); rintro e wX ⟨rfl, rfl⟩)
              | (go_at_call 20; ((with_reducible refine (CO2.out _ s2.out).mono ?_)); rintro e wX ⟨rfl, rfl⟩)
              | (go_at_call 13; ((with_reducible refine (CW1.out _ s2.out).mono ?_)); rintro e wX ⟨rfl, rfl⟩)
              | (go_at_call 13; ((with_reducible refine (CW2.out _ s2.out).mono ?_)); rintro e wX ⟨rfl, rfl⟩)))
            go_wp2_with fail
            go_ret
            exact ⟨rfl, B0.out.trans ((HB.out.trans (s2.out.mono HB.out.size)).mono B0.out.size)⟩
end Go.Proofs.Ytgabonacpoimfaa
