/-
  slab.Encode.
-/
import Derived.Test.YtklmoigpalhlmaaSlG
namespace Go.Proofs.Ytklmoigpalhlmaa
open Go.RowKit
set_option linter.unusedVariables false
set_option linter.unusedSimpArgs false

set_option maxRecDepth 100000 in
set_option maxHeartbeats 8000000 in
theorem penc_any (lsn : Int) (A : Option Addr) (n c : Nat) (l : List Sl) (w : World) (h : IsSlots w A n c l) :
    Calls Try.prog 14 #[.agg #[.int .i64 lsn, .slice A n c]] w fun r w' => r = .returned (.tuple #[.string (bs (pgEnc lsn l).1), .int .i64 (pgEnc lsn l).2]) ∧ Below w.heap.size w w' := by
  have CG := Lib.hid (fun w h => pgood_any lsn A n c l w h)
  cases hg : slGood lsn l with
  | false =>
    have HR : Hid (pgEnc lsn l = ([], 1)) := Lib.hid (by simp [pgEnc, hg])
    rw [hg] at CG
    have H := Lib.hid h
    clear h hg
    go_enter Try.func14, Try.ntmps14
    go_wp2_with fail
    refine (CG.out _ (H.out.alloc _)).mono ?_
    rintro e w1 ⟨rfl, b1⟩
    go_wp2_with fail
    go_ret2
    exact ⟨by rw [HR.out]; rfl, bup (bnew _ _) b1⟩
  | true =>
    have HR : Hid (pgEnc lsn l = (pgBytes lsn l, 0)) := Lib.hid (by simp [pgEnc, hg])
    rw [hg] at CG
    obtain ⟨hg1, hg2, hg3, hg4, hg5⟩ := (slGood_iff lsn l).1 hg
    have hlen := h.len
    have hcap := h.cap
    have hmost := h.most
    have HT := Lib.hid (fun k => pgBody_take hg k)
    have HO := Lib.hid (any_odd_sizes hg3)
    obtain ⟨z, rfl⟩ : ∃ z : Nat, lsn = z := ⟨lsn.toNat, by omega⟩
    have hz : z ≤ 1099511627776 := by omega
    have hn32 : n ≤ 32 := by omega
    have CP : Hid (∀ w, Calls Try.prog 30 #[.int .u64 (z : Int), .int .i64 8] w fun e w' => e = .returned (.string (bs (highN z 8))) ∧ Below w.heap.size w w') := Lib.hid (fun w => hput_any z 8 (by omega) (by omega) (by omega) w)
    have hmk : ∀ w, (Instr.makeSlice 36 (.int .i64 0) (.int .i64 240)).run Try.prog w = .ok (.slice (some ⟨w.heap.size, 0, none⟩) 0 240) (w.alloc (.cells (List.replicate 240 (.int .u8 0)).toArray 5)) := fun w => makeBytes 0 (by omega) 240 (by omega) (by omega) w
    obtain ⟨F0, hF0⟩ : ∃ F, (List.replicate 240 (Value.int .u8 0)).toArray = F := ⟨_, rfl⟩
    rw [hF0] at hmk
    have HM := fun w => Buf.made w
    rw [hF0] at HM
    replace HM := Lib.hid HM
    obtain ⟨hb, hhb⟩ : ∃ hb, highN z 8 = hb := ⟨_, rfl⟩
    have hhl : hb.length = 8 := by rw [← hhb, highN_len]
    have hhs : (bs hb).size = 8 := by rw [bs_size, hhl]
    rw [hhb] at CP
    have HH := Lib.hid hhb
    have H := Lib.hid h
    have Hlen := Lib.hid hlen
    have Hhl := Lib.hid hhl
    clear h hg hg1 hg2 hg3 hg4 hg5 hF0 hhb hlen hhl
    go_enter Try.func14, Try.ntmps14
    go_wp2_with fail
    refine (CG.out _ (H.out.alloc _)).mono ?_
    rintro e w1 ⟨rfl, b1⟩
    have P := ((Has.new w _).below b1)
    have p0 := P.cell 0 _ rfl
    have B := Lib.hid (bup (bnew w _) b1)
    have hh : w.heap.size < w1.heap.size := P.lt
    replace P := Lib.hid P
    clear b1
    go_upto_region 3 with fail
    go_cut [4] from 10 to 15 (fun v wx => ∃ g, v = .slice (some ⟨g, 0, none⟩) 8 240 ∧ w1.heap.size ≤ g ∧ Hid (Buf wx g hb) ∧ Hid (Below w1.heap.size w1 wx))
    case first =>
      have hwz : IntKind.u64.wrap (z : Int) = (z : Int) := by rw [IntKind.wrap_u64]; omega
      go_region_law (first
        | (refine step_buf_text (by rfl) (.tmp 10) (.tmp 14) (by rfl) _ [] 0 (bs hb) (by rfl) (by rfl) (by first | exact (HM.out w1).drew.below b5 | exact HM.out _) rfl (by simp [hhs]) ?_; intro w6 G6 B6)
        | (go_simp; go_at_call 30; (with_reducible refine (CP.out _).mono ?_); rintro e w5 ⟨rfl, b5⟩))
      all_goals
        go_wp2_with fail
        go_meet
        refine ⟨_, rfl, ?_, Lib.hid (by rw [List.nil_append] at G6; exact G6), Lib.hid ?_⟩
        · first | exact Nat.le_refl _ | (have := b5.size; simpa using this)
        · first
          | (have hq := bup ((bnew w1 _).drew) b5
             exact hq.trans (B6.below (Nat.le_refl _) hq.size))
          | (have hq := bup (bup ((Below.refl w1.heap.size w1).drew) b5) (bnew w5 (.cells F0 5))
             exact hq.trans (B6.below (by have := b5.size; simpa using this) hq.size))
    case rest =>
    obtain ⟨g, rfl, hg1, G, B1⟩ := hcut
    have P1 := (P.out.below B1.out)
    have p1 := P1.cell 1 _ rfl
    replace B := Lib.hid (bup B.out B1.out)
    clear p0 B1
    have hgw : w.heap.size < g := by omega
    have hl9 : (hb ++ [UInt8.ofNat n]).length = 9 := by simp [Hhl.out]
    have h8 : 8 = hb.length := Hhl.out.symm
    have H8 := Lib.hid h8
    clear h8
    go_upto_region 5 with ((refine buf_byte rfl (.tmp 16) (.tmp 21) rfl g hb 8 (UInt8.ofNat n) _ rfl _ rfl (by simp) G.out H8.out ?_ (by rw [Hhl.out]; omega) ?_); (first | (simp; omega) | skip); try (intro w3 G3 B3))
    have p3 := (P1.but B3 (by omega)).cell 1 _ rfl
    have B0 := Lib.hid (B.out.trans (B3.below (by omega) B.out.size))
    have Hq : Hid (9 = (hb ++ [UInt8.ofNat n]).length ∧ hb ++ [UInt8.ofNat n] = pgHead z n ++ slsEnc (l.take 0)) := Lib.hid ⟨hl9.symm, by simp [pgHead, HH.out, slsEnc]⟩
    replace G3 := Lib.hid G3
    clear G B P1 p1 B3 hl9 H8 hg1 P
    go_wp2_with fail
    go_loopw [4, 26] (fun v i wr => ∃ (k m : Nat) (q : List UInt8), k ≤ n ∧ i = .int .i64 k ∧ v = .slice (some ⟨g, 0, none⟩) m 240 ∧ Hid (m = q.length ∧ q = pgHead z n ++ slsEnc (l.take k)) ∧ Hid (Buf wr g q) ∧ Hid (Below w.heap.size w wr)) (fun _ i _ => n - (intOf i).toNat)
    case atStart => exact ⟨0, 9, _, by omega, rfl, rfl, Hq, G3, B0⟩
    case round =>
      clear G3 B0 p3 Hq
      obtain ⟨k, m, q, hk, rfl, rfl, Hq, G, B⟩ := hrel
      have hgl : g < wr.heap.size := G.out.2.lt
      by_cases hlt : k < n
      · obtain ⟨b, off, x, rfl, hx, hbl, h1, h2, hs⟩ := (H.out.below B.out).at hlt
        have hT := HT.out (k + 1)
        rw [Hlen.out, slsEnc_snoc l k x hx, ← List.append_assoc, ← Hq.out.2] at hT
        have hsz := HO.out x (List.mem_of_getElem? hx)
        have HX : Hid (q ++ x.enc = pgHead z n ++ slsEnc (l.take (k + 1))) := Lib.hid (by rw [slsEnc_snoc l k x hx, ← List.append_assoc, ← Hq.out.2])
        have hmq := Hq.out.1
        have Hm := Lib.hid hmq
        clear hx
        obtain ⟨u, d⟩ := x
        simp only at h1 h2 hs hsz
        have hd : d.data.toList.length = d.size := Array.length_toList
        cases u with
        | false =>
          have hT2 : m < 240 := by simp [Sl.enc] at hT; omega
          have Ht := Lib.hid (show q.length < 240 by omega)
          clear hT hmq
          go_wp2_with ((refine buf_byte rfl (.tmp 33) (.tmp 34) rfl g q m 255 _ rfl _ rfl (by simp) (G.out.alloc _) Hm.out (by rfl) Ht.out ?_; intro w4 G4 B4))
          go_roundw
          case rel =>
            have hB := bup B.out (bnew wr (.cells #[.bool false, .string d] 33))
            exact ⟨k + 1, m + 1, q ++ [255], by omega, by go_num, rfl, Lib.hid ⟨by simp [Hm.out], HX.out⟩, Lib.hid G4, Lib.hid (hB.trans (B4.below (by omega) hB.size))⟩
          case measure => simp [intOf]; omega
        | true =>
          have hT2 : m + 1 + d.size ≤ 240 := by simp [Sl.enc] at hT; omega
          have Ht := Lib.hid (show q.length < 240 by omega)
          have Ht2 := Lib.hid (show (q ++ [UInt8.ofNat d.size]).length + d.size ≤ 240 by simp; omega)
          have Hm2 := Lib.hid (show m + 1 = (q ++ [UInt8.ofNat d.size]).length by simp; omega)
          clear hT hmq hd
          go_upto_region 11 with ((refine buf_byte rfl (.tmp 36) (.tmp 41) rfl g q m (UInt8.ofNat d.size) _ rfl _ rfl (by simp) (G.out.alloc _) Hm.out ?_ Ht.out ?_); (first | (simp; omega) | skip); try (intro w4 G4 B4))
          have K4 := ((Has.new wr (.cells #[.bool true, .string d] 33)).but B4 (by omega))
          have a1 := K4.cell 1 _ rfl
          replace G4 := Lib.hid G4
          clear K4
          go_wp2_with ((refine buf_text rfl (.tmp 43) (.tmp 45) rfl g (q ++ [UInt8.ofNat d.size]) (m + 1) d rfl rfl G4.out Hm2.out Ht2.out ?_; intro w5 G5 B5))
          go_roundw
          case rel =>
            have hB := bup B.out (bnew wr (.cells #[.bool true, .string d] 33))
            have hB4 := hB.trans (B4.below (by omega) hB.size)
            refine ⟨k + 1, m + 1 + d.size, q ++ [UInt8.ofNat d.size] ++ d.data.toList, by omega, by go_num, rfl, Lib.hid ⟨?_, ?_⟩, Lib.hid G5, Lib.hid (hB4.trans (B5.below (by omega) hB4.size))⟩
            · have hd : d.data.toList.length = d.size := Array.length_toList
              rw [List.length_append, ← Hm2.out, hd]
            · rw [← HX.out, List.append_assoc]; rfl
          case measure => simp [intOf]; omega
      · have hkn : l.take k = l := List.take_of_length_le (by rw [Hlen.out]; omega)
        rw [hkn] at Hq
        have HQ : Hid (q = pgBody z l) := Lib.hid (by rw [Hq.out.2, pgBody, Hlen.out])
        have hcv := G.out.text
        have hm240 : m ≤ 240 := by rw [Hq.out.1]; exact G.out.1
        clear hkn
        go_wp2_with fail
        go_ret2
        exact ⟨by rw [HR.out, pgBytes, ← HQ.out]; rfl, B.out⟩
end Go.Proofs.Ytklmoigpalhlmaa
