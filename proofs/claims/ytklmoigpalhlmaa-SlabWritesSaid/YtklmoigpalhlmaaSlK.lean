/-
  The reference's Encode.
-/
import Derived.Test.YtklmoigpalhlmaaSlG
import Derived.Outline
namespace Go.Proofs.Ytklmoigpalhlmaa
open Go.RowKit
set_option linter.unusedVariables false
set_option linter.unusedSimpArgs false

theorem RowB.form {base : Nat} {w : World} {v : Value} {l : List UInt8} (h : RowB base w v l) : ∃ A cap, v = .slice A l.length cap ∧ l.length ≤ cap ∧ cap ≤ 9223372036854775807 := by
  rcases h.2 with ⟨rfl, h0⟩ | ⟨g, cap, cur, rfl, _, _, h1, h2, _⟩
  · exact ⟨none, 0, by rw [h0], by omega, by omega⟩
  · exact ⟨_, cap, rfl, h1, by unfold maxLen at h2; omega⟩
theorem RowB.below {base B : Nat} {w w' : World} {v : Value} {l : List UInt8} (h : RowB base w v l) (hb : Below w.heap.size w w') : RowB base w' v l := by
  have hg : w.grownBy w' none := ⟨hb.os, hb.tape, hb.output, hb.size, fun k hk _ => hb.block k hk⟩
  exact World.ownsRow.kept h hg (by cases v.ownBlock <;> simp)
theorem highN_take (n j : Nat) (hj : j < 8) : (highN n 8).take (8 - (j + 1)) ++ [UInt8.ofNat (n / 256 ^ j % 256)] = (highN n 8).take (8 - j) := by
  have h : (highN n 8)[8 - (j + 1)]? = some (UInt8.ofNat (n / 256 ^ j % 256)) := by
    unfold highN hiK
    rw [List.getElem?_map, List.getElem?_range (by omega)]
    simp only [Option.map_some, Option.some.injEq]
    rw [if_pos (by omega), show 8 - 1 - (8 - (j + 1)) = j by omega]
  rw [show 8 - j = 8 - (j + 1) + 1 by omega, List.take_add_one, h]
  rfl
theorem u8_is (m : Nat) (h : m < 256) : (m : Int) = ((UInt8.ofNat m).toNat : Int) := by
  rw [UInt8.toNat_ofNat', Nat.mod_eq_of_lt h]
theorem u8_pow (z j : Nat) : (z : Int) / 2 ^ (8 * j) % 256 = ((UInt8.ofNat (z / 256 ^ j % 256)).toNat : Int) := by
  rw [pow_form]; exact u8_is _ (Nat.mod_lt _ (by omega))
theorem fill240_step (b : List UInt8) (m : Nat) : b ++ List.replicate (m + 1) 0 = (b ++ List.replicate m 0) ++ [0] := by
  rw [List.replicate_succ', List.append_assoc]
def sliceLenN : Value → Nat
  | .slice _ n _ => n
  | _ => 0
set_option maxRecDepth 100000 in
set_option maxHeartbeats 8000000 in
theorem renc_any (lsn : Int) (A : Option Addr) (n c : Nat) (l : List Sl) (w : World) (h : IsSlots w A n c l) :
    Calls Try.prog 15 #[.agg #[.int .i64 lsn, .slice A n c]] w fun r w' => r = .returned (.tuple #[.string (bs (pgEnc lsn l).1), .int .i64 (pgEnc lsn l).2]) ∧ Below w.heap.size w w' := by
  have CG := Lib.hid (fun w h => rgood_any lsn A n c l w h)
  cases hg : slGood lsn l with
  | false =>
    have HR : Hid (pgEnc lsn l = ([], 1)) := Lib.hid (by simp [pgEnc, hg])
    rw [hg] at CG
    have H := Lib.hid h
    clear h hg
    go_enter Try.func15, Try.ntmps15
    go_wp2_with fail
    refine (CG.out _ (H.out.alloc _)).mono ?_
    rintro e w1 ⟨rfl, b1⟩
    go_wp2_with fail
    go_ret2
    exact ⟨by rw [HR.out]; rfl, bup (bnew _ _) b1⟩
  | true =>
    have HR : Hid (pgEnc lsn l = (pgBytes lsn l, 0)) := Lib.hid (by simp [pgEnc, hg])
    rw [hg] at CG
    obtain ⟨hg1, hg2, hg3, hg4, hg5⟩ := (slGood_iff lsn l).1 hg
    have hlen := h.len
    have hcap := h.cap
    have hmost := h.most
    have HT := Lib.hid (fun k => pgBody_take hg k)
    have HO := Lib.hid (any_odd_sizes hg3)
    have HL : Hid ((pgBody lsn l).length ≤ 240) := Lib.hid (by rw [pgBody_len hg]; exact hg5)
    obtain ⟨z, rfl⟩ : ∃ z : Nat, lsn = z := ⟨lsn.toNat, by omega⟩
    have hz : z ≤ 1099511627776 := by omega
    have hn32 : n ≤ 32 := by omega
    have H := Lib.hid h
    have Hlen := Lib.hid hlen
    have hz8 : (highN z 8).length = 8 := highN_len z 8
    have HZ8 := Lib.hid hz8
    clear h hg hg1 hg2 hg3 hg4 hg5 hlen hz8
    go_enter Try.func15, Try.ntmps15
    go_wp2_with fail
    refine (CG.out _ (H.out.alloc _)).mono ?_
    rintro e w1 ⟨rfl, b1⟩
    have P := Lib.hid ((Has.new w _).below b1)
    have B := Lib.hid (bup (bnew w _) b1)
    have H1 := Lib.hid ((H.out.alloc _).below b1)
    clear b1
    go_wp2_with fail
    have R0 := Lib.hid (RowB.empty w1.heap.size w1 (Nat.le_refl _))
    go_loopw [4, 5] (fun v i wr => ∃ m : Nat, m ≤ 8 ∧ i = .int .i64 (8 * (m : Int) - 8) ∧ Hid (RowB w1.heap.size wr v ((highN z 8).take (8 - m))) ∧ Hid (Below w1.heap.size w1 wr)) (fun _ i _ => (intOf i + 8).toNat)
    case atStart => exact ⟨8, by omega, rfl, R0, Lib.hid (bnew w1 _)⟩
    case round =>
      clear R0
      obtain ⟨m, hm, rfl, R, B1⟩ := hrel
      have P1 := Lib.hid (P.out.below B1.out)
      have p0 := P1.out.cell 0 _ rfl
      have p1 := P1.out.cell 1 _ rfl
      by_cases hm0 : m = 0
      · subst hm0
        rw [show (8 * ((0 : Nat) : Int) - 8) = -8 by rfl]
        have R2 : Hid (RowB w1.heap.size wr u4 (highN z 8)) := Lib.hid (by have := R.out; rwa [List.take_of_length_le (by rw [HZ8.out]; omega)] at this)
        have hl8 := HZ8.out
        have HE : Hid (highN z 8 ++ [UInt8.ofNat n] = pgHead z n ++ slsEnc (l.take 0)) := Lib.hid (by simp [pgHead, slsEnc])
        clear R
        go_wp2_with (at_builtin; refine append_byte rfl (.tmp 24) (.tmp 29) rfl w1.heap.size wr _ (highN z 8) (UInt8.ofNat n) _ rfl rfl R2.out (by simp; omega) (by omega) B1.out.size ?_; intro v3 w3 R3 b3)
        have P3 := Lib.hid (P.out.below (B1.out.trans b3))
        have B3 := Lib.hid (B1.out.trans b3)
        rw [HE.out] at R3
        replace R3 := Lib.hid R3
        clear b3 p0 p1 P1 B1 R2 HE hl8
        go_loopw [4, 6, 7] (fun v i u wr => ∃ k : Nat, k ≤ n ∧ i = .int .i64 k ∧ Hid (RowB w1.heap.size wr v (pgHead z n ++ slsEnc (l.take k))) ∧ Hid (Below w1.heap.size w1 wr)) (fun _ i _ _ => n - (intOf i).toNat)
        case atStart => exact ⟨0, by omega, rfl, R3, B3⟩
        case round =>
          clear R3 B3 P3
          obtain ⟨k, hk, rfl, R, B1⟩ := hrel
          have P1 := Lib.hid (P.out.below B1.out)
          have p1 := P1.out.cell 1 _ rfl
          have hT0 := HT.out k
          rw [Hlen.out] at hT0
          by_cases hlt : k < n
          · obtain ⟨b, off, x, rfl, hx, hbl, h1, h2, hs⟩ := H1.out.at hlt
            have h3 := (B1.out.cell (p := ⟨b, off + k * 2 + 1, none⟩) hbl).trans h2
            have h4 := (B1.out.cell (p := ⟨b, off + k * 2, none⟩) hbl).trans h1
            have hsz := HO.out x (List.mem_of_getElem? hx)
            have HX := Lib.hid (slsEnc_snoc l k x hx)
            clear hx
            obtain ⟨u, d⟩ := x
            simp only at h1 h2 h3 h4 hs hsz
            have H2 := Lib.hid h2
            clear h1 h2
            cases u with
            | false =>
              have HX2 : Hid (pgHead z n ++ slsEnc (l.take k) ++ [255] = pgHead z n ++ slsEnc (l.take (k + 1))) := Lib.hid (by rw [HX.out, List.append_assoc]; rfl)
              clear HX
              obtain ⟨q, hq⟩ : ∃ q, pgHead z n ++ slsEnc (l.take k) = q := ⟨_, rfl⟩
              rw [hq] at R HX2 hT0
              clear hq
              go_wp2_with (at_builtin; refine append_byte rfl (.tmp 45) (.tmp 46) rfl w1.heap.size wr _ q 255 _ rfl rfl R.out rfl (by omega) B1.out.size ?_; intro v4 w4 hrow4 hb4)
              go_roundw
              case rel => exact ⟨k + 1, by omega, by go_num, Lib.hid (by rw [HX2.out] at hrow4; exact hrow4), Lib.hid (B1.out.trans hb4)⟩
              case measure => simp [intOf]; omega
            | true =>
              have HX2 : Hid (pgHead z n ++ slsEnc (l.take k) ++ [UInt8.ofNat d.size] ++ d.data.toList = pgHead z n ++ slsEnc (l.take (k + 1))) := Lib.hid (by rw [HX.out, List.append_assoc, List.append_assoc]; rfl)
              clear HX
              obtain ⟨q, hq⟩ : ∃ q, pgHead z n ++ slsEnc (l.take k) = q := ⟨_, rfl⟩
              rw [hq] at R HX2 hT0
              clear hq
              have hdl : d.data.toList.length = d.size := Array.length_toList
              have HDL := Lib.hid hdl
              clear hdl
              go_wp2_with (at_builtin; refine append_byte rfl (.tmp 48) (.tmp 57) rfl w1.heap.size wr _ q (UInt8.ofNat d.size) _ rfl rfl R.out (by simp; omega) (by omega) B1.out.size ?_; intro v4 w4 R4 b4)
              have B4 := Lib.hid (B1.out.trans b4)
              replace R4 := Lib.hid R4
              obtain ⟨q4, hq4⟩ : ∃ q4, q ++ [UInt8.ofNat d.size] = q4 := ⟨_, rfl⟩
              have hq4l : q4.length ≤ 241 := by rw [← hq4]; simp; omega
              rw [hq4] at R4 HX2
              have R5 : Hid (RowB w1.heap.size w4 v4 (q4 ++ d.data.toList.take 0)) := Lib.hid (by rw [List.take_zero, List.append_nil]; exact R4.out)
              obtain ⟨wo, rfl⟩ : ∃ wo : World, wo = wr := ⟨_, rfl⟩
              clear b4 h3 h4 hq4 p1 P1 B1 R
              go_loopw [4, 7] (fun v i wr => ∃ j : Nat, j ≤ d.size ∧ i = .int .i64 j ∧ Hid (RowB w1.heap.size wr v (q4 ++ d.data.toList.take j)) ∧ Hid (Below w1.heap.size w1 wr)) (fun _ i _ => d.size - (intOf i).toNat)
              case atStart => exact ⟨0, by omega, rfl, R5, B4⟩
              case round =>
                clear R5 B4
                obtain ⟨j, hj, rfl, R, B1⟩ := hrel
                have P1 := Lib.hid (P.out.below B1.out)
                have p1 := P1.out.cell 1 _ rfl
                have h3 := (B1.out.cell (p := ⟨b, off + k * 2 + 1, none⟩) hbl).trans H2.out
                by_cases hjd : j < d.size
                · have hT5 : (q4 ++ d.data.toList.take j).length ≤ 1000 := by have := HDL.out; simp; omega
                  obtain ⟨q5, hq5⟩ : ∃ q5, q4 ++ d.data.toList.take j = q5 := ⟨_, rfl⟩
                  have HX5 : Hid (q5 ++ [d[j]] = q4 ++ d.data.toList.take (j + 1)) := Lib.hid (by
                    rw [← hq5, List.take_succ_eq_append_getElem (by rw [HDL.out]; exact hjd), ← List.append_assoc]; rfl)
                  rw [hq5] at R hT5
                  clear hq5
                  go_wp2_with (at_builtin; refine append_byte rfl (.tmp 70) (.tmp 79) rfl w1.heap.size wr _ q5 d[j] _ rfl rfl R.out rfl (by omega) B1.out.size ?_; intro v6 w6 R6 b6)
                  go_roundw
                  case rel => exact ⟨j + 1, by omega, by go_num, Lib.hid (by rw [HX5.out] at R6; exact R6), Lib.hid (B1.out.trans b6)⟩
                  case measure => simp [intOf]; omega
                · have R7 : Hid (RowB w1.heap.size wr u4 (pgHead z n ++ slsEnc (l.take (k + 1)))) := Lib.hid (by
                    have := R.out
                    rw [List.take_of_length_le (by rw [HDL.out]; omega), HX2.out] at this
                    exact this)
                  go_wp2_with fail
                  go_roundw
                  case rel => exact ⟨k + 1, by omega, by go_num, R7, B1⟩
                  case measure => simp [intOf]; omega
          · have hkn : l.take k = l := List.take_of_length_le (by have := Hlen.out; omega)
            rw [hkn] at R
            clear hkn
            have hbd : pgHead z n ++ slsEnc l = pgBody z l := by rw [pgBody, Hlen.out]
            rw [hbd] at R
            clear hbd hT0
            have hL := HL.out
            obtain ⟨q, hq⟩ : ∃ q, pgBody (↑z) l = q := ⟨_, rfl⟩
            have HQ : Hid (q ++ List.replicate (240 - q.length) 0 = pgBytes (↑z) l) := Lib.hid (by rw [pgBytes, hq]; rfl)
            rw [hq] at R hL
            clear hq
            go_wp2_with fail
            have R0 : Hid (RowB w1.heap.size wr u4 (q ++ List.replicate 0 0)) := Lib.hid (by rw [List.replicate_zero, List.append_nil]; exact R.out)
            go_loopw [4] (fun v wr => ∃ m : Nat, q.length + m ≤ 240 ∧ Hid (RowB w1.heap.size wr v (q ++ List.replicate m 0)) ∧ Hid (Below w1.heap.size w1 wr)) (fun v _ => 240 - sliceLenN v)
            case atStart => exact ⟨0, by omega, R0, B1⟩
            case round =>
              clear R0 B1
              obtain ⟨m, hm, R, B1⟩ := hrel
              obtain ⟨A', cap, rfl, hc1, hc2⟩ := R.out.form
              have hlq : (q ++ List.replicate m (0 : UInt8)).length = q.length + m := by simp
              have HLQ := Lib.hid hlq
              obtain ⟨X, hX⟩ : ∃ X, (q ++ List.replicate m (0 : UInt8)).length = X := ⟨_, rfl⟩
              rw [hX] at R hlq hc1 ⊢
              have HX := Lib.hid hX
              have hX240 : X ≤ 240 := by omega
              clear hX hlq
              by_cases hm2 : X < 240
              · have HS := Lib.hid (fill240_step q m)
                go_wp2_with (at_builtin; refine append_byte rfl (.tmp 84) (.tmp 85) rfl w1.heap.size wr _ (q ++ List.replicate m 0) 0 _ rfl rfl R.out rfl (by rw [HX.out]; omega) B1.out.size ?_; intro v6 w6 R6 b6)
                go_roundw
                case rel => exact ⟨m + 1, by have := HLQ.out; have := HX.out; omega, Lib.hid (by rw [HS.out]; exact R6), Lib.hid (B1.out.trans b6)⟩
                case measure =>
                  obtain ⟨A6, cap6, rfl, h61, h62⟩ := R6.form
                  simp only [sliceLenN]
                  rw [List.length_append, HX.out]
                  simp; omega
              · have hm3 : m = 240 - q.length := by have := HLQ.out; have := HX.out; omega
                have R7 : Hid (RowB w1.heap.size wr (.slice A' X cap) (pgBytes (↑z) l)) := Lib.hid (by rw [← HQ.out, ← hm3]; exact R.out)
                have hcv := row_string R7.out
                clear hm3
                go_wp2_with fail
                go_ret2
                exact ⟨by rw [HR.out]; rfl, bup B.out B1.out⟩
      · obtain ⟨j, rfl⟩ : ∃ j, m = j + 1 := ⟨m - 1, by omega⟩
        have hj : j < 8 := by omega
        rw [show (8 * ((j + 1 : Nat) : Int) - 8) = ((8 * j : Nat) : Int) by omega]
        have hl7 : ((highN z 8).take (8 - (j + 1))).length ≤ 8 := by rw [List.length_take]; omega
        have HT7 := Lib.hid (highN_take z j hj)
        have hsh : (0 : Int) ≤ ((8 * j : Nat) : Int) := by omega
        have hsh2 : ((8 * j : Nat) : Int) < 64 := by omega
        clear hm0
        go_wp2_with (at_builtin; refine append_byte rfl (.tmp 16) (.tmp 22) rfl w1.heap.size wr _ _ (UInt8.ofNat (z / 256 ^ j % 256)) _ rfl rfl R.out (u8_pow z j) (by omega) B1.out.size ?_; intro v2 w2 hrow2 hb2)
        go_roundw
        case rel => exact ⟨j, by omega, by go_num, Lib.hid (by rw [HT7.out] at hrow2; exact hrow2), Lib.hid (B1.out.trans hb2)⟩
        case measure => simp [intOf]; omega
end Go.Proofs.Ytklmoigpalhlmaa
