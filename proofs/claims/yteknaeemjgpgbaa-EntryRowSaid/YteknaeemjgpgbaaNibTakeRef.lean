/-
  The walk of the reference's TakeInt: the number that bytes begin with.
-/
import Derived.Test.YteknaeemjgpgbaaNibTake
namespace Go.Proofs.Yteknaeemjgpgbaa
open Go.RowKit NibPure

theorem rshl_form (k b : Nat) : IntKind.u64.wrap ((b : Int) % 128 * 2 ^ (7 * k)) = ((b % 128 * 2 ^ (7 * k) % 18446744073709551616 : Nat) : Int) := by
  rw [IntKind.wrap_u64, Int.natCast_emod (b % 128 * 2 ^ (7 * k)), Int.natCast_mul, Int.natCast_pow, Int.natCast_emod]; rfl
theorem radd_any (k x b : Nat) : ∃ nx : Nat, nx < 18446744073709551616 ∧ IntKind.u64.wrap ((x : Int) + IntKind.u64.wrap ((b : Int) % 128 * 2 ^ (7 * k))) = (nx : Int) := by
  rw [rshl_form, IntKind.wrap_u64]
  generalize b % 128 * 2 ^ (7 * k) % 18446744073709551616 = m
  exact ⟨(x + m) % 18446744073709551616, by omega, by omega⟩
theorem radd_good {k x b : Nat} (hk : k ≤ 9) (hx : x < 128 ^ k) (hb : ¬ (k = 9 ∧ 1 < b)) :
    IntKind.u64.wrap ((x : Int) + IntKind.u64.wrap ((b : Int) % 128 * 2 ^ (7 * k))) = ((x + b % 128 * 128 ^ k : Nat) : Int) := by
  have h := new_bd hk hx hb
  rw [rshl_form, IntKind.wrap_u64, show (2 : Nat) ^ (7 * k) = 128 ^ k by rw [Nat.pow_mul]]
  generalize b % 128 * 128 ^ k = m at *
  omega
theorem beq_yes {a b : Int} (h : a = b) : (a == b) = true := by simp [h]
theorem beq_no {a b : Int} (h : ¬ a = b) : (a == b) = false := by simp [h]
theorem zag_odd {y : Nat} (h : y % 2 = 1) : zag y = -((y : Int) / 2) - 1 := by unfold zag; rw [if_pos h]; omega
theorem zag_even {y : Nat} (h : ¬ y % 2 = 1) : zag y = (y : Int) / 2 := by unfold zag; rw [if_neg h]; omega

set_option maxRecDepth 100000 in
set_option maxHeartbeats 3200000 in
theorem refTakeInt_any (s : ByteArray) (w : World) (hs : s.size ≤ 9223372036854775807) :
    Calls Try.prog 32 #[.string s] w fun e w' => e = .returned (takeRes (dec s.data.toList)) ∧ ∃ n, w' = w.drewN n := by
  obtain ⟨R, hR⟩ : ∃ R, R = dec s.data.toList := ⟨_, rfl⟩
  rw [← hR]
  have HR := Lib.hid hR
  clear hR
  go_enter Try.func32, Try.ntmps32
  go_wp2
  go_loop [5, 6] (fun v i => ∃ (k x : Nat), k ≤ 10 ∧ k ≤ s.size ∧ x < 18446744073709551616 ∧ Hid (k ≤ 9 → x < 128 ^ k) ∧ i = .int .i64 k ∧ v = .int .u64 x ∧ Hid (readF (10 - k) k x (s.data.toList.drop k) = readF 10 0 0 s.data.toList)) (fun _ i => 10 - (intOf i).toNat)
  case atStart => exact ⟨0, 0, by omega, by omega, by omega, Lib.hid (by omega), rfl, rfl, Lib.hid rfl⟩
  case round =>
    obtain ⟨k, x, hk10, hks, hxl, Hx, rfl, rfl, hr⟩ := hrel
    by_cases hlt : k < 10 ∧ k < s.size
    · obtain ⟨hl10, hls⟩ := hlt
      have hb256 := s[k].toNat_lt
      have hd1 : decide ((k : Int) < (s.size : Int)) = true := by simp; omega
      have hxk := Hx.out (by omega)
      by_cases hbad : (k = 9 ∧ 1 < s[k].toNat) ∨ (0 < k ∧ s[k].toNat = 0)
      · have hdec := dec_bad hl10 hls hr.out hbad
        have hfin : R = none := by rw [HR.out]; exact hdec
        subst hfin
        obtain ⟨nx, hnl, hnx⟩ := radd_any k x s[k].toNat
        have Hxk := Lib.hid hxk
        have Hdec := Lib.hid hdec
        clear hxk hdec
        by_cases h9 : 9 ≤ k
        · have hk9b : ((k : Int) == 9) = true := beq_yes (by omega)
          by_cases hm : 1 < s[k].toNat % 128
          · go_wp2
            all_goals go_ret3
            all_goals exact ⟨rfl, 0, rfl⟩
          · by_cases hc : s[k].toNat < 128
            · have hz : ((s[k].toNat : Int) % 128 == 0) = true := beq_yes (by omega)
              go_wp2
              all_goals go_ret3
              all_goals exact ⟨rfl, 0, rfl⟩
            · go_wp2
              go_round
              case rel =>
                refine ⟨10, nx, by omega, by omega, hnl, Lib.hid (by omega), by go_num, by first | rfl | go_num, Lib.hid ?_⟩
                have h := Hdec.out
                unfold dec at h
                simp only [Option.map_eq_none_iff] at h
                rw [h]; rfl
              case measure => simp [intOf]; omega
        · have hk0 : 0 < k := by omega
          have hz : ((s[k].toNat : Int) % 128 == 0) = true := beq_yes (by omega)
          have hk9b : ((k : Int) == 9) = false := beq_no (by omega)
          go_wp2
          all_goals go_ret3
          all_goals exact ⟨rfl, 0, rfl⟩
      · have hnx := radd_good (k := k) (x := x) (b := s[k].toNat) (by omega) hxk (by omega)
        have hyl := new_bd (k := k) (x := x) (c := s[k].toNat) (by omega) hxk (by omega)
        have Hbad := Lib.hid hbad
        obtain ⟨y, hy⟩ : ∃ y, y = x + s[k].toNat % 128 * 128 ^ k := ⟨_, rfl⟩
        rw [← hy] at hnx hyl
        have Hy := Lib.hid hy
        have Hxk := Lib.hid hxk
        clear hbad hy hxk
        by_cases hc : s[k].toNat < 128
        · have hfin : R = some (zag y, s.data.toList.drop (k + 1)) := by rw [HR.out, Hy.out]; exact dec_good hl10 hls hr.out Hbad.out hc
          subst hfin
          have hsl : (k : Int) + 1 ≤ (s.size : Int) := by omega
          by_cases hodd : y % 2 = 1
          · have ht : ((y : Int) % 2 == 1) = true := by simp; omega
            have Hodd := Lib.hid hodd
            clear hodd
            rcases good_cases Hbad.out hl10 with ⟨g1, g2, g3⟩ | ⟨g1, g2, g3⟩ | g1
            · have hm : ((s[k].toNat : Int) % 128 == 0) = false := beq_no (by have h0 : ¬ s[k].toNat = 0 := (by simpa using g3); omega)
              first | have hk9b : ((k : Int) == 9) = true := beq_yes (by omega) | have hk9b : ((k : Int) == 9) = false := beq_no (by omega)
              clear g3
              go_wp2
              go_quiet (fail)
              go_wp2
              go_ret3
              exact ⟨ret_take (zag_odd Hodd.out).symm (bs_drop _ _), _, rfl⟩
            · have hm : ((s[k].toNat : Int) % 128 == 0) = false := beq_no (by have h0 : ¬ s[k].toNat = 0 := (by simpa using g3); omega)
              first | have hk9b : ((k : Int) == 9) = true := beq_yes (by omega) | have hk9b : ((k : Int) == 9) = false := beq_no (by omega)
              clear g3
              go_wp2
              go_quiet (fail)
              go_wp2
              go_ret3
              exact ⟨ret_take (zag_odd Hodd.out).symm (bs_drop _ _), _, rfl⟩
            · have hk9b : ((k : Int) == 9) = false := beq_no (by omega)
              by_cases hm0 : s[k].toNat = 0
              all_goals
                first | have hm : ((s[k].toNat : Int) % 128 == 0) = true := beq_yes (by omega) | have hm : ((s[k].toNat : Int) % 128 == 0) = false := beq_no (by omega)
                clear hm0
                go_wp2
                go_quiet (fail)
                go_wp2
                go_ret3
                exact ⟨ret_take (zag_odd Hodd.out).symm (bs_drop _ _), _, rfl⟩
          · have ht : ((y : Int) % 2 == 1) = false := by simp; omega
            have Hodd := Lib.hid hodd
            clear hodd
            rcases good_cases Hbad.out hl10 with ⟨g1, g2, g3⟩ | ⟨g1, g2, g3⟩ | g1
            · have hm : ((s[k].toNat : Int) % 128 == 0) = false := beq_no (by have h0 : ¬ s[k].toNat = 0 := (by simpa using g3); omega)
              first | have hk9b : ((k : Int) == 9) = true := beq_yes (by omega) | have hk9b : ((k : Int) == 9) = false := beq_no (by omega)
              clear g3
              go_wp2
              go_quiet (fail)
              go_wp2
              go_ret3
              exact ⟨ret_take (zag_even Hodd.out).symm (bs_drop _ _), _, rfl⟩
            · have hm : ((s[k].toNat : Int) % 128 == 0) = false := beq_no (by have h0 : ¬ s[k].toNat = 0 := (by simpa using g3); omega)
              first | have hk9b : ((k : Int) == 9) = true := beq_yes (by omega) | have hk9b : ((k : Int) == 9) = false := beq_no (by omega)
              clear g3
              go_wp2
              go_quiet (fail)
              go_wp2
              go_ret3
              exact ⟨ret_take (zag_even Hodd.out).symm (bs_drop _ _), _, rfl⟩
            · have hk9b : ((k : Int) == 9) = false := beq_no (by omega)
              by_cases hm0 : s[k].toNat = 0
              all_goals
                first | have hm : ((s[k].toNat : Int) % 128 == 0) = true := beq_yes (by omega) | have hm : ((s[k].toNat : Int) % 128 == 0) = false := beq_no (by omega)
                clear hm0
                go_wp2
                go_quiet (fail)
                go_wp2
                go_ret3
                exact ⟨ret_take (zag_even Hodd.out).symm (bs_drop _ _), _, rfl⟩
        · have hk9 : k < 9 := by have := Hbad.out; omega
          have hk9b : ((k : Int) == 9) = false := beq_no (by omega)
          go_wp2
          go_round
          case rel =>
            refine ⟨k + 1, y, by omega, by omega, hyl, Lib.hid (fun _ => by rw [Hy.out]; exact new_lt Hxk.out), by go_num, by first | rfl | go_num, Lib.hid ?_⟩
            rw [Hy.out]
            exact dec_more hl10 hls hr.out Hbad.out hc
          case measure => simp [intOf]; omega
    · have hfin : R = none := by rw [HR.out]; exact dec_end (by omega) hr.out
      subst hfin
      by_cases hs2 : k < s.size
      · have h10 : 10 ≤ k := by omega
        clear hlt
        go_wp2
        go_ret3
        exact ⟨rfl, 0, rfl⟩
      · clear hlt
        go_wp2
        go_ret3
        exact ⟨rfl, 0, rfl⟩
end Go.Proofs.Yteknaeemjgpgbaa
