/-
  The walks of nib.TakeInt, of the reference's, and of TakeStr: numbers and texts off the beginning of bytes.
-/
import Derived.Test.YteknaeemjgpgbaaNibInt
import Derived.Deep.QuietTactic
import Derived.BigQuiet
namespace Go.Proofs.Yteknaeemjgpgbaa
open Go.RowKit NibPure

/-- What is handed back of a number that was read, or of none. -/
def takeRes : Option (Int × List UInt8) → Value
  | some (n, r) => .tuple #[.int .i64 n, .string (bs r), .bool true]
  | none => .tuple #[.int .i64 0, .string (bs []), .bool false]
theorem or_join (k x c : Nat) (hk : 7 * k + 7 ≤ 64 ∨ c % 128 * 2 ^ (7 * k) < 18446744073709551616) (hx : x < 128 ^ k) (hx2 : x < 18446744073709551616) :
    bits BinOp.or IntKind.u64 (x : Int) ((c % 128 * 2 ^ (7 * k) % 18446744073709551616 : Nat) : Int) = ((x + c % 128 * 128 ^ k : Nat) : Int) := by
  have hp : (2 : Nat) ^ (7 * k) = 128 ^ k := by rw [Nat.pow_mul]
  have hlt : c % 128 * 2 ^ (7 * k) < 18446744073709551616 := by
    rcases hk with hk | hk
    · have h1 : 2 ^ (7 * k) * 128 ≤ 18446744073709551616 := by
        have : (2 : Nat) ^ (7 * k) * 128 = 2 ^ (7 * k + 7) := by rw [Nat.pow_add]
        rw [this]
        exact Nat.pow_le_pow_right (n := 2) (by omega) hk
      have h2 : c % 128 * 2 ^ (7 * k) < 128 * 2 ^ (7 * k) := Nat.mul_lt_mul_of_pos_right (Nat.mod_lt c (by omega)) (Nat.pos_of_ne_zero (by simp))
      omega
    · exact hk
  rw [Nat.mod_eq_of_lt hlt, u64_or_nat _ _ hx2 hlt, hp]
  rw [hp] at hlt
  have := nat_join (7 * k) (c % 128 * 128 ^ k) x (by rw [hp]; exact Nat.mul_mod_left _ _) (by rw [hp]; exact hx)
  rw [Nat.or_comm, this, Nat.add_comm]
theorem andNot_form (c : UInt8) : bits BinOp.andNot IntKind.u8 (c.toNat : Int) 128 = ((c.toNat % 128 : Nat) : Int) := by
  have hc := c.toNat_lt
  have h := u8_andNot_nat c.toNat 128 hc (by omega)
  rw [show ((128 : Int)) = ((128 : Nat) : Int) from rfl, h]
  congr 1
  exact nat_mask7 _
theorem shl_form (k : Nat) (c : UInt8) :
    IntKind.u64.wrap (IntKind.u64.wrap (bits BinOp.andNot IntKind.u8 (c.toNat : Int) 128) * 2 ^ (7 * k)) = ((c.toNat % 128 * 2 ^ (7 * k) % 18446744073709551616 : Nat) : Int) := by
  have hc := c.toNat_lt
  rw [andNot_form, IntKind.wrap_u64, IntKind.wrap_u64]
  have e : ((c.toNat % 128 : Nat) : Int) % 18446744073709551616 = ((c.toNat % 128 : Nat) : Int) := by omega
  rw [e, Int.natCast_emod (c.toNat % 128 * 2 ^ (7 * k)), Int.natCast_mul, Int.natCast_pow]; rfl
/-- The new number, whatever was read. -/
theorem new_any (k x : Nat) (c : UInt8) (hx : x < 18446744073709551616) :
    ∃ nx : Nat, bits BinOp.or IntKind.u64 (x : Int) (IntKind.u64.wrap (IntKind.u64.wrap (bits BinOp.andNot IntKind.u8 (c.toNat : Int) 128) * 2 ^ (7 * k))) = (nx : Int) := by
  rw [shl_form]
  exact ⟨_, u64_or_nat _ _ hx (Nat.mod_lt _ (by omega))⟩
theorem pow_lt (k : Nat) (hk : k ≤ 9) : 128 ^ k ≤ 9223372036854775808 := by
  have : 128 ^ k ≤ 128 ^ 9 := Nat.pow_le_pow_right (by omega) hk
  omega
theorem new_good (k x : Nat) (c : UInt8) (hk : k ≤ 9) (hx : x < 128 ^ k) (hb : ¬ (k = 9 ∧ 1 < c.toNat)) :
    bits BinOp.or IntKind.u64 (x : Int) (IntKind.u64.wrap (IntKind.u64.wrap (bits BinOp.andNot IntKind.u8 (c.toNat : Int) 128) * 2 ^ (7 * k))) = ((x + c.toNat % 128 * 128 ^ k : Nat) : Int) := by
  rw [shl_form]
  refine or_join k x c.toNat ?_ hx (by have := pow_lt k hk; omega)
  by_cases h9 : k = 9
  · right
    have : c.toNat % 128 ≤ 1 := by omega
    subst h9
    have h2 : c.toNat % 128 * 2 ^ (7 * 9) ≤ 1 * 2 ^ (7 * 9) := Nat.mul_le_mul_right _ this
    omega
  · left; omega
theorem drop_cons (s : ByteArray) (k : Nat) (h : k < s.size) : s.data.toList.drop k = s[k] :: s.data.toList.drop (k + 1) := by
  rw [List.drop_eq_getElem_cons (by simpa using h)]; rfl
theorem dec_bad {s : ByteArray} {k x : Nat} (hk : k < 10) (hs : k < s.size) (hr : readF (10 - k) k x (s.data.toList.drop k) = readF 10 0 0 s.data.toList)
    (hb : (k = 9 ∧ 1 < s[k].toNat) ∨ (0 < k ∧ s[k].toNat = 0)) : dec s.data.toList = none := by
  unfold dec
  rw [← hr, show 10 - k = (9 - k) + 1 by omega, drop_cons s k hs]
  simp only [readF]
  rw [if_pos hb]; rfl
theorem dec_good {s : ByteArray} {k x : Nat} (hk : k < 10) (hs : k < s.size) (hr : readF (10 - k) k x (s.data.toList.drop k) = readF 10 0 0 s.data.toList)
    (hb : ¬ ((k = 9 ∧ 1 < s[k].toNat) ∨ (0 < k ∧ s[k].toNat = 0))) (hc : s[k].toNat < 128) : dec s.data.toList = some (zag (x + s[k].toNat % 128 * 128 ^ k), s.data.toList.drop (k + 1)) := by
  unfold dec
  rw [← hr, show 10 - k = (9 - k) + 1 by omega, drop_cons s k hs]
  simp only [readF]
  rw [if_neg hb, if_pos hc, Nat.mod_eq_of_lt hc]; rfl
theorem dec_more {s : ByteArray} {k x : Nat} (hk : k < 10) (hs : k < s.size) (hr : readF (10 - k) k x (s.data.toList.drop k) = readF 10 0 0 s.data.toList)
    (hb : ¬ ((k = 9 ∧ 1 < s[k].toNat) ∨ (0 < k ∧ s[k].toNat = 0))) (hc : ¬ s[k].toNat < 128) : readF (10 - (k + 1)) (k + 1) (x + s[k].toNat % 128 * 128 ^ k) (s.data.toList.drop (k + 1)) = readF 10 0 0 s.data.toList := by
  have h2 := s[k].toNat_lt
  rw [← hr, show 10 - k = (10 - (k + 1)) + 1 by omega, drop_cons s k hs]
  rw [readF, if_neg hb, if_neg hc, show s[k].toNat % 128 = s[k].toNat - 128 by omega]
theorem dec_end {s : ByteArray} {k x : Nat} (hk : 10 ≤ k ∨ s.size ≤ k) (hr : readF (10 - k) k x (s.data.toList.drop k) = readF 10 0 0 s.data.toList) : dec s.data.toList = none := by
  unfold dec
  rw [← hr]
  rcases hk with h | h
  · rw [show 10 - k = 0 by omega]; rfl
  · rw [List.drop_eq_nil_of_le (by simpa using h)]
    cases 10 - k <;> rfl
theorem new_lt {k x c : Nat} (hx : x < 128 ^ k) : x + c % 128 * 128 ^ k < 128 ^ (k + 1) := by
  rw [Nat.pow_succ]
  have h : c % 128 * 128 ^ k ≤ 127 * 128 ^ k := Nat.mul_le_mul_right _ (by omega)
  generalize 128 ^ k = p at *
  omega

theorem good_cases {k b : Nat} (hb : ¬ ((k = 9 ∧ 1 < b) ∨ (0 < k ∧ b = 0))) (hk : k < 10) :
    (9 ≤ k ∧ b ≤ 1 ∧ ((b : Int) == 0) = false) ∨ (k < 9 ∧ 0 < k ∧ ((b : Int) == 0) = false) ∨ (k ≤ 0) := by
  have e : ((b : Int) == 0) = decide (b = 0) := by rw [Bool.eq_iff_iff]; simp
  rw [e]
  simp only [decide_eq_false_iff_not]
  omega
theorem zag_form (y : Nat) (hy : y < 18446744073709551616) :
    bits BinOp.xor IntKind.i64 (wrap64 ((y : Int) / 2)) (wrap64 (-wrap64 (bits BinOp.and IntKind.u64 (y : Int) 1))) = zag y := by
  have h1 : bits .and .u64 (y : Int) 1 = ((y % 2 : Nat) : Int) := by
    have := u64_and_nat y 1 hy (by omega)
    rw [nat_mask1] at this; exact this
  have h2 : wrap64 ((y : Int) / 2) = ((y / 2 : Nat) : Int) := by rw [IntWalk.wrap64_in _ ⟨by omega, by omega⟩]; omega
  have h3 : (BitVec.ofInt 64 ((y / 2 : Nat) : Int)).toNat = y / 2 := by
    rw [BitVec.ofInt_natCast, BitVec.toNat_ofNat]; exact Nat.mod_eq_of_lt (by omega)
  rw [h1, h2]
  unfold zag
  rcases Nat.mod_two_eq_zero_or_one y with h | h
  · rw [h, if_neg (by omega), show wrap64 (-wrap64 ((0 : Nat) : Int)) = 0 by decide +kernel]
    show IntKind.i64.wrap ((BitVec.ofInt 64 ((y / 2 : Nat) : Int) ^^^ BitVec.ofInt 64 0).toNat : Int) = _
    rw [show BitVec.ofInt 64 0 = 0#64 from rfl, BitVec.xor_zero, h3]
    simp [IntKind.wrap, IntKind.bits, IntKind.signed]
    omega
  · rw [h, if_pos rfl, show wrap64 (-wrap64 ((1 : Nat) : Int)) = -1 by decide +kernel]
    show IntKind.i64.wrap ((BitVec.ofInt 64 ((y / 2 : Nat) : Int) ^^^ BitVec.ofInt 64 (-1)).toNat : Int) = _
    rw [show BitVec.ofInt 64 (-1) = BitVec.allOnes 64 by decide, BitVec.xor_allOnes, BitVec.toNat_not, h3]
    simp [IntKind.wrap, IntKind.bits, IntKind.signed]
    omega
theorem ret_take {a n : Int} {b : ByteArray} {r : List UInt8} (h1 : a = n) (h2 : b = bs r) : Ending.returned (.tuple #[.int .i64 a, .string b, .bool true]) = .returned (takeRes (some (n, r))) := by rw [h1, h2]; rfl
theorem new_bd {k x c : Nat} (hk : k ≤ 9) (hx : x < 128 ^ k) (hc : ¬ (k = 9 ∧ 1 < c)) : x + c % 128 * 128 ^ k < 18446744073709551616 := by
  by_cases h9 : k = 9
  · subst h9
    have h1 : c % 128 * 128 ^ 9 ≤ 1 * 128 ^ 9 := Nat.mul_le_mul_right _ (by omega)
    omega
  · have h1 := new_lt (c := c) hx
    have h2 := pow_lt (k + 1) (by omega)
    omega
theorem bs_drop (s : ByteArray) (k : Nat) : s.extract k s.size = bs (s.data.toList.drop k) := by
  apply ByteArray.ext
  apply Array.ext'
  simp [bs, ByteArray.data_extract, List.extract_eq_take_drop]
  rw [List.take_of_length_le (by simp)]
theorem takeRes_some (n : Int) (r : List UInt8) : takeRes (some (n, r)) = .tuple #[.int .i64 n, .string (bs r), .bool true] := rfl

set_option maxRecDepth 100000 in
set_option maxHeartbeats 1600000 in
theorem takeInt_any (s : ByteArray) (w : World) (hs : s.size ≤ 9223372036854775807) :
    Calls Try.prog 37 #[.string s] w fun e w' => e = .returned (takeRes (dec s.data.toList)) ∧ ∃ n, w' = w.drewN n := by
  obtain ⟨R, hR⟩ : ∃ R, R = dec s.data.toList := ⟨_, rfl⟩
  rw [← hR]
  have HR := Lib.hid hR
  clear hR
  go_enter Try.func37, Try.ntmps37
  go_wp2
  all_goals
    go_loop [5, 11] (fun v i => ∃ (k x : Nat), k ≤ 10 ∧ k ≤ s.size ∧ Hid (x < 128 ^ k) ∧ i = .int .i64 k ∧ v = .int .u64 x ∧ Hid (readF (10 - k) k x (s.data.toList.drop k) = readF 10 0 0 s.data.toList)) (fun _ i => 10 - (intOf i).toNat)
    case atStart => exact ⟨0, 0, by omega, by omega, Lib.hid (by omega), rfl, rfl, Lib.hid rfl⟩
    case round =>
      obtain ⟨k, x, hk10, hks, Hx, rfl, rfl, hr⟩ := hrel
      by_cases hlt : k < 10 ∧ k < s.size
      · obtain ⟨hl10, hls⟩ := hlt
        have hb256 := s[k].toNat_lt
        by_cases hbad : (k = 9 ∧ 1 < s[k].toNat) ∨ (0 < k ∧ s[k].toNat = 0)
        · have hfin : R = none := by rw [HR.out]; exact dec_bad hl10 hls hr.out hbad
          subst hfin
          obtain ⟨nx, hnx⟩ := new_any k x s[k] (by have := pow_lt k (by omega); have := Hx.out; omega)
          rcases hbad with ⟨hb1, hb2⟩ | ⟨hb1, hb2⟩
          · have hb3 : 9 ≤ k := by omega
            clear hb1
            go_wp2
            all_goals go_ret3
            all_goals exact ⟨rfl, 0, rfl⟩
          · have hb3 : ((s[k].toNat : Int) == 0) = true := by rw [hb2]; rfl
            have Hb2 := Lib.hid hb2
            clear hb2
            go_wp2
            all_goals go_ret3
            all_goals exact ⟨rfl, 0, rfl⟩
        · have hnx := new_good k x s[k] (by omega) Hx.out (by omega)
          have Hbad := Lib.hid hbad
          obtain ⟨y, hy⟩ : ∃ y, y = x + s[k].toNat % 128 * 128 ^ k := ⟨_, rfl⟩
          rw [← hy] at hnx
          have Hy := Lib.hid hy
          clear hbad hy
          by_cases hc : s[k].toNat < 128
          · have hfin : R = some (zag y, s.data.toList.drop (k + 1)) := by rw [HR.out, Hy.out]; exact dec_good hl10 hls hr.out Hbad.out hc
            subst hfin
            have hsl : (k : Int) + 1 ≤ (s.size : Int) := by omega
            rcases good_cases Hbad.out hl10 with ⟨g1, g2, g3⟩ | ⟨g1, g2, g3⟩ | g1
            all_goals
              go_wp2
              go_quiet (fail)
              go_wp2
              go_ret3
              refine ⟨?_, _, rfl⟩
              exact ret_take (zag_form y (by rw [Hy.out]; exact new_bd (by omega) Hx.out (by have := Hbad.out; omega))) (by first | (rw [bs_drop]; done) | (rw [show k = 9 by omega, bs_drop]))
          · rcases good_cases Hbad.out hl10 with ⟨g1, g2, g3⟩ | ⟨g1, g2, g3⟩ | g1
            · omega
            all_goals
              go_wp2
              go_round
              case rel =>
                refine ⟨k + 1, y, by omega, by omega, Lib.hid (by rw [Hy.out]; exact new_lt Hx.out), by go_num, by go_num, Lib.hid ?_⟩
                rw [Hy.out]
                exact dec_more hl10 hls hr.out Hbad.out hc
              case measure => simp [intOf]; omega
      · first | have hge : (10 : Int) ≤ k := by omega | have hge : (s.size : Int) ≤ k := by omega
        have hfin : R = none := by rw [HR.out]; exact dec_end (by omega) hr.out
        subst hfin
        clear hlt
        go_wp2
        go_ret3
        exact ⟨rfl, 0, rfl⟩
end Go.Proofs.Yteknaeemjgpgbaa
