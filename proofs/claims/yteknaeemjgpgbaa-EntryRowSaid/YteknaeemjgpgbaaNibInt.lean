/-
  The walks of nib.Int and of the reference's Int and fold: a number as bytes.
-/
import Derived.Test.YteknaeemjgpgbaaBytes
import Derived.Test.YteknaeemjgpgbaaNibPure
namespace Go.Proofs.Yteknaeemjgpgbaa
open Go.RowKit NibPure

theorem ret_str {a b : ByteArray} (h : a = b) : Ending.returned (.string a) = .returned (.string b) := by rw [h]
theorem ret_u64 {a b : Int} (h : a = b) : Ending.returned (.int .u64 a) = .returned (.int .u64 b) := by rw [h]
theorem flip64 (x : Nat) (hx : x < 18446744073709551616) : bits .xor .u64 (x : Int) 18446744073709551615 = ((18446744073709551615 - x : Nat) : Int) := by
  have h := u64_xor_nat x 18446744073709551615 hx (by omega)
  rw [show ((18446744073709551615 : Int)) = ((18446744073709551615 : Nat) : Int) from rfl, h]
  congr 1
  apply Nat.eq_of_testBit_eq; intro i
  rw [Nat.testBit_xor, show (18446744073709551615 : Nat) - x = 2 ^ 64 - (x + 1) by omega, Nat.testBit_two_pow_sub_succ hx, show (18446744073709551615 : Nat) = 2 ^ 64 - 1 from rfl, Nat.testBit_two_pow_sub_one]
  by_cases hi : i < 64
  · simp [hi]
  · have hp : 2 ^ 64 ≤ 2 ^ i := Nat.pow_le_pow_right (by decide) (by omega)
    have : x.testBit i = false := Nat.testBit_lt_two_pow (Nat.lt_of_lt_of_le hx hp)
    simp [hi]; exact this
theorem zig_form (n : Int) (h1 : -9223372036854775808 ≤ n) (h2 : n ≤ 9223372036854775807) :
    bits BinOp.xor IntKind.u64 (IntKind.u64.wrap (IntKind.u64.wrap n * 2)) (IntKind.u64.wrap (n / 9223372036854775808)) = ((zig n : Nat) : Int) := by
  simp only [IntKind.wrap_u64]
  by_cases hn : n < 0
  · have e1 : n % 18446744073709551616 * 2 % 18446744073709551616 = ((18446744073709551616 + 2 * n).toNat : Int) := by omega
    have e2 : n / 9223372036854775808 % 18446744073709551616 = 18446744073709551615 := by omega
    rw [e1, e2, flip64 _ (by omega)]
    unfold zig; rw [if_pos hn]; omega
  · have e1 : n % 18446744073709551616 * 2 % 18446744073709551616 = ((2 * n.toNat : Nat) : Int) := by omega
    have e2 : n / 9223372036854775808 % 18446744073709551616 = ((0 : Nat) : Int) := by omega
    rw [e1, e2, u64_xor_nat _ _ (by omega) (by omega), Nat.xor_zero]
    unfold zig; rw [if_neg hn]
theorem or_form (u : Nat) : bits .or .u8 ((u : Int) % 256) 128 = ((u % 128 + 128 : Nat) : Int) := by
  have h := u8_or_nat (u % 256) 128 (by omega) (by omega)
  have e : ((u : Int) % 256) = ((u % 256 : Nat) : Int) := by omega
  rw [e, show ((128 : Int)) = ((128 : Nat) : Int) from rfl, h]
  congr 1
  have key : ∀ x : Fin 256, (x.val ||| 128) = x.val % 128 + 128 := by decide +kernel
  have := key ⟨u % 256, by omega⟩
  simp only at this
  rw [this]; omega
theorem lebF_big {k u : Nat} (h : ¬ u < 128) : lebF (k + 1) u = UInt8.ofNat (u % 128 + 128) :: lebF k (u / 128) := by
  rw [lebF, if_neg h]
theorem lebF_small {k u : Nat} (h : u < 128) (hk : u < 2 * 128 ^ k) : lebF k u = [UInt8.ofNat u] := by
  cases k with
  | zero => rfl
  | succ k => rw [lebF, if_pos h]

set_option maxRecDepth 100000 in
set_option maxHeartbeats 400000 in
theorem nibInt_any (n : Int) (w : World) (h1 : -9223372036854775808 ≤ n) (h2 : n ≤ 9223372036854775807) :
    Calls Try.prog 22 #[.int .i64 n] w fun e w' => e = .returned (.string (bs (enc n))) ∧ Below w.heap.size w w' := by
  have hz := zig_form n h1 h2
  have hzl := zig_lt h1 h2
  go_enter Try.func22, Try.ntmps22
  go_wp2
  clear hz
  obtain ⟨z, hze⟩ : ∃ z, z = zig n := ⟨_, rfl⟩
  have hL : Hid (lebF 9 z = enc n) := by rw [hze]; exact Lib.hid rfl
  rw [← hze] at hzl ⊢
  clear hze
  generalize IntKind.u64.wrap (n / 9223372036854775808) = g1
  generalize n / 9223372036854775808 = g2
  generalize IntKind.u64.wrap (IntKind.u64.wrap n * 2) = g3
  generalize IntKind.u64.wrap n = g4
  clear h1 h2
  go_loopw [3, 4] (fun u v wr => ∃ (k x : Nat) (l : List UInt8), u = .int .u64 x ∧ k ≤ 9 ∧ l.length + k = 9 ∧ x < 2 * 128 ^ k ∧ RowB w.heap.size wr v l ∧ Hid (l ++ lebF k x = enc n) ∧ Below w.heap.size w wr) (fun u _ _ => (intOf u).toNat)
  case atStart => exact ⟨9, z, [], rfl, by omega, rfl, by omega, RowB.nil _ _, hL, Below.refl _ _⟩
  case round =>
    obtain ⟨k, x, l, rfl, hk, hlk, hx, hrow, hl, hb⟩ := hrel
    have hxl : x < 18446744073709551616 := by
      refine Nat.lt_of_lt_of_le hx ?_
      have : 128 ^ k ≤ 128 ^ 9 := Nat.pow_le_pow_right (by omega) hk
      omega
    have Hx := Lib.hid hx
    clear hx
    by_cases hlt : x < 128
    · go_wp2_with (at_builtin; refine append_byte rfl (.tmp 22) (.tmp 25) rfl w.heap.size wr _ l (UInt8.ofNat x) _ rfl rfl hrow (by simp; omega) (by omega) hb.size ?_; intro v2 w2 hrow2 hb2; have hcv := row_string hrow2)
      go_ret
      have h := hl.out
      rw [lebF_small hlt Hx.out] at h
      exact ⟨by rw [← h]; rfl, hb.trans hb2⟩
    · have hor := or_form x
      go_wp2_with (at_builtin; refine append_byte rfl (.tmp 16) (.tmp 20) rfl w.heap.size wr _ l (UInt8.ofNat (x % 128 + 128)) _ rfl rfl hrow (by simp; omega) (by omega) hb.size ?_; intro v2 w2 hrow2 hb2)
      go_roundw
      case rel =>
        obtain ⟨k, rfl⟩ : ∃ k', k = k' + 1 := by
          cases k with
          | zero => have := Hx.out; omega
          | succ k' => exact ⟨k', rfl⟩
        refine ⟨k, x / 128, l ++ [UInt8.ofNat (x % 128 + 128)], by go_num, by omega, by simp; omega, ?_, hrow2, ?_, hb.trans hb2⟩
        · have h := Hx.out
          rw [Nat.pow_succ] at h
          apply Nat.div_lt_of_lt_mul
          rw [Nat.mul_comm 128, Nat.mul_assoc]; exact h
        · have h := hl.out
          rw [lebF_big hlt] at h
          refine Lib.hid ?_
          rw [List.append_assoc]; exact h
      case measure => simp [intOf]; omega
set_option maxHeartbeats 400000 in
theorem refFold_any (n : Int) (w : World) (h1 : -9223372036854775808 ≤ n) (h2 : n ≤ 9223372036854775807) :
    Calls Try.prog 35 #[.int .i64 n] w fun e w' => e = .returned (.int .u64 (zig n : Nat)) ∧ w = w' := by
  by_cases hn : n < 0
  · have hz : (zig n : Int) = 2 * -(n + 1) + 1 := by unfold zig; rw [if_pos hn]; omega
    rw [hz]
    clear hz
    go_enter Try.func35, Try.ntmps35
    go_wp2
    go_ret
    exact ⟨rfl, rfl⟩
  · have hz : (zig n : Int) = 2 * n := by unfold zig; rw [if_neg hn]; omega
    rw [hz]
    clear hz
    go_enter Try.func35, Try.ntmps35
    go_wp2
    go_ret
    exact ⟨rfl, rfl⟩
end Go.Proofs.Yteknaeemjgpgbaa
