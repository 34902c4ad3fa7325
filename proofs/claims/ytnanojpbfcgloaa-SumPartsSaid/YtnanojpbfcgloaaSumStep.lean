/-
  The walk of sum.step: eight bits of the register. No condition but that the register is a number of 32 bits.
-/
import Derived.Test.YtnanojpbfcgloaaRows
import Derived.Test.YtnanojpbfcgloaaSumPure
import Derived.WalkKit
import Derived.WalkSpells
import Derived.WalkLawsBesides
import Derived.Lib.Hide
namespace Go.Proofs.Ytnanojpbfcgloaa
open Go.RowKit SumPure

theorem step_form (x : Nat) (hx : x < 4294967296) :
    bits BinOp.xor IntKind.u32 ((x : Int) / 2) (bits BinOp.and IntKind.u32 3988292384 (-bits BinOp.and IntKind.u32 (x : Int) 1 % 4294967296)) = ((S x : Nat) : Int) := by
  have h1 : bits .and .u32 (x : Int) 1 = ((x % 2 : Nat) : Int) := by
    have := u32_and_nat x 1 hx (by omega)
    rw [nat_mask1] at this; exact this
  rw [h1]
  unfold S
  rcases Nat.mod_two_eq_zero_or_one x with h | h
  · rw [h, if_neg (by omega)]
    have h2 : bits .and .u32 3988292384 (-((0 : Nat) : Int) % 4294967296) = ((0 : Nat) : Int) := by decide +kernel
    rw [h2]
    have h3 := u32_xor_nat (x / 2) 0 (by omega) (by omega)
    rw [Nat.xor_zero] at h3
    rw [← h3]; congr 1
  · rw [h, if_pos rfl]
    have h2 : bits .and .u32 3988292384 (-((1 : Nat) : Int) % 4294967296) = ((3988292384 : Nat) : Int) := by decide +kernel
    rw [h2]
    have h3 := u32_xor_nat (x / 2) 3988292384 (by omega) (by omega)
    rw [← h3]; congr 1

set_option maxHeartbeats 400000 in
theorem step_any (r : Nat) (w : World) (hr : r < 4294967296) :
    Calls Try.prog 27 #[.int .u32 r] w fun e w' => e = .returned (.int .u32 (iter 8 r : Nat)) ∧ w = w' := by
  go_enter Try.func27, Try.ntmps27
  go_wp2
  go_loop [0, 3] (fun v i => ∃ (k x : Nat), k ≤ 8 ∧ x < 4294967296 ∧ i = .int .i64 k ∧ v = .int .u32 x ∧ Hid (iter (8 - k) x = iter 8 r)) (fun _ i => 8 - (intOf i).toNat)
  case atStart => exact ⟨0, r, by omega, hr, rfl, rfl, Lib.hid rfl⟩
  case round =>
    obtain ⟨k, x, hk, hx, rfl, rfl, hi⟩ := hrel
    by_cases hlt : k < 8
    · go_wp2
      go_round
      case rel =>
        refine ⟨k + 1, S x, by omega, S_lt hx, by go_num, by rw [step_form x hx], ?_⟩
        have h := hi.out
        rw [show 8 - k = (8 - (k + 1)) + 1 by omega] at h
        exact Lib.hid h
      case measure => simp [intOf]; omega
    · go_wp2
      go_ret
      have h := hi.out
      rw [show 8 - k = 0 by omega] at h
      exact ⟨by rw [← h]; rfl, rfl⟩
end Go.Proofs.Ytnanojpbfcgloaa
