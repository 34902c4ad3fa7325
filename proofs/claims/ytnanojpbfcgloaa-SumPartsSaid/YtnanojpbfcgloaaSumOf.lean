/-
  The walks of sum.Of and of the reference's Of: the check of texts in a slice, and of one text.
-/
import Derived.Test.YtnanojpbfcgloaaSumStep
import Derived.Test.YtnanojpbfcgloaaMem
namespace Go.Proofs.Ytnanojpbfcgloaa
open Go.RowKit SumPure

def joined (ss : List ByteArray) : List UInt8 := ss.flatMap (fun s => s.data.toList)
theorem joined_take (ss : List ByteArray) (k : Nat) (hk : k < ss.length) : joined (ss.take (k + 1)) = joined (ss.take k) ++ (ss.getD k ByteArray.empty).data.toList := by
  rw [List.take_succ_eq_append_getElem hk]
  unfold joined
  rw [List.flatMap_append]
  simp [List.getD, List.getElem?_eq_getElem hk]
theorem take_snoc (s : ByteArray) (k : Nat) (h : k < s.size) : s.data.toList.take (k + 1) = s.data.toList.take k ++ [s[k]] := by
  rw [List.take_succ_eq_append_getElem (by simpa using h)]; rfl
theorem ret_u32 {a b : Int} (h : a = b) : Ending.returned (.int .u32 a) = .returned (.int .u32 b) := by rw [h]
def initCrc (l : List UInt8) : Nat := crc 4294967295 l
theorem initCrc_lt (l : List UInt8) : initCrc l < 4294967296 := crc_lt l (by omega)

theorem sum_eq (l : List UInt8) : sum l = 4294967295 - initCrc l := rfl
theorem byte_form (x : Nat) (c : UInt8) (hx : x < 4294967296) :
    bits BinOp.xor IntKind.u32 (bits BinOp.and IntKind.u32 (x : Int) 255) (c.toNat : Int) = ((x % 256 ^^^ c.toNat : Nat) : Int) := by
  have h1 := u32_and_nat x 255 hx (by omega)
  rw [nat_mask8] at h1
  have hc := c.toNat_lt
  rw [show ((255 : Int)) = ((255 : Nat) : Int) from rfl, h1, u32_xor_nat _ _ (by omega) (by omega)]
theorem byte_form2 (x y : Nat) (hx : x < 4294967296) (hy : y < 4294967296) :
    bits BinOp.xor IntKind.u32 ((x : Int) / 256) (y : Int) = ((x / 256 ^^^ y : Nat) : Int) := by
  rw [← u32_xor_nat _ _ (by omega) hy]; congr 1

theorem flip_form (x : Nat) (hx : x < 4294967296) : bits BinOp.xor IntKind.u32 (x : Int) 4294967295 = ((4294967295 - x : Nat) : Int) := by
  have h := u32_xor_nat x 4294967295 hx (by omega)
  rw [show ((4294967295 : Int)) = ((4294967295 : Nat) : Int) from rfl, h]
  congr 1
  apply Nat.eq_of_testBit_eq; intro i
  rw [Nat.testBit_xor, show (4294967295 : Nat) - x = 2 ^ 32 - (x + 1) by omega, Nat.testBit_two_pow_sub_succ hx, show (4294967295 : Nat) = 2 ^ 32 - 1 from rfl, Nat.testBit_two_pow_sub_one]
  by_cases hi : i < 32
  · simp [hi]
  · have hp : 2 ^ 32 ≤ 2 ^ i := Nat.pow_le_pow_right (by decide) (by omega)
    have : x.testBit i = false := Nat.testBit_lt_two_pow (Nat.lt_of_lt_of_le hx hp)
    simp [hi]; exact this

theorem flip_form' (x : Nat) (hx : x < 4294967296) : bits BinOp.xor IntKind.u32 IntKind.u32.max (x : Int) = ((4294967295 - x : Nat) : Int) := by
  rw [show IntKind.u32.max = 4294967295 by decide +kernel, ← flip_form x hx, show ((4294967295 : Int)) = ((4294967295 : Nat) : Int) from rfl, u32_xor_nat _ _ hx (by omega), u32_xor_nat _ _ (by omega) hx, Nat.xor_comm]

set_option maxHeartbeats 400000 in
theorem of_some (ss : List ByteArray) (b off cap : Nat) (w : World) (hm : ss.length ≤ 9223372036854775807) (hs : ∀ i, i < ss.length → (ss.getD i ByteArray.empty).size ≤ 9223372036854775807)
    (hb : b < w.heap.size) (hc : ∀ i, i < ss.length → w.cell? ⟨b, off + i, none⟩ = some (.string (ss.getD i ByteArray.empty))) :
    Calls Try.prog 16 #[.slice (some ⟨b, off, none⟩) ss.length cap] w fun e w' => e = .returned (.int .u32 (sum (joined ss) : Nat)) ∧ Below w.heap.size w w' := by
  have Hc := Lib.hid hc
  have Hs := Lib.hid hs
  clear hc hs
  have hcv := fun w s => strWorld_conv (P := Try.prog) (src := 9) (dst := 30) (e := 5) Try.underlying9 Try.underlying30 Try.underlying5 w s
  go_enter Try.func16, Try.ntmps16
  go_wp2
  go_loopw [3, 10] (fun v i wr => ∃ (k : Nat), k ≤ ss.length ∧ i = .int .i64 k ∧ v = .int .u32 (initCrc (joined (ss.take k)) : Nat) ∧ Below w.heap.size w wr) (fun _ i _ => ss.length - (intOf i).toNat)
  case atStart => exact ⟨0, by omega, rfl, rfl, Below.refl _ _⟩
  case round =>
    obtain ⟨k, hk, rfl, rfl, hbel⟩ := hrel
    obtain ⟨x, hxe⟩ : ∃ x, x = initCrc (joined (ss.take k)) := ⟨_, rfl⟩
    rw [← hxe]
    have hx : x < 4294967296 := hxe ▸ initCrc_lt _
    have Hx := Lib.hid hxe
    clear hxe
    have Hb := Lib.hid hbel
    by_cases hlt : k < ss.length
    · obtain ⟨s, hse⟩ : ∃ s, s = ss.getD k ByteArray.empty := ⟨_, rfl⟩
      have hcell : wr.cell? ⟨b, off + k, none⟩ = some (.string s) := by rw [hbel.cell (by exact hb), hse]; exact Hc.out k hlt
      have hsz : s.size ≤ 9223372036854775807 := hse ▸ Hs.out k hlt
      have Hse := Lib.hid hse
      clear hbel hse
      go_wp2
      obtain ⟨wo, hwo⟩ : ∃ wo : World, wo = strWorld 5 wr s := ⟨_, rfl⟩
      have hcl : ∀ j (hj : j < s.size), wo.cell? ⟨wr.heap.size, j, none⟩ = some (.int .u8 (s[j].toNat : Int)) := by subst hwo; exact strWorld_cell _ _ _
      have hbo : Hid (Below w.heap.size w wo) := by subst hwo; exact Lib.hid (Hb.out.trans (strWorld_below _ _ _ Hb.out.size))
      rw [← hwo]
      clear hwo
      have Hcl := Lib.hid hcl
      clear hcl
      go_loop [3, 17] (fun v i => ∃ (j : Nat), j ≤ s.size ∧ i = .int .i64 j ∧ v = .int .u32 (crc x (s.data.toList.take j) : Nat)) (fun _ i => s.size - (intOf i).toNat)
      case atStart => exact ⟨0, by omega, rfl, rfl⟩
      case round =>
        obtain ⟨j, hj, rfl, rfl⟩ := hrel
        obtain ⟨y, hye⟩ : ∃ y, y = crc x (s.data.toList.take j) := ⟨_, rfl⟩
        rw [← hye]
        have hy : y < 4294967296 := hye ▸ crc_lt _ hx
        have Hy := Lib.hid hye
        clear hye
        by_cases hjl : j < s.size
        · have hcj := Hcl.out j hjl
          obtain ⟨c, hce⟩ : ∃ c, c = s[j] := ⟨_, rfl⟩
          rw [← hce] at hcj
          have Hce := Lib.hid hce
          clear hce
          have hbf := byte_form y c hy
          have hmod : (c.toNat : Int) % 4294967296 = (c.toNat : Int) := by have := c.toNat_lt; omega
          have hxl : y % 256 ^^^ c.toNat < 4294967296 := Nat.xor_lt_two_pow (n := 32) (by omega) (by have := c.toNat_lt; omega)
          go_wp2_with (go_at_call 27; (with_reducible refine (step_any (y % 256 ^^^ c.toNat) _ hxl).mono ?_); rintro e w' ⟨rfl, rfl⟩)
          go_round
          case rel =>
            refine ⟨j + 1, by omega, by go_num, ?_⟩
            rw [byte_form2 y _ hy (iter_lt 8 hxl), take_snoc s j hjl, crc_snoc, ← Hy.out, ← Hce.out]; rfl
          case measure => simp [intOf]; omega
        · go_wp2
          go_roundw
          case rel =>
            refine ⟨k + 1, by omega, by go_num, ?_, hbo.out⟩
            rw [Hy.out, joined_take ss k hlt, List.take_of_length_le (by simp; exact Nat.le_of_not_lt hjl), Hx.out, ← Hse.out]
            unfold initCrc
            rw [crc_append]
          case measure => simp [intOf]; omega
    · go_wp2
      go_ret
      have h1 := Hx.out
      rw [List.take_of_length_le (by omega)] at h1
      subst h1
      refine ⟨?_ , Hb.out⟩
      exact ret_u32 (by rw [sum_eq]; exact flip_form' _ (initCrc_lt _))

set_option maxHeartbeats 400000 in
theorem of_nil (w : World) :
    Calls Try.prog 16 #[.slice none 0 0] w fun e w' => e = .returned (.int .u32 (0 : Nat)) ∧ Below w.heap.size w w' := by
  go_enter Try.func16, Try.ntmps16
  go_wp2
  go_loopw [3, 10] (fun v i wr => i = .int .i64 0 ∧ v = .int .u32 4294967295 ∧ wr = w) (fun _ _ _ => 0)
  case atStart => exact ⟨rfl, rfl, rfl⟩
  case round =>
    obtain ⟨rfl, rfl, rfl⟩ := hrel
    go_wp2
    go_ret
    exact ⟨ret_u32 (by decide +kernel), Below.refl _ _⟩

theorem ref_bit (j : Nat) (c : UInt8) : bits BinOp.and IntKind.u32 ((c.toNat : Int) / 2 ^ j % 4294967296) 1 = ((c.toNat / 2 ^ j % 2 : Nat) : Int) := by
  have hc := c.toNat_lt
  have hl : c.toNat / 2 ^ j < 4294967296 := Nat.lt_of_le_of_lt (Nat.div_le_self _ _) (by omega)
  have h1 := u32_and_nat (c.toNat / 2 ^ j) 1 hl (by omega)
  rw [nat_mask1] at h1
  have h2 : ((c.toNat : Int) / 2 ^ j % 4294967296) = ((c.toNat / 2 ^ j : Nat) : Int) := by
    have e : ((c.toNat : Int) / 2 ^ j) = ((c.toNat / 2 ^ j : Nat) : Int) := by rw [Int.natCast_ediv, Int.natCast_pow]; rfl
    rw [e]; generalize c.toNat / 2 ^ j = m at *; omega
  rw [h2]; exact h1
theorem and_one (y : Nat) (hy : y < 4294967296) : bits BinOp.and IntKind.u32 (y : Int) 1 = ((y % 2 : Nat) : Int) := by
  have h1 := u32_and_nat y 1 hy (by omega)
  rw [nat_mask1] at h1
  exact h1
theorem test_no (j y : Nat) (c : UInt8) (hy : y < 4294967296) (h : c.toNat / 2 ^ j % 2 = y % 2) :
    (bits BinOp.and IntKind.u32 ((c.toNat : Int) / 2 ^ j % 4294967296) 1 != bits BinOp.and IntKind.u32 (y : Int) 1) = false := by
  rw [ref_bit, and_one y hy, h]; simp
theorem test_yes (j y : Nat) (c : UInt8) (hy : y < 4294967296) (h : ¬ c.toNat / 2 ^ j % 2 = y % 2) :
    (bits BinOp.and IntKind.u32 ((c.toNat : Int) / 2 ^ j % 4294967296) 1 != bits BinOp.and IntKind.u32 (y : Int) 1) = true := by
  rw [ref_bit, and_one y hy]; generalize c.toNat / 2 ^ j = m at *; rw [bne_iff_ne]; omega
theorem R_lt {r bit : Nat} (h : r < 4294967296) : R r bit < 4294967296 := by
  unfold R; split
  · omega
  · exact Nat.xor_lt_two_pow (n := 32) (by omega) (by omega)
theorem ref_step {j y c z : Nat} (hjl : j < 8) (h : refBits (8 - j) y (c / 2 ^ j) = z) : refBits (8 - (j + 1)) (R y (c / 2 ^ j % 2)) (c / 2 ^ (j + 1)) = z := by
  rw [show 8 - j = (8 - (j + 1)) + 1 by omega] at h
  rw [Nat.pow_succ, ← Nat.div_div_eq_div_mul]
  exact h
theorem poly_form (y : Nat) (hy : y < 4294967296) : bits BinOp.xor IntKind.u32 ((y : Int) / 2) 3988292384 = ((y / 2 ^^^ 3988292384 : Nat) : Int) := by
  rw [← u32_xor_nat _ _ (by omega) (by omega)]; congr 1
set_option maxHeartbeats 400000 in
theorem refOf_any (s : ByteArray) (w : World) (hs : s.size ≤ 9223372036854775807) :
    Calls Try.prog 17 #[.string s] w fun e w' => e = .returned (.int .u32 (sum s.data.toList : Nat)) ∧ w = w' := by
  go_enter Try.func17, Try.ntmps17
  go_wp2
  go_loop [3, 4] (fun v i => ∃ (k : Nat), k ≤ s.size ∧ i = .int .i64 k ∧ v = .int .u32 (initCrc (s.data.toList.take k) : Nat)) (fun _ i => s.size - (intOf i).toNat)
  case atStart => exact ⟨0, by omega, rfl, rfl⟩
  case round =>
    obtain ⟨k, hk, rfl, rfl⟩ := hrel
    obtain ⟨x, hxe⟩ : ∃ x, x = initCrc (s.data.toList.take k) := ⟨_, rfl⟩
    rw [← hxe]
    have hx : x < 4294967296 := hxe ▸ initCrc_lt _
    have Hx := Lib.hid hxe
    clear hxe
    by_cases hlt : k < s.size
    · go_wp2
      go_loop [3, 5] (fun v i => ∃ (j y : Nat), j ≤ 8 ∧ y < 4294967296 ∧ i = .int .i64 j ∧ v = .int .u32 y ∧ Hid (refBits (8 - j) y (s[k].toNat / 2 ^ j) = byte x s[k].toNat)) (fun _ i => 8 - (intOf i).toNat)
      case atStart => exact ⟨0, x, by omega, hx, rfl, rfl, Lib.hid (by rw [byte_ref _ _ (UInt8.toNat_lt _)]; simp)⟩
      case round =>
        obtain ⟨j, y, hj, hy, rfl, rfl, Hr⟩ := hrel
        by_cases hjl : j < 8
        · obtain ⟨c, hce⟩ : ∃ c, c = s[k] := ⟨_, rfl⟩
          rw [← hce] at Hr
          by_cases hbit : c.toNat / 2 ^ j % 2 = y % 2
          · have ht := test_no j y c hy hbit
            rw [hce] at ht
            have Hbit := Lib.hid hbit
            have Hce := Lib.hid hce
            clear hbit hce
            go_wp2
            go_round
            case rel =>
              refine ⟨j + 1, R y (c.toNat / 2 ^ j % 2), by omega, R_lt hy, by go_num, ?_, ?_⟩
              · unfold R; rw [if_pos Hbit.out]; go_num
              · rw [← Hce.out]; exact Lib.hid (ref_step hjl Hr.out)
            case measure => simp [intOf]; omega
          · have ht := test_yes j y c hy hbit
            rw [hce] at ht
            have Hbit := Lib.hid hbit
            have Hce := Lib.hid hce
            clear hbit hce
            go_wp2
            go_round
            case rel =>
              refine ⟨j + 1, R y (c.toNat / 2 ^ j % 2), by omega, R_lt hy, by go_num, ?_, ?_⟩
              · unfold R; rw [if_neg Hbit.out, poly_form y hy]
              · rw [← Hce.out]; exact Lib.hid (ref_step hjl Hr.out)
            case measure => simp [intOf]; omega
        · go_wp2
          go_round
          case rel =>
            refine ⟨k + 1, by omega, by go_num, ?_⟩
            have h := Hr.out
            rw [show 8 - j = 0 by omega] at h
            rw [take_snoc s k hlt]
            unfold initCrc
            rw [crc_snoc]
            have h2 := Hx.out
            unfold initCrc at h2
            rw [← h2, ← h]; rfl
          case measure => simp [intOf]; omega
    · go_wp2
      go_ret
      have h1 := Hx.out
      rw [List.take_of_length_le (by simp; exact Nat.le_of_not_lt hlt)] at h1
      subst h1
      exact ⟨ret_u32 (by rw [flip_form _ (initCrc_lt _), sum_eq]), rfl⟩
end Go.Proofs.Ytnanojpbfcgloaa
