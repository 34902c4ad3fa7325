/-
  Numbers as bytes, in plain words: the folded number, seven bits a byte, and how they are read. Nothing of the program is named here.
-/
import Derived.Test.YtakdagmkkelnfaaBase
import Derived.Deep.QuietTactic
import Derived.BigQuiet
/-! Numbers as bytes, in plain words: the folded number, seven bits a byte, and how they are read. Nothing of the program is named here. -/
namespace Go.Proofs.Ytakdagmkkelnfaa.NibPure

/-- The folded number. -/
def zig (n : Int) : Nat := if n < 0 then 2 * (-(n + 1)).toNat + 1 else 2 * n.toNat
/-- The number of a folded one. -/
def zag (u : Nat) : Int := if u % 2 = 1 then -((u / 2 : Nat) : Int) - 1 else ((u / 2 : Nat) : Int)
/-- Seven bits a byte, at most k + 1 bytes. -/
def lebF : Nat → Nat → List UInt8
  | 0, u => [UInt8.ofNat u]
  | k + 1, u => if u < 128 then [UInt8.ofNat u] else UInt8.ofNat (u % 128 + 128) :: lebF k (u / 128)
def leb (u : Nat) : List UInt8 := lebF 9 u
def enc (n : Int) : List UInt8 := leb (zig n)

/-- What the bytes from number i on read as, s so far. -/
def readF : Nat → Nat → Nat → List UInt8 → Option (Nat × List UInt8)
  | 0, _, _, _ => none
  | _, _, _, [] => none
  | k + 1, i, s, b :: l =>
    if (i = 9 ∧ 1 < b.toNat) ∨ (0 < i ∧ b.toNat = 0) then none
    else if b.toNat < 128 then some (s + b.toNat * 128 ^ i, l)
    else readF k (i + 1) (s + (b.toNat - 128) * 128 ^ i) l
/-- The number that bytes begin with, and what stands behind it. -/
def dec (l : List UInt8) : Option (Int × List UInt8) := (readF 10 0 0 l).map fun p => (zag p.1, p.2)

theorem zag_zig (n : Int) : zag (zig n) = n := by unfold zag zig; split <;> split <;> omega
theorem zig_zag (u : Nat) : zig (zag u) = u := by unfold zag zig; split <;> split <;> omega
theorem zig_lt {n : Int} (h1 : -9223372036854775808 ≤ n) (h2 : n ≤ 9223372036854775807) : zig n < 18446744073709551616 := by unfold zig; split <;> omega
theorem zag_bd {u : Nat} (h : u < 18446744073709551616) : -9223372036854775808 ≤ zag u ∧ zag u ≤ 9223372036854775807 := by unfold zag; split <;> omega
theorem zig_inj {a b : Int} (h : zig a = zig b) : a = b := by rw [← zag_zig a, ← zag_zig b, h]

theorem lebF_ne (k u : Nat) : lebF k u ≠ [] := by cases k <;> simp [lebF]; split <;> simp
theorem lebF_pos (k u : Nat) : 1 ≤ (lebF k u).length := by
  have := lebF_ne k u
  cases h : lebF k u with
  | nil => exact absurd h this
  | cons a l => simp
theorem lebF_len (k : Nat) : ∀ u, (lebF k u).length ≤ k + 1 := by
  induction k with
  | zero => intro u; simp [lebF]
  | succ k ih => intro u; unfold lebF; split <;> simp; exact ih _
theorem leb_len (u : Nat) : (leb u).length ≤ 10 := lebF_len 9 u
theorem enc_len (n : Int) : (enc n).length ≤ 10 := leb_len _
theorem enc_pos (n : Int) : 1 ≤ (enc n).length := lebF_pos _ _
theorem enc_ne (n : Int) : enc n ≠ [] := lebF_ne _ _

/-- Written and read: from byte i on, what stands behind is left. -/
theorem readF_lebF : ∀ (k i s u : Nat) (r : List UInt8), i + k = 9 → (0 < i → 0 < u) → u < 2 * 128 ^ k → readF (k + 1) i s (lebF k u ++ r) = some (s + u * 128 ^ i, r)
  | 0, i, s, u, r, hi, h0, hu => by
    have hu2 : u < 2 := by simpa using hu
    have hb : (UInt8.ofNat u).toNat = u := by simp; omega
    simp only [lebF, readF, List.cons_append, List.nil_append, hb]
    rw [if_neg (by omega), if_pos (by omega)]
  | k + 1, i, s, u, r, hi, h0, hu => by
    unfold lebF
    by_cases h : u < 128
    · have hb : (UInt8.ofNat u).toNat = u := by simp; omega
      rw [if_pos h]
      simp only [readF, List.cons_append, List.nil_append, hb]
      rw [if_neg (by omega), if_pos h]
    · have hb : (UInt8.ofNat (u % 128 + 128)).toNat = u % 128 + 128 := by simp; omega
      rw [if_neg h]
      simp only [List.cons_append]
      unfold readF
      simp only [hb]
      rw [if_neg (by omega), if_neg (by omega)]
      have hk : u / 128 < 2 * 128 ^ k := by
        rw [Nat.pow_succ] at hu
        apply Nat.div_lt_of_lt_mul
        rw [Nat.mul_comm 128]; rw [Nat.mul_assoc]; exact hu
      rw [readF_lebF k (i + 1) _ (u / 128) r (by omega) (by omega) hk]
      have e : s + (u % 128 + 128 - 128) * 128 ^ i + u / 128 * 128 ^ (i + 1) = s + u * 128 ^ i := by
        rw [Nat.add_sub_cancel, Nat.pow_succ, Nat.add_assoc, ← Nat.mul_assoc, Nat.mul_right_comm, ← Nat.add_mul]
        congr 2
        omega
      rw [e]
theorem dec_enc {n : Int} (h1 : -9223372036854775808 ≤ n) (h2 : n ≤ 9223372036854775807) (r : List UInt8) : dec (enc n ++ r) = some (n, r) := by
  have h := readF_lebF 9 0 0 (zig n) r rfl (by omega) (by have := zig_lt h1 h2; omega)
  unfold dec enc leb
  rw [h]
  simp [zag_zig]

/-- What is read, written again, is what was read. -/
theorem lebF_readF : ∀ (k i s : Nat) (l : List UInt8) (v : Nat) (r : List UInt8), i + k = 9 → readF (k + 1) i s l = some (v, r) →
    ∃ u, v = s + u * 128 ^ i ∧ u < 2 * 128 ^ k ∧ (0 < i → 0 < u) ∧ lebF k u ++ r = l
  | _, _, _, [], _, _, _, h => by simp [readF] at h
  | 0, i, s, b :: l, v, r, hi, h => by
    unfold readF at h
    split at h
    · cases h
    · split at h
      · simp at h
        refine ⟨b.toNat, by omega, by simp; omega, by omega, ?_⟩
        simp [lebF, h.2]
      · simp [readF] at h
  | k + 1, i, s, b :: l, v, r, hi, h => by
    unfold readF at h
    split at h
    · cases h
    · rename_i hn
      split at h
      · rename_i hb
        simp at h
        have hp : 1 ≤ 128 ^ k := Nat.pos_of_ne_zero (by simp)
        refine ⟨b.toNat, by omega, ?_, by omega, ?_⟩
        · rw [Nat.pow_succ]; omega
        · unfold lebF; rw [if_pos hb]; simp [h.2]
      · rename_i hb
        obtain ⟨u, hv, hu, h0, hl⟩ := lebF_readF k (i + 1) _ l v r (by omega) h
        have hb2 := b.toNat_lt
        refine ⟨u * 128 + (b.toNat - 128), ?_, ?_, by omega, ?_⟩
        · rw [hv, Nat.pow_succ]
          generalize 128 ^ i = p
          generalize b.toNat - 128 = c
          rw [Nat.add_mul, Nat.mul_comm p 128, ← Nat.mul_assoc]
          omega
        · rw [Nat.pow_succ]; omega
        · have hu1 := h0 (by omega)
          unfold lebF
          rw [if_neg (by omega), show (u * 128 + (b.toNat - 128)) / 128 = u by omega, show (u * 128 + (b.toNat - 128)) % 128 + 128 = b.toNat by omega]
          simp [hl]
theorem enc_dec {l r : List UInt8} {n : Int} (h : dec l = some (n, r)) : enc n ++ r = l ∧ -9223372036854775808 ≤ n ∧ n ≤ 9223372036854775807 := by
  unfold dec at h
  simp only [Option.map_eq_some_iff, Prod.exists, Prod.mk.injEq] at h
  obtain ⟨v, r', h, rfl, rfl⟩ := h
  obtain ⟨u, hv, hu, _, hl⟩ := lebF_readF 9 0 0 l v r' rfl h
  have : v = u := by simpa using hv
  subst this
  refine ⟨?_, zag_bd (by omega)⟩
  unfold enc leb
  rw [zig_zag]; exact hl
theorem dec_len {l r : List UInt8} {n : Int} (h : dec l = some (n, r)) : r.length < l.length := by
  have h1 := (enc_dec h).1
  have h2 := enc_pos n
  rw [← h1]; simp; omega
/-- No number's bytes begin with another one's; cut off they are none's. -/
theorem enc_prefix {a b : Int} (ha1 : -9223372036854775808 ≤ a) (ha2 : a ≤ 9223372036854775807) (hb1 : -9223372036854775808 ≤ b) (hb2 : b ≤ 9223372036854775807) {r t : List UInt8} (h : enc a ++ r = enc b ++ t) : a = b := by
  have h1 := dec_enc ha1 ha2 r
  have h2 := dec_enc hb1 hb2 t
  rw [h, h2] at h1
  simp at h1
  exact h1.1.symm
theorem dec_none {a : Int} (ha1 : -9223372036854775808 ≤ a) (ha2 : a ≤ 9223372036854775807) (k : Nat) (hk : k < (enc a).length) : dec ((enc a).take k) = none := by
  cases h : dec ((enc a).take k) with
  | none => rfl
  | some p =>
    obtain ⟨n, r⟩ := p
    obtain ⟨h1, h2, h3⟩ := enc_dec h
    have h4 : enc n ++ (r ++ (enc a).drop k) = enc a ++ [] := by
      rw [← List.append_assoc, h1]; simp
    have h5 := enc_prefix h2 h3 ha1 ha2 h4
    subst h5
    have h6 := congrArg List.length h1
    simp at h6
    omega
end Go.Proofs.Ytakdagmkkelnfaa.NibPure

/-! The walks of nib.Int and of the reference's Int and fold: a number as bytes. -/
namespace Go.Proofs.Ytakdagmkkelnfaa
open Go.RowKit NibPure

theorem ret_str {a b : ByteArray} (h : a = b) : Ending.returned (.string a) = .returned (.string b) := by rw [h]
theorem ret_u64 {a b : Int} (h : a = b) : Ending.returned (.int .u64 a) = .returned (.int .u64 b) := by rw [h]
theorem flip64 (x : Nat) (hx : x < 18446744073709551616) : bits .xor .u64 (x : Int) 18446744073709551615 = ((18446744073709551615 - x : Nat) : Int) := by
  have h := u64_xor_nat x 18446744073709551615 hx (by omega)
  rw [show ((18446744073709551615 : Int)) = ((18446744073709551615 : Nat) : Int) from rfl, h]
  congr 1
  apply Nat.eq_of_testBit_eq; intro i
  rw [Nat.testBit_xor, show (18446744073709551615 : Nat) - x = 2 ^ 64 - (x + 1) by omega, Nat.testBit_two_pow_sub_succ hx, show (18446744073709551615 : Nat) = 2 ^ 64 - 1 from rfl, Nat.testBit_two_pow_sub_one]
  by_cases hi : i < 64
  · simp [hi]
  · have hp : 2 ^ 64 ≤ 2 ^ i := Nat.pow_le_pow_right (by decide) (by omega)
    have : x.testBit i = false := Nat.testBit_lt_two_pow (Nat.lt_of_lt_of_le hx hp)
    simp [hi]; exact this
theorem zig_form (n : Int) (h1 : -9223372036854775808 ≤ n) (h2 : n ≤ 9223372036854775807) :
    bits BinOp.xor IntKind.u64 (IntKind.u64.wrap (IntKind.u64.wrap n * 2)) (IntKind.u64.wrap (n / 9223372036854775808)) = ((zig n : Nat) : Int) := by
  simp only [IntKind.wrap_u64]
  by_cases hn : n < 0
  · have e1 : n % 18446744073709551616 * 2 % 18446744073709551616 = ((18446744073709551616 + 2 * n).toNat : Int) := by omega
    have e2 : n / 9223372036854775808 % 18446744073709551616 = 18446744073709551615 := by omega
    rw [e1, e2, flip64 _ (by omega)]
    unfold zig; rw [if_pos hn]; omega
  · have e1 : n % 18446744073709551616 * 2 % 18446744073709551616 = ((2 * n.toNat : Nat) : Int) := by omega
    have e2 : n / 9223372036854775808 % 18446744073709551616 = ((0 : Nat) : Int) := by omega
    rw [e1, e2, u64_xor_nat _ _ (by omega) (by omega), Nat.xor_zero]
    unfold zig; rw [if_neg hn]
theorem or_form (u : Nat) : bits .or .u8 ((u : Int) % 256) 128 = ((u % 128 + 128 : Nat) : Int) := by
  have h := u8_or_nat (u % 256) 128 (by omega) (by omega)
  have e : ((u : Int) % 256) = ((u % 256 : Nat) : Int) := by omega
  rw [e, show ((128 : Int)) = ((128 : Nat) : Int) from rfl, h]
  congr 1
  have key : ∀ x : Fin 256, (x.val ||| 128) = x.val % 128 + 128 := by decide +kernel
  have := key ⟨u % 256, by omega⟩
  simp only at this
  rw [this]; omega
theorem lebF_big {k u : Nat} (h : ¬ u < 128) : lebF (k + 1) u = UInt8.ofNat (u % 128 + 128) :: lebF k (u / 128) := by
  rw [lebF, if_neg h]
theorem lebF_small {k u : Nat} (h : u < 128) (hk : u < 2 * 128 ^ k) : lebF k u = [UInt8.ofNat u] := by
  cases k with
  | zero => rfl
  | succ k => rw [lebF, if_pos h]

set_option maxRecDepth 100000 in
set_option maxHeartbeats 400000 in
theorem nibInt_any (n : Int) (w : World) (h1 : -9223372036854775808 ≤ n) (h2 : n ≤ 9223372036854775807) :
    Calls Try.prog 60 #[.int .i64 n] w fun e w' => e = .returned (.string (bs (enc n))) ∧ Below w.heap.size w w' := by
  have hz := zig_form n h1 h2
  have hzl := zig_lt h1 h2
  go_enter Try.func60, Try.ntmps60
  go_wp2
  clear hz
  obtain ⟨z, hze⟩ : ∃ z, z = zig n := ⟨_, rfl⟩
  have hL : Hid (lebF 9 z = enc n) := by rw [hze]; exact Lib.hid rfl
  rw [← hze] at hzl ⊢
  clear hze
  generalize IntKind.u64.wrap (n / 9223372036854775808) = g1
  generalize n / 9223372036854775808 = g2
  generalize IntKind.u64.wrap (IntKind.u64.wrap n * 2) = g3
  generalize IntKind.u64.wrap n = g4
  clear h1 h2
  go_loopw [3, 4] (fun u v wr => ∃ (k x : Nat) (l : List UInt8), u = .int .u64 x ∧ k ≤ 9 ∧ l.length + k = 9 ∧ x < 2 * 128 ^ k ∧ RowB w.heap.size wr v l ∧ Hid (l ++ lebF k x = enc n) ∧ Below w.heap.size w wr) (fun u _ _ => (intOf u).toNat)
  case atStart => exact ⟨9, z, [], rfl, by omega, rfl, by omega, RowB.nil _ _, hL, Below.refl _ _⟩
  case round =>
    obtain ⟨k, x, l, rfl, hk, hlk, hx, hrow, hl, hb⟩ := hrel
    have hxl : x < 18446744073709551616 := by
      refine Nat.lt_of_lt_of_le hx ?_
      have : 128 ^ k ≤ 128 ^ 9 := Nat.pow_le_pow_right (by omega) hk
      omega
    have Hx := Lib.hid hx
    clear hx
    by_cases hlt : x < 128
    · go_wp2_with (at_builtin; refine append_byte rfl (.tmp 22) (.tmp 25) rfl w.heap.size wr _ l (UInt8.ofNat x) _ rfl rfl hrow (by simp; omega) (by omega) hb.size ?_; intro v2 w2 hrow2 hb2; have hcv := row_string hrow2)
      go_ret
      have h := hl.out
      rw [lebF_small hlt Hx.out] at h
      exact ⟨by rw [← h]; rfl, hb.trans hb2⟩
    · have hor := or_form x
      go_wp2_with (at_builtin; refine append_byte rfl (.tmp 16) (.tmp 20) rfl w.heap.size wr _ l (UInt8.ofNat (x % 128 + 128)) _ rfl rfl hrow (by simp; omega) (by omega) hb.size ?_; intro v2 w2 hrow2 hb2)
      go_roundw
      case rel =>
        obtain ⟨k, rfl⟩ : ∃ k', k = k' + 1 := by
          cases k with
          | zero => have := Hx.out; omega
          | succ k' => exact ⟨k', rfl⟩
        refine ⟨k, x / 128, l ++ [UInt8.ofNat (x % 128 + 128)], by go_num, by omega, by simp; omega, ?_, hrow2, ?_, hb.trans hb2⟩
        · have h := Hx.out
          rw [Nat.pow_succ] at h
          apply Nat.div_lt_of_lt_mul
          rw [Nat.mul_comm 128, Nat.mul_assoc]; exact h
        · have h := hl.out
          rw [lebF_big hlt] at h
          refine Lib.hid ?_
          rw [List.append_assoc]; exact h
      case measure => simp [intOf]; omega
set_option maxHeartbeats 400000 in
theorem refFold_any (n : Int) (w : World) (h1 : -9223372036854775808 ≤ n) (h2 : n ≤ 9223372036854775807) :
    Calls Try.prog 64 #[.int .i64 n] w fun e w' => e = .returned (.int .u64 (zig n : Nat)) ∧ w = w' := by
  by_cases hn : n < 0
  · have hz : (zig n : Int) = 2 * -(n + 1) + 1 := by unfold zig; rw [if_pos hn]; omega
    rw [hz]
    clear hz
    go_enter Try.func64, Try.ntmps64
    go_wp2
    go_ret
    exact ⟨rfl, rfl⟩
  · have hz : (zig n : Int) = 2 * n := by unfold zig; rw [if_neg hn]; omega
    rw [hz]
    clear hz
    go_enter Try.func64, Try.ntmps64
    go_wp2
    go_ret
    exact ⟨rfl, rfl⟩
end Go.Proofs.Ytakdagmkkelnfaa

/-! The walks of nib.TakeInt, of the reference's, and of TakeStr: numbers and texts off the beginning of bytes. -/
namespace Go.Proofs.Ytakdagmkkelnfaa
open Go.RowKit NibPure

/-- What is handed back of a number that was read, or of none. -/
def takeRes : Option (Int × List UInt8) → Value
  | some (n, r) => .tuple #[.int .i64 n, .string (bs r), .bool true]
  | none => .tuple #[.int .i64 0, .string (bs []), .bool false]
theorem or_join (k x c : Nat) (hk : 7 * k + 7 ≤ 64 ∨ c % 128 * 2 ^ (7 * k) < 18446744073709551616) (hx : x < 128 ^ k) (hx2 : x < 18446744073709551616) :
    bits BinOp.or IntKind.u64 (x : Int) ((c % 128 * 2 ^ (7 * k) % 18446744073709551616 : Nat) : Int) = ((x + c % 128 * 128 ^ k : Nat) : Int) := by
  have hp : (2 : Nat) ^ (7 * k) = 128 ^ k := by rw [Nat.pow_mul]
  have hlt : c % 128 * 2 ^ (7 * k) < 18446744073709551616 := by
    rcases hk with hk | hk
    · have h1 : 2 ^ (7 * k) * 128 ≤ 18446744073709551616 := by
        have : (2 : Nat) ^ (7 * k) * 128 = 2 ^ (7 * k + 7) := by rw [Nat.pow_add]
        rw [this]
        exact Nat.pow_le_pow_right (n := 2) (by omega) hk
      have h2 : c % 128 * 2 ^ (7 * k) < 128 * 2 ^ (7 * k) := Nat.mul_lt_mul_of_pos_right (Nat.mod_lt c (by omega)) (Nat.pos_of_ne_zero (by simp))
      omega
    · exact hk
  rw [Nat.mod_eq_of_lt hlt, u64_or_nat _ _ hx2 hlt, hp]
  rw [hp] at hlt
  have := nat_join (7 * k) (c % 128 * 128 ^ k) x (by rw [hp]; exact Nat.mul_mod_left _ _) (by rw [hp]; exact hx)
  rw [Nat.or_comm, this, Nat.add_comm]
theorem andNot_form (c : UInt8) : bits BinOp.andNot IntKind.u8 (c.toNat : Int) 128 = ((c.toNat % 128 : Nat) : Int) := by
  have hc := c.toNat_lt
  have h := u8_andNot_nat c.toNat 128 hc (by omega)
  rw [show ((128 : Int)) = ((128 : Nat) : Int) from rfl, h]
  congr 1
  exact nat_mask7 _
theorem shl_form (k : Nat) (c : UInt8) :
    IntKind.u64.wrap (IntKind.u64.wrap (bits BinOp.andNot IntKind.u8 (c.toNat : Int) 128) * 2 ^ (7 * k)) = ((c.toNat % 128 * 2 ^ (7 * k) % 18446744073709551616 : Nat) : Int) := by
  have hc := c.toNat_lt
  rw [andNot_form, IntKind.wrap_u64, IntKind.wrap_u64]
  have e : ((c.toNat % 128 : Nat) : Int) % 18446744073709551616 = ((c.toNat % 128 : Nat) : Int) := by omega
  rw [e, Int.natCast_emod (c.toNat % 128 * 2 ^ (7 * k)), Int.natCast_mul, Int.natCast_pow]; rfl
/-- The new number, whatever was read. -/
theorem new_any (k x : Nat) (c : UInt8) (hx : x < 18446744073709551616) :
    ∃ nx : Nat, bits BinOp.or IntKind.u64 (x : Int) (IntKind.u64.wrap (IntKind.u64.wrap (bits BinOp.andNot IntKind.u8 (c.toNat : Int) 128) * 2 ^ (7 * k))) = (nx : Int) := by
  rw [shl_form]
  exact ⟨_, u64_or_nat _ _ hx (Nat.mod_lt _ (by omega))⟩
theorem pow_lt (k : Nat) (hk : k ≤ 9) : 128 ^ k ≤ 9223372036854775808 := by
  have : 128 ^ k ≤ 128 ^ 9 := Nat.pow_le_pow_right (by omega) hk
  omega
theorem new_good (k x : Nat) (c : UInt8) (hk : k ≤ 9) (hx : x < 128 ^ k) (hb : ¬ (k = 9 ∧ 1 < c.toNat)) :
    bits BinOp.or IntKind.u64 (x : Int) (IntKind.u64.wrap (IntKind.u64.wrap (bits BinOp.andNot IntKind.u8 (c.toNat : Int) 128) * 2 ^ (7 * k))) = ((x + c.toNat % 128 * 128 ^ k : Nat) : Int) := by
  rw [shl_form]
  refine or_join k x c.toNat ?_ hx (by have := pow_lt k hk; omega)
  by_cases h9 : k = 9
  · right
    have : c.toNat % 128 ≤ 1 := by omega
    subst h9
    have h2 : c.toNat % 128 * 2 ^ (7 * 9) ≤ 1 * 2 ^ (7 * 9) := Nat.mul_le_mul_right _ this
    omega
  · left; omega
theorem drop_cons (s : ByteArray) (k : Nat) (h : k < s.size) : s.data.toList.drop k = s[k] :: s.data.toList.drop (k + 1) := by
  rw [List.drop_eq_getElem_cons (by simpa using h)]; rfl
theorem dec_bad {s : ByteArray} {k x : Nat} (hk : k < 10) (hs : k < s.size) (hr : readF (10 - k) k x (s.data.toList.drop k) = readF 10 0 0 s.data.toList)
    (hb : (k = 9 ∧ 1 < s[k].toNat) ∨ (0 < k ∧ s[k].toNat = 0)) : dec s.data.toList = none := by
  unfold dec
  rw [← hr, show 10 - k = (9 - k) + 1 by omega, drop_cons s k hs]
  simp only [readF]
  rw [if_pos hb]; rfl
theorem dec_good {s : ByteArray} {k x : Nat} (hk : k < 10) (hs : k < s.size) (hr : readF (10 - k) k x (s.data.toList.drop k) = readF 10 0 0 s.data.toList)
    (hb : ¬ ((k = 9 ∧ 1 < s[k].toNat) ∨ (0 < k ∧ s[k].toNat = 0))) (hc : s[k].toNat < 128) : dec s.data.toList = some (zag (x + s[k].toNat % 128 * 128 ^ k), s.data.toList.drop (k + 1)) := by
  unfold dec
  rw [← hr, show 10 - k = (9 - k) + 1 by omega, drop_cons s k hs]
  simp only [readF]
  rw [if_neg hb, if_pos hc, Nat.mod_eq_of_lt hc]; rfl
theorem dec_more {s : ByteArray} {k x : Nat} (hk : k < 10) (hs : k < s.size) (hr : readF (10 - k) k x (s.data.toList.drop k) = readF 10 0 0 s.data.toList)
    (hb : ¬ ((k = 9 ∧ 1 < s[k].toNat) ∨ (0 < k ∧ s[k].toNat = 0))) (hc : ¬ s[k].toNat < 128) : readF (10 - (k + 1)) (k + 1) (x + s[k].toNat % 128 * 128 ^ k) (s.data.toList.drop (k + 1)) = readF 10 0 0 s.data.toList := by
  have h2 := s[k].toNat_lt
  rw [← hr, show 10 - k = (10 - (k + 1)) + 1 by omega, drop_cons s k hs]
  rw [readF, if_neg hb, if_neg hc, show s[k].toNat % 128 = s[k].toNat - 128 by omega]
theorem dec_end {s : ByteArray} {k x : Nat} (hk : 10 ≤ k ∨ s.size ≤ k) (hr : readF (10 - k) k x (s.data.toList.drop k) = readF 10 0 0 s.data.toList) : dec s.data.toList = none := by
  unfold dec
  rw [← hr]
  rcases hk with h | h
  · rw [show 10 - k = 0 by omega]; rfl
  · rw [List.drop_eq_nil_of_le (by simpa using h)]
    cases 10 - k <;> rfl
theorem new_lt {k x c : Nat} (hx : x < 128 ^ k) : x + c % 128 * 128 ^ k < 128 ^ (k + 1) := by
  rw [Nat.pow_succ]
  have h : c % 128 * 128 ^ k ≤ 127 * 128 ^ k := Nat.mul_le_mul_right _ (by omega)
  generalize 128 ^ k = p at *
  omega

theorem good_cases {k b : Nat} (hb : ¬ ((k = 9 ∧ 1 < b) ∨ (0 < k ∧ b = 0))) (hk : k < 10) :
    (9 ≤ k ∧ b ≤ 1 ∧ ((b : Int) == 0) = false) ∨ (k < 9 ∧ 0 < k ∧ ((b : Int) == 0) = false) ∨ (k ≤ 0) := by
  have e : ((b : Int) == 0) = decide (b = 0) := by rw [Bool.eq_iff_iff]; simp
  rw [e]
  simp only [decide_eq_false_iff_not]
  omega
theorem zag_form (y : Nat) (hy : y < 18446744073709551616) :
    bits BinOp.xor IntKind.i64 (wrap64 ((y : Int) / 2)) (wrap64 (-wrap64 (bits BinOp.and IntKind.u64 (y : Int) 1))) = zag y := by
  have h1 : bits .and .u64 (y : Int) 1 = ((y % 2 : Nat) : Int) := by
    have := u64_and_nat y 1 hy (by omega)
    rw [nat_mask1] at this; exact this
  have h2 : wrap64 ((y : Int) / 2) = ((y / 2 : Nat) : Int) := by rw [IntWalk.wrap64_in _ ⟨by omega, by omega⟩]; omega
  have h3 : (BitVec.ofInt 64 ((y / 2 : Nat) : Int)).toNat = y / 2 := by
    rw [BitVec.ofInt_natCast, BitVec.toNat_ofNat]; exact Nat.mod_eq_of_lt (by omega)
  rw [h1, h2]
  unfold zag
  rcases Nat.mod_two_eq_zero_or_one y with h | h
  · rw [h, if_neg (by omega), show wrap64 (-wrap64 ((0 : Nat) : Int)) = 0 by decide +kernel]
    show IntKind.i64.wrap ((BitVec.ofInt 64 ((y / 2 : Nat) : Int) ^^^ BitVec.ofInt 64 0).toNat : Int) = _
    rw [show BitVec.ofInt 64 0 = 0#64 from rfl, BitVec.xor_zero, h3]
    simp [IntKind.wrap, IntKind.bits, IntKind.signed]
    omega
  · rw [h, if_pos rfl, show wrap64 (-wrap64 ((1 : Nat) : Int)) = -1 by decide +kernel]
    show IntKind.i64.wrap ((BitVec.ofInt 64 ((y / 2 : Nat) : Int) ^^^ BitVec.ofInt 64 (-1)).toNat : Int) = _
    rw [show BitVec.ofInt 64 (-1) = BitVec.allOnes 64 by decide, BitVec.xor_allOnes, BitVec.toNat_not, h3]
    simp [IntKind.wrap, IntKind.bits, IntKind.signed]
    omega
theorem ret_take {a n : Int} {b : ByteArray} {r : List UInt8} (h1 : a = n) (h2 : b = bs r) : Ending.returned (.tuple #[.int .i64 a, .string b, .bool true]) = .returned (takeRes (some (n, r))) := by rw [h1, h2]; rfl
theorem new_bd {k x c : Nat} (hk : k ≤ 9) (hx : x < 128 ^ k) (hc : ¬ (k = 9 ∧ 1 < c)) : x + c % 128 * 128 ^ k < 18446744073709551616 := by
  by_cases h9 : k = 9
  · subst h9
    have h1 : c % 128 * 128 ^ 9 ≤ 1 * 128 ^ 9 := Nat.mul_le_mul_right _ (by omega)
    omega
  · have h1 := new_lt (c := c) hx
    have h2 := pow_lt (k + 1) (by omega)
    omega
theorem bs_drop (s : ByteArray) (k : Nat) : s.extract k s.size = bs (s.data.toList.drop k) := by
  apply ByteArray.ext
  apply Array.ext'
  simp [bs, ByteArray.data_extract, List.extract_eq_take_drop]
  rw [List.take_of_length_le (by simp)]
theorem takeRes_some (n : Int) (r : List UInt8) : takeRes (some (n, r)) = .tuple #[.int .i64 n, .string (bs r), .bool true] := rfl

set_option maxRecDepth 100000 in
set_option maxHeartbeats 1600000 in
theorem takeInt_any (s : ByteArray) (w : World) (hs : s.size ≤ 9223372036854775807) :
    Calls Try.prog 50 #[.string s] w fun e w' => e = .returned (takeRes (dec s.data.toList)) ∧ ∃ n, w' = w.drewN n := by
  obtain ⟨R, hR⟩ : ∃ R, R = dec s.data.toList := ⟨_, rfl⟩
  rw [← hR]
  have HR := Lib.hid hR
  clear hR
  go_enter Try.func50, Try.ntmps50
  go_wp2
  all_goals
    go_loop [5, 11] (fun v i => ∃ (k x : Nat), k ≤ 10 ∧ k ≤ s.size ∧ Hid (x < 128 ^ k) ∧ i = .int .i64 k ∧ v = .int .u64 x ∧ Hid (readF (10 - k) k x (s.data.toList.drop k) = readF 10 0 0 s.data.toList)) (fun _ i => 10 - (intOf i).toNat)
    case atStart => exact ⟨0, 0, by omega, by omega, Lib.hid (by omega), rfl, rfl, Lib.hid rfl⟩
    case round =>
      obtain ⟨k, x, hk10, hks, Hx, rfl, rfl, hr⟩ := hrel
      by_cases hlt : k < 10 ∧ k < s.size
      · obtain ⟨hl10, hls⟩ := hlt
        have hb256 := s[k].toNat_lt
        by_cases hbad : (k = 9 ∧ 1 < s[k].toNat) ∨ (0 < k ∧ s[k].toNat = 0)
        · have hfin : R = none := by rw [HR.out]; exact dec_bad hl10 hls hr.out hbad
          subst hfin
          obtain ⟨nx, hnx⟩ := new_any k x s[k] (by have := pow_lt k (by omega); have := Hx.out; omega)
          rcases hbad with ⟨hb1, hb2⟩ | ⟨hb1, hb2⟩
          · have hb3 : 9 ≤ k := by omega
            clear hb1
            go_wp2
            all_goals go_ret3
            all_goals exact ⟨rfl, 0, rfl⟩
          · have hb3 : ((s[k].toNat : Int) == 0) = true := by rw [hb2]; rfl
            have Hb2 := Lib.hid hb2
            clear hb2
            go_wp2
            all_goals go_ret3
            all_goals exact ⟨rfl, 0, rfl⟩
        · have hnx := new_good k x s[k] (by omega) Hx.out (by omega)
          have Hbad := Lib.hid hbad
          obtain ⟨y, hy⟩ : ∃ y, y = x + s[k].toNat % 128 * 128 ^ k := ⟨_, rfl⟩
          rw [← hy] at hnx
          have Hy := Lib.hid hy
          clear hbad hy
          by_cases hc : s[k].toNat < 128
          · have hfin : R = some (zag y, s.data.toList.drop (k + 1)) := by rw [HR.out, Hy.out]; exact dec_good hl10 hls hr.out Hbad.out hc
            subst hfin
            have hsl : (k : Int) + 1 ≤ (s.size : Int) := by omega
            rcases good_cases Hbad.out hl10 with ⟨g1, g2, g3⟩ | ⟨g1, g2, g3⟩ | g1
            all_goals
              go_wp2
              go_quiet (fail)
              go_wp2
              go_ret3
              refine ⟨?_, _, rfl⟩
              exact ret_take (zag_form y (by rw [Hy.out]; exact new_bd (by omega) Hx.out (by have := Hbad.out; omega))) (by first | (rw [bs_drop]; done) | (rw [show k = 9 by omega, bs_drop]))
          · rcases good_cases Hbad.out hl10 with ⟨g1, g2, g3⟩ | ⟨g1, g2, g3⟩ | g1
            · omega
            all_goals
              go_wp2
              go_round
              case rel =>
                refine ⟨k + 1, y, by omega, by omega, Lib.hid (by rw [Hy.out]; exact new_lt Hx.out), by go_num, by go_num, Lib.hid ?_⟩
                rw [Hy.out]
                exact dec_more hl10 hls hr.out Hbad.out hc
              case measure => simp [intOf]; omega
      · first | have hge : (10 : Int) ≤ k := by omega | have hge : (s.size : Int) ≤ k := by omega
        have hfin : R = none := by rw [HR.out]; exact dec_end (by omega) hr.out
        subst hfin
        clear hlt
        go_wp2
        go_ret3
        exact ⟨rfl, 0, rfl⟩
end Go.Proofs.Ytakdagmkkelnfaa

/-! The walk of the reference's TakeInt: the number that bytes begin with. -/
namespace Go.Proofs.Ytakdagmkkelnfaa
open Go.RowKit NibPure

theorem rshl_form (k b : Nat) : IntKind.u64.wrap ((b : Int) % 128 * 2 ^ (7 * k)) = ((b % 128 * 2 ^ (7 * k) % 18446744073709551616 : Nat) : Int) := by
  rw [IntKind.wrap_u64, Int.natCast_emod (b % 128 * 2 ^ (7 * k)), Int.natCast_mul, Int.natCast_pow, Int.natCast_emod]; rfl
theorem radd_any (k x b : Nat) : ∃ nx : Nat, nx < 18446744073709551616 ∧ IntKind.u64.wrap ((x : Int) + IntKind.u64.wrap ((b : Int) % 128 * 2 ^ (7 * k))) = (nx : Int) := by
  rw [rshl_form, IntKind.wrap_u64]
  generalize b % 128 * 2 ^ (7 * k) % 18446744073709551616 = m
  exact ⟨(x + m) % 18446744073709551616, by omega, by omega⟩
theorem radd_good {k x b : Nat} (hk : k ≤ 9) (hx : x < 128 ^ k) (hb : ¬ (k = 9 ∧ 1 < b)) :
    IntKind.u64.wrap ((x : Int) + IntKind.u64.wrap ((b : Int) % 128 * 2 ^ (7 * k))) = ((x + b % 128 * 128 ^ k : Nat) : Int) := by
  have h := new_bd hk hx hb
  rw [rshl_form, IntKind.wrap_u64, show (2 : Nat) ^ (7 * k) = 128 ^ k by rw [Nat.pow_mul]]
  generalize b % 128 * 128 ^ k = m at *
  omega
theorem beq_yes {a b : Int} (h : a = b) : (a == b) = true := by simp [h]
theorem beq_no {a b : Int} (h : ¬ a = b) : (a == b) = false := by simp [h]
theorem zag_odd {y : Nat} (h : y % 2 = 1) : zag y = -((y : Int) / 2) - 1 := by unfold zag; rw [if_pos h]; omega
theorem zag_even {y : Nat} (h : ¬ y % 2 = 1) : zag y = (y : Int) / 2 := by unfold zag; rw [if_neg h]; omega

set_option maxRecDepth 100000 in
set_option maxHeartbeats 3200000 in
theorem refTakeInt_any (s : ByteArray) (w : World) (hs : s.size ≤ 9223372036854775807) :
    Calls Try.prog 68 #[.string s] w fun e w' => e = .returned (takeRes (dec s.data.toList)) ∧ ∃ n, w' = w.drewN n := by
  obtain ⟨R, hR⟩ : ∃ R, R = dec s.data.toList := ⟨_, rfl⟩
  rw [← hR]
  have HR := Lib.hid hR
  clear hR
  go_enter Try.func68, Try.ntmps68
  go_wp2
  go_loop [5, 6] (fun v i => ∃ (k x : Nat), k ≤ 10 ∧ k ≤ s.size ∧ x < 18446744073709551616 ∧ Hid (k ≤ 9 → x < 128 ^ k) ∧ i = .int .i64 k ∧ v = .int .u64 x ∧ Hid (readF (10 - k) k x (s.data.toList.drop k) = readF 10 0 0 s.data.toList)) (fun _ i => 10 - (intOf i).toNat)
  case atStart => exact ⟨0, 0, by omega, by omega, by omega, Lib.hid (by omega), rfl, rfl, Lib.hid rfl⟩
  case round =>
    obtain ⟨k, x, hk10, hks, hxl, Hx, rfl, rfl, hr⟩ := hrel
    by_cases hlt : k < 10 ∧ k < s.size
    · obtain ⟨hl10, hls⟩ := hlt
      have hb256 := s[k].toNat_lt
      have hd1 : decide ((k : Int) < (s.size : Int)) = true := by simp; omega
      have hxk := Hx.out (by omega)
      by_cases hbad : (k = 9 ∧ 1 < s[k].toNat) ∨ (0 < k ∧ s[k].toNat = 0)
      · have hdec := dec_bad hl10 hls hr.out hbad
        have hfin : R = none := by rw [HR.out]; exact hdec
        subst hfin
        obtain ⟨nx, hnl, hnx⟩ := radd_any k x s[k].toNat
        have Hxk := Lib.hid hxk
        have Hdec := Lib.hid hdec
        clear hxk hdec
        by_cases h9 : 9 ≤ k
        · have hk9b : ((k : Int) == 9) = true := beq_yes (by omega)
          by_cases hm : 1 < s[k].toNat % 128
          · go_wp2
            all_goals go_ret3
            all_goals exact ⟨rfl, 0, rfl⟩
          · by_cases hc : s[k].toNat < 128
            · have hz : ((s[k].toNat : Int) % 128 == 0) = true := beq_yes (by omega)
              go_wp2
              all_goals go_ret3
              all_goals exact ⟨rfl, 0, rfl⟩
            · go_wp2
              go_round
              case rel =>
                refine ⟨10, nx, by omega, by omega, hnl, Lib.hid (by omega), by go_num, by first | rfl | go_num, Lib.hid ?_⟩
                have h := Hdec.out
                unfold dec at h
                simp only [Option.map_eq_none_iff] at h
                rw [h]; rfl
              case measure => simp [intOf]; omega
        · have hk0 : 0 < k := by omega
          have hz : ((s[k].toNat : Int) % 128 == 0) = true := beq_yes (by omega)
          have hk9b : ((k : Int) == 9) = false := beq_no (by omega)
          go_wp2
          all_goals go_ret3
          all_goals exact ⟨rfl, 0, rfl⟩
      · have hnx := radd_good (k := k) (x := x) (b := s[k].toNat) (by omega) hxk (by omega)
        have hyl := new_bd (k := k) (x := x) (c := s[k].toNat) (by omega) hxk (by omega)
        have Hbad := Lib.hid hbad
        obtain ⟨y, hy⟩ : ∃ y, y = x + s[k].toNat % 128 * 128 ^ k := ⟨_, rfl⟩
        rw [← hy] at hnx hyl
        have Hy := Lib.hid hy
        have Hxk := Lib.hid hxk
        clear hbad hy hxk
        by_cases hc : s[k].toNat < 128
        · have hfin : R = some (zag y, s.data.toList.drop (k + 1)) := by rw [HR.out, Hy.out]; exact dec_good hl10 hls hr.out Hbad.out hc
          subst hfin
          have hsl : (k : Int) + 1 ≤ (s.size : Int) := by omega
          by_cases hodd : y % 2 = 1
          · have ht : ((y : Int) % 2 == 1) = true := by simp; omega
            have Hodd := Lib.hid hodd
            clear hodd
            rcases good_cases Hbad.out hl10 with ⟨g1, g2, g3⟩ | ⟨g1, g2, g3⟩ | g1
            · have hm : ((s[k].toNat : Int) % 128 == 0) = false := beq_no (by have h0 : ¬ s[k].toNat = 0 := (by simpa using g3); omega)
              first | have hk9b : ((k : Int) == 9) = true := beq_yes (by omega) | have hk9b : ((k : Int) == 9) = false := beq_no (by omega)
              clear g3
              go_wp2
              go_quiet (fail)
              go_wp2
              go_ret3
              exact ⟨ret_take (zag_odd Hodd.out).symm (bs_drop _ _), _, rfl⟩
            · have hm : ((s[k].toNat : Int) % 128 == 0) = false := beq_no (by have h0 : ¬ s[k].toNat = 0 := (by simpa using g3); omega)
              first | have hk9b : ((k : Int) == 9) = true := beq_yes (by omega) | have hk9b : ((k : Int) == 9) = false := beq_no (by omega)
              clear g3
              go_wp2
              go_quiet (fail)
              go_wp2
              go_ret3
              exact ⟨ret_take (zag_odd Hodd.out).symm (bs_drop _ _), _, rfl⟩
            · have hk9b : ((k : Int) == 9) = false := beq_no (by omega)
              by_cases hm0 : s[k].toNat = 0
              all_goals
                first | have hm : ((s[k].toNat : Int) % 128 == 0) = true := beq_yes (by omega) | have hm : ((s[k].toNat : Int) % 128 == 0) = false := beq_no (by omega)
                clear hm0
                go_wp2
                go_quiet (fail)
                go_wp2
                go_ret3
                exact ⟨ret_take (zag_odd Hodd.out).symm (bs_drop _ _), _, rfl⟩
          · have ht : ((y : Int) % 2 == 1) = false := by simp; omega
            have Hodd := Lib.hid hodd
            clear hodd
            rcases good_cases Hbad.out hl10 with ⟨g1, g2, g3⟩ | ⟨g1, g2, g3⟩ | g1
            · have hm : ((s[k].toNat : Int) % 128 == 0) = false := beq_no (by have h0 : ¬ s[k].toNat = 0 := (by simpa using g3); omega)
              first | have hk9b : ((k : Int) == 9) = true := beq_yes (by omega) | have hk9b : ((k : Int) == 9) = false := beq_no (by omega)
              clear g3
              go_wp2
              go_quiet (fail)
              go_wp2
              go_ret3
              exact ⟨ret_take (zag_even Hodd.out).symm (bs_drop _ _), _, rfl⟩
            · have hm : ((s[k].toNat : Int) % 128 == 0) = false := beq_no (by have h0 : ¬ s[k].toNat = 0 := (by simpa using g3); omega)
              first | have hk9b : ((k : Int) == 9) = true := beq_yes (by omega) | have hk9b : ((k : Int) == 9) = false := beq_no (by omega)
              clear g3
              go_wp2
              go_quiet (fail)
              go_wp2
              go_ret3
              exact ⟨ret_take (zag_even Hodd.out).symm (bs_drop _ _), _, rfl⟩
            · have hk9b : ((k : Int) == 9) = false := beq_no (by omega)
              by_cases hm0 : s[k].toNat = 0
              all_goals
                first | have hm : ((s[k].toNat : Int) % 128 == 0) = true := beq_yes (by omega) | have hm : ((s[k].toNat : Int) % 128 == 0) = false := beq_no (by omega)
                clear hm0
                go_wp2
                go_quiet (fail)
                go_wp2
                go_ret3
                exact ⟨ret_take (zag_even Hodd.out).symm (bs_drop _ _), _, rfl⟩
        · have hk9 : k < 9 := by have := Hbad.out; omega
          have hk9b : ((k : Int) == 9) = false := beq_no (by omega)
          go_wp2
          go_round
          case rel =>
            refine ⟨k + 1, y, by omega, by omega, hyl, Lib.hid (fun _ => by rw [Hy.out]; exact new_lt Hxk.out), by go_num, by first | rfl | go_num, Lib.hid ?_⟩
            rw [Hy.out]
            exact dec_more hl10 hls hr.out Hbad.out hc
          case measure => simp [intOf]; omega
    · have hfin : R = none := by rw [HR.out]; exact dec_end (by omega) hr.out
      subst hfin
      by_cases hs2 : k < s.size
      · have h10 : 10 ≤ k := by omega
        clear hlt
        go_wp2
        go_ret3
        exact ⟨rfl, 0, rfl⟩
      · clear hlt
        go_wp2
        go_ret3
        exact ⟨rfl, 0, rfl⟩
end Go.Proofs.Ytakdagmkkelnfaa

/-! The walks of the reference's Int, of Str and of TakeStr. -/
namespace Go.Proofs.Ytakdagmkkelnfaa
open Go.RowKit NibPure

set_option maxRecDepth 100000 in
set_option maxHeartbeats 400000 in
theorem refInt_any (n : Int) (w : World) (h1 : -9223372036854775808 ≤ n) (h2 : n ≤ 9223372036854775807) :
    Calls Try.prog 37 #[.int .i64 n] w fun e w' => e = .returned (.string (bs (enc n))) ∧ Below w.heap.size w w' := by
  have hzl := zig_lt h1 h2
  go_enter Try.func37, Try.ntmps37
  go_wp2_with (go_at_call 64; (with_reducible refine (refFold_any n _ h1 h2).mono ?_); rintro e w1 ⟨rfl, rfl⟩)
  obtain ⟨z, hze⟩ : ∃ z, z = zig n := ⟨_, rfl⟩
  have hL : Hid (lebF 9 z = enc n) := by rw [hze]; exact Lib.hid rfl
  rw [← hze] at hzl ⊢
  clear hze h1 h2
  go_loopw [3, 4] (fun u v wr => ∃ (k x : Nat) (l : List UInt8), u = .int .u64 x ∧ k ≤ 9 ∧ l.length + k = 9 ∧ x < 2 * 128 ^ k ∧ RowB w.heap.size wr v l ∧ Hid (l ++ lebF k x = enc n) ∧ Below w.heap.size w wr) (fun u _ _ => (intOf u).toNat)
  case atStart => exact ⟨9, z, [], rfl, by omega, rfl, by omega, RowB.empty _ _ (Nat.le_refl _), hL, bnew _ _⟩
  case round =>
    obtain ⟨k, x, l, rfl, hk, hlk, hx, hrow, hl, hb⟩ := hrel
    have hxl : x < 18446744073709551616 := by
      refine Nat.lt_of_lt_of_le hx ?_
      have : 128 ^ k ≤ 128 ^ 9 := Nat.pow_le_pow_right (by omega) hk
      omega
    have Hx := Lib.hid hx
    clear hx
    by_cases hlt : x < 128
    · go_wp2_with (at_builtin; refine append_byte rfl (.tmp 19) (.tmp 22) rfl w.heap.size wr _ l (UInt8.ofNat x) _ rfl rfl hrow (by simp; omega) (by omega) hb.size ?_; intro v2 w2 hrow2 hb2; have hcv := row_string hrow2)
      go_ret
      have h := hl.out
      rw [lebF_small hlt Hx.out] at h
      exact ⟨by rw [← h]; rfl, hb.trans hb2⟩
    · go_wp2_with (at_builtin; refine append_byte rfl (.tmp 10) (.tmp 15) rfl w.heap.size wr _ l (UInt8.ofNat (x % 128 + 128)) _ rfl rfl hrow (by simp; omega) (by omega) hb.size ?_; intro v2 w2 hrow2 hb2)
      go_roundw
      case rel =>
        obtain ⟨k, rfl⟩ : ∃ k', k = k' + 1 := by
          cases k with
          | zero => have := Hx.out; omega
          | succ k' => exact ⟨k', rfl⟩
        refine ⟨k, x / 128, l ++ [UInt8.ofNat (x % 128 + 128)], by go_num, by omega, by simp; omega, ?_, hrow2, ?_, hb.trans hb2⟩
        · have h := Hx.out
          rw [Nat.pow_succ] at h
          apply Nat.div_lt_of_lt_mul
          rw [Nat.mul_comm 128, Nat.mul_assoc]; exact h
        · have h := hl.out
          rw [lebF_big hlt] at h
          refine Lib.hid ?_
          rw [List.append_assoc]; exact h
      case measure => simp [intOf]; omega

/-- A text with its length ahead. -/
def encS (l : List UInt8) : List UInt8 := enc l.length ++ l
theorem str_add {P : Program} (n : Int) (s : ByteArray) (h : s.size ≤ 4611686018427387904) (w : World) : (Op.stringOp .add (bs (enc n)) s).run P w = .ok (.string (bs (enc n ++ s.data.toList))) w := by
  rw [run_string_add_sum w _ _ (by rw [bs_size]; have := enc_len n; omega), ← bs_append, bs_self]
set_option maxHeartbeats 400000 in
theorem nibStr_any (s : ByteArray) (w : World) (hs : s.size ≤ 4611686018427387904) :
    Calls Try.prog 78 #[.string s] w fun e w' => e = .returned (.string (bs (encS s.data.toList))) ∧ Below w.heap.size w w' := by
  have hadd := fun w => str_add (P := Try.prog) s.size s hs w
  go_enter Try.func78, Try.ntmps78
  go_wp2_with (go_at_call 60; (with_reducible refine (nibInt_any _ _ (by omega) (by omega)).mono ?_); rintro e w1 ⟨rfl, hb⟩)
  go_ret
  exact ⟨by unfold encS; simp, hb⟩
set_option maxHeartbeats 400000 in
theorem refStr_any (s : ByteArray) (w : World) (hs : s.size ≤ 4611686018427387904) :
    Calls Try.prog 75 #[.string s] w fun e w' => e = .returned (.string (bs (encS s.data.toList))) ∧ Below w.heap.size w w' := by
  have hadd := fun w => str_add (P := Try.prog) s.size s hs w
  go_enter Try.func75, Try.ntmps75
  go_wp2_with (go_at_call 37; (with_reducible refine (refInt_any _ _ (by omega) (by omega)).mono ?_); rintro e w1 ⟨rfl, hb⟩)
  go_ret
  exact ⟨by unfold encS; simp, hb⟩

/-- The text that bytes begin with, of at most so many bytes, and what stands behind it. -/
def decS (most : Int) (l : List UInt8) : Option (List UInt8 × List UInt8) :=
  match dec l with
  | some (n, r) => if 0 ≤ n ∧ n ≤ most ∧ n ≤ r.length then some (r.take n.toNat, r.drop n.toNat) else none
  | none => none
def takeStrRes : Option (List UInt8 × List UInt8) → Value
  | some (t, r) => .tuple #[.string (bs t), .string (bs r), .bool true]
  | none => .tuple #[.string (bs []), .string (bs []), .bool false]
theorem bs_cut (r : List UInt8) (n : Int) (n' : Nat) (hn : n = n') : (bs r).extract 0 n' = bs (r.take n.toNat) := by
  subst hn
  apply ByteArray.ext
  apply Array.ext'
  simp [bs, ByteArray.data_extract]
theorem bs_rest (r : List UInt8) (n : Int) (n' : Nat) (hn : n = n') : (bs r).extract n' (bs r).size = bs (r.drop n.toNat) := by
  subst hn
  rw [bs_drop]; rfl
theorem size_bs (l : List UInt8) : (bs l).size = l.length := bs_size l

theorem ret_takeStr {a b : ByteArray} {x r : List UInt8} (h1 : a = bs x) (h2 : b = bs r) : Ending.returned (.tuple #[.string a, .string b, .bool true]) = .returned (takeStrRes (some (x, r))) := by rw [h1, h2]; rfl
set_option maxRecDepth 100000 in
set_option maxHeartbeats 800000 in
theorem takeStr_any (s : ByteArray) (most : Int) (w : World) (hs : s.size ≤ 9223372036854775807) :
    Calls Try.prog 77 #[.string s, .int .i64 most] w fun e w' => e = .returned (takeStrRes (decS most s.data.toList)) ∧ ∃ n, w' = w.drewN n := by
  obtain ⟨R, hR⟩ : ∃ R, R = decS most s.data.toList := ⟨_, rfl⟩
  rw [← hR]
  cases hd : dec s.data.toList with
  | none =>
    have hfin : R = none := by rw [hR]; unfold decS; rw [hd]
    subst hfin
    have hc : Calls Try.prog 50 #[.string s] w fun e w' => e = .returned (.tuple #[.int .i64 0, .string (bs []), .bool false]) ∧ ∃ n, w' = w.drewN n := by
      have := takeInt_any s w hs
      rwa [hd] at this
    clear hd hR
    go_enter Try.func77, Try.ntmps77
    go_wp2_with fail
    refine hc.mono ?_
    rintro e w1 ⟨rfl, n, rfl⟩
    go_wp2
    go_ret3
    exact ⟨rfl, n, rfl⟩
  | some p =>
    obtain ⟨n, r⟩ := p
    have hc : Calls Try.prog 50 #[.string s] w fun e w' => e = .returned (.tuple #[.int .i64 n, .string (bs r), .bool true]) ∧ ∃ n, w' = w.drewN n := by
      have := takeInt_any s w hs
      rwa [hd] at this
    have hlen : (bs r).size ≤ 9223372036854775807 := by rw [bs_size]; have := dec_len hd; simp at this; omega
    have hnb := (enc_dec hd).2
    have hsz := bs_size r
    have hsz' : (bs r).size = r.length := hsz
    by_cases hn0 : n < 0
    · have hfin : R = none := by rw [hR]; unfold decS; rw [hd]; exact if_neg (by omega)
      subst hfin
      clear hd hR hsz hsz'
      go_enter Try.func77, Try.ntmps77
      go_wp2_with fail
      refine hc.mono ?_
      rintro e w1 ⟨rfl, m, rfl⟩
      go_wp2
      all_goals go_ret3
      all_goals exact ⟨rfl, m, rfl⟩
    · have hn1 : 0 ≤ n := by omega
      by_cases hmx : n ≤ most ∧ n ≤ (bs r).size
      · obtain ⟨hmx1, hmx2⟩ := hmx
        have hfin : R = some (r.take n.toNat, r.drop n.toNat) := by rw [hR]; unfold decS; rw [hd]; exact if_pos (by omega)
        subst hfin
        have e1 := bs_cut r n n.toNat (by omega)
        have e2 := bs_rest r n n.toNat (by omega)
        have E1 := Lib.hid e1
        have E2 := Lib.hid e2
        obtain ⟨b, hbe⟩ : ∃ b, b = bs r := ⟨_, rfl⟩
        rw [← hbe] at hc hmx2 E1 E2 hlen
        clear hd hR hsz hsz' e1 e2 hbe
        go_enter Try.func77, Try.ntmps77
        go_wp2_with fail
        refine hc.mono ?_
        rintro e w1 ⟨rfl, m, rfl⟩
        go_wp2
        all_goals
          go_quiet (fail)
          go_wp2
          go_ret3
          exact ⟨ret_takeStr E1.out E2.out, m + nq, by rw [World.drewN_drewN]⟩
      · have hfin : R = none := by rw [hR]; unfold decS; rw [hd]; exact if_neg (by omega)
        subst hfin
        by_cases hx : most < n
        all_goals
          clear hd hR hsz hsz'
          go_enter Try.func77, Try.ntmps77
          go_wp2_with fail
          refine hc.mono ?_
          rintro e w1 ⟨rfl, m, rfl⟩
          go_wp2
          all_goals first | (go_ret3; exact ⟨rfl, m, rfl⟩) | (exfalso; omega)

set_option maxRecDepth 100000 in
set_option maxHeartbeats 800000 in
theorem refTakeStr_any (s : ByteArray) (most : Int) (w : World) (hs : s.size ≤ 9223372036854775807) :
    Calls Try.prog 76 #[.string s, .int .i64 most] w fun e w' => e = .returned (takeStrRes (decS most s.data.toList)) ∧ ∃ n, w' = w.drewN n := by
  obtain ⟨R, hR⟩ : ∃ R, R = decS most s.data.toList := ⟨_, rfl⟩
  rw [← hR]
  cases hd : dec s.data.toList with
  | none =>
    have hfin : R = none := by rw [hR]; unfold decS; rw [hd]
    subst hfin
    have hc : Calls Try.prog 68 #[.string s] w fun e w' => e = .returned (.tuple #[.int .i64 0, .string (bs []), .bool false]) ∧ ∃ n, w' = w.drewN n := by
      have := refTakeInt_any s w hs
      rwa [hd] at this
    clear hd hR
    go_enter Try.func76, Try.ntmps76
    go_wp2_with fail
    refine hc.mono ?_
    rintro e w1 ⟨rfl, n, rfl⟩
    go_wp2
    go_ret3
    exact ⟨rfl, n, rfl⟩
  | some p =>
    obtain ⟨n, r⟩ := p
    have hc : Calls Try.prog 68 #[.string s] w fun e w' => e = .returned (.tuple #[.int .i64 n, .string (bs r), .bool true]) ∧ ∃ n, w' = w.drewN n := by
      have := refTakeInt_any s w hs
      rwa [hd] at this
    have hlen : (bs r).size ≤ 9223372036854775807 := by rw [bs_size]; have := dec_len hd; simp at this; omega
    have hnb := (enc_dec hd).2
    have hsz := bs_size r
    have hsz' : (bs r).size = r.length := hsz
    by_cases hn0 : n < 0
    · have hfin : R = none := by rw [hR]; unfold decS; rw [hd]; exact if_neg (by omega)
      subst hfin
      clear hd hR hsz hsz'
      go_enter Try.func76, Try.ntmps76
      go_wp2_with fail
      refine hc.mono ?_
      rintro e w1 ⟨rfl, m, rfl⟩
      go_wp2
      all_goals go_ret3
      all_goals exact ⟨rfl, m, rfl⟩
    · have hn1 : 0 ≤ n := by omega
      by_cases hmx : n ≤ most ∧ n ≤ (bs r).size
      · obtain ⟨hmx1, hmx2⟩ := hmx
        have hfin : R = some (r.take n.toNat, r.drop n.toNat) := by rw [hR]; unfold decS; rw [hd]; exact if_pos (by omega)
        subst hfin
        have e1 := bs_cut r n n.toNat (by omega)
        have e2 := bs_rest r n n.toNat (by omega)
        have E1 := Lib.hid e1
        have E2 := Lib.hid e2
        obtain ⟨b, hbe⟩ : ∃ b, b = bs r := ⟨_, rfl⟩
        rw [← hbe] at hc hmx2 E1 E2 hlen
        clear hd hR hsz hsz' e1 e2 hbe
        go_enter Try.func76, Try.ntmps76
        go_wp2_with fail
        refine hc.mono ?_
        rintro e w1 ⟨rfl, m, rfl⟩
        go_wp2
        all_goals
          go_quiet (fail)
          go_wp2
          go_ret3
          exact ⟨ret_takeStr E1.out E2.out, m + nq, by rw [World.drewN_drewN]⟩
      · have hfin : R = none := by rw [hR]; unfold decS; rw [hd]; exact if_neg (by omega)
        subst hfin
        by_cases hx : most < n
        all_goals
          clear hd hR hsz hsz'
          go_enter Try.func76, Try.ntmps76
          go_wp2_with fail
          refine hc.mono ?_
          rintro e w1 ⟨rfl, m, rfl⟩
          go_wp2
          all_goals first | (go_ret3; exact ⟨rfl, m, rfl⟩) | (exfalso; omega)
end Go.Proofs.Ytakdagmkkelnfaa

/-! What the calls of layer 1 give, in the forms that other layers use. -/
namespace Go.Proofs.Ytakdagmkkelnfaa
open Go.RowKit NibPure

theorem below_draws {w w' : World} (h : ∃ n, w' = w.drewN n) : Below w.heap.size w w' := by
  obtain ⟨n, rfl⟩ := h
  exact ⟨rfl, rfl, rfl, Nat.le_refl _, fun _ _ => rfl⟩
theorem bs_toList (l : List UInt8) : (bs l).toList = l := by rw [ByteArray.toList_eq]; rfl
theorem takeInt_lit {s b : ByteArray} {n : Int} {r : List UInt8} (hd : dec s.data.toList = some (n, r)) (hb : b = bs r) (w : World) (hs : s.size ≤ 9223372036854775807) :
    Calls Try.prog 50 #[.string s] w fun e w' => e = .returned (.tuple #[.int .i64 n, .string b, .bool true]) ∧ Below w.heap.size w w' :=
  (takeInt_any s w hs).mono fun e w' ⟨h1, h2⟩ => ⟨by rw [h1, hd, hb]; rfl, below_draws h2⟩
theorem takeInt_not {s b : ByteArray} (hd : dec s.data.toList = none) (hb : b = bs []) (w : World) (hs : s.size ≤ 9223372036854775807) :
    Calls Try.prog 50 #[.string s] w fun e w' => e = .returned (.tuple #[.int .i64 0, .string b, .bool false]) ∧ Below w.heap.size w w' :=
  (takeInt_any s w hs).mono fun e w' ⟨h1, h2⟩ => ⟨by rw [h1, hd, hb]; rfl, below_draws h2⟩
theorem takeStr_lit {s b c : ByteArray} {most : Int} {t r : List UInt8} (hd : decS most s.data.toList = some (t, r)) (hb : b = bs t) (hc : c = bs r) (w : World) (hs : s.size ≤ 9223372036854775807) :
    Calls Try.prog 77 #[.string s, .int .i64 most] w fun e w' => e = .returned (.tuple #[.string b, .string c, .bool true]) ∧ Below w.heap.size w w' :=
  (takeStr_any s most w hs).mono fun e w' ⟨h1, h2⟩ => ⟨by rw [h1, hd, hb, hc]; rfl, below_draws h2⟩
theorem takeStr_not {s b c : ByteArray} {most : Int} (hd : decS most s.data.toList = none) (hb : b = bs []) (hc : c = bs []) (w : World) (hs : s.size ≤ 9223372036854775807) :
    Calls Try.prog 77 #[.string s, .int .i64 most] w fun e w' => e = .returned (.tuple #[.string b, .string c, .bool false]) ∧ Below w.heap.size w w' :=
  (takeStr_any s most w hs).mono fun e w' ⟨h1, h2⟩ => ⟨by rw [h1, hd, hb, hc]; rfl, below_draws h2⟩
theorem int_lit {n : Int} {b : ByteArray} (hb : b = bs (enc n)) (h1 : -9223372036854775808 ≤ n) (h2 : n ≤ 9223372036854775807) (w : World) :
    Calls Try.prog 60 #[.int .i64 n] w fun e w' => e = .returned (.string b) ∧ Below w.heap.size w w' := by
  rw [hb]; exact nibInt_any n w h1 h2
theorem str_lit {s b : ByteArray} (hb : b = bs (encS s.data.toList)) (hs : s.size ≤ 4611686018427387904) (w : World) :
    Calls Try.prog 78 #[.string s] w fun e w' => e = .returned (.string b) ∧ Below w.heap.size w w' := by
  rw [hb]; exact nibStr_any s w hs
theorem bs_lit {l l' : List UInt8} {b : ByteArray} (hb : b = bs l) (h : l = l') : b = bs l' := h ▸ hb

theorem ret_true' {b : Bool} (h : b = true) : Ending.returned (.bool b) = .returned (.bool true) := by rw [h]
theorem wf_bd {n : Int} (h : (Lit.int .i64 n).wf = true) : -9223372036854775808 ≤ n ∧ n ≤ 9223372036854775807 := by
  simp [Lit.wf, IntKind.min, IntKind.max, IntKind.bits, IntKind.signed] at h
  omega

theorem takeRes_form (R : Option (Int × List UInt8)) : ∃ a b c, takeRes R = .tuple #[.int .i64 a, .string b, .bool c] := by
  cases R with
  | none => exact ⟨_, _, _, rfl⟩
  | some p => exact ⟨p.1, _, _, rfl⟩
theorem takeStrRes_form (R : Option (List UInt8 × List UInt8)) : ∃ a b c, takeStrRes R = .tuple #[.string a, .string b, .bool c] := by
  cases R with
  | none => exact ⟨_, _, _, rfl⟩
  | some p => exact ⟨_, _, _, rfl⟩
end Go.Proofs.Ytakdagmkkelnfaa
