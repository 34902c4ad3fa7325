/-
  Plain facts on the check of layer 2: one bit's step, eight of them, a byte, a list of bytes. Nothing of the program is named here.
-/
import Derived.Test.YtakdagmkkelnfaaRows
import Derived.WalkKit
import Derived.WalkSpells
import Derived.WalkLawsBesides
import Derived.Lib.Hide
import Derived.Test.YtakdagmkkelnfaaBase
/-! Plain facts on the check of layer 2: one bit's step, eight of them, a byte, a list of bytes. Nothing of the program is named here. -/
namespace Go.Proofs.Ytakdagmkkelnfaa.SumPure

/-- One bit: the register goes on by one place. -/
def S (r : Nat) : Nat := if r % 2 = 1 then r / 2 ^^^ 3988292384 else r / 2
/-- So many bits. -/
def iter : Nat → Nat → Nat
  | 0, r => r
  | k + 1, r => iter k (S r)
/-- The program's byte. -/
def byte (r b : Nat) : Nat := r / 256 ^^^ iter 8 (r % 256 ^^^ b)
/-- The reference's bit. -/
def R (r bit : Nat) : Nat := if bit = r % 2 then r / 2 else r / 2 ^^^ 3988292384
/-- The reference's byte, so many bits of it. -/
def refBits : Nat → Nat → Nat → Nat
  | 0, r, _ => r
  | k + 1, r, b => refBits k (R r (b % 2)) (b / 2)
def crc (r : Nat) (l : List UInt8) : Nat := l.foldl (fun r b => byte r b.toNat) r
def sum (l : List UInt8) : Nat := 4294967295 - crc 4294967295 l

theorem xor_half (a b : Nat) : (a ^^^ b) / 2 = a / 2 ^^^ b / 2 := by
  apply Nat.eq_of_testBit_eq; intro i
  simp [Nat.testBit_div_two]
theorem xor_mod (a b : Nat) : (a ^^^ b) % 2 = (a + b) % 2 := by
  have h : (a ^^^ b).testBit 0 = (a + b).testBit 0 := by
    rw [Nat.testBit_xor]
    simp only [Nat.testBit_zero]
    rcases Nat.mod_two_eq_zero_or_one a with h1 | h1 <;> rcases Nat.mod_two_eq_zero_or_one b with h2 | h2 <;> simp [Nat.add_mod, h1, h2]
  simp only [Nat.testBit_zero] at h
  rcases Nat.mod_two_eq_zero_or_one (a ^^^ b) with h1 | h1 <;> rcases Nat.mod_two_eq_zero_or_one (a + b) with h2 | h2 <;> simp_all
theorem xor_cancel {a b c : Nat} (h : a ^^^ c = b ^^^ c) : a = b := by
  have := congrArg (· ^^^ c) h
  simpa [Nat.xor_assoc] using this
theorem xor_cancel' {a b c : Nat} (h : c ^^^ a = c ^^^ b) : a = b := xor_cancel (c := c) (by rw [Nat.xor_comm a, Nat.xor_comm b, h])
theorem xor_join (k x y : Nat) (hx : x < 2 ^ k) : 2 ^ k * y ^^^ x = 2 ^ k * y + x := by
  apply Nat.eq_of_testBit_eq; intro i
  rw [Nat.testBit_xor, Nat.testBit_two_pow_mul_add _ hx, Nat.testBit_two_pow_mul]
  by_cases hi : i < k
  · have : ¬ k ≤ i := by omega
    simp [hi, this]
  · have h1 : k ≤ i := by omega
    have : x.testBit i = false := Nat.testBit_lt_two_pow (Nat.lt_of_lt_of_le hx (Nat.pow_le_pow_right (by decide) h1))
    simp [hi, h1, this]
theorem S_lt {r : Nat} (h : r < 4294967296) : S r < 4294967296 := by
  unfold S; split
  · exact Nat.xor_lt_two_pow (n := 32) (by omega) (by omega)
  · omega
theorem iter_lt : ∀ (k : Nat) {r : Nat}, r < 4294967296 → iter k r < 4294967296
  | 0, _, h => h
  | k + 1, _, h => iter_lt k (S_lt h)
theorem S_two (h y : Nat) : S (2 * h ^^^ y) = h ^^^ S y := by
  have e : (2 * h ^^^ y) % 2 = y % 2 := by rw [xor_mod]; omega
  have d : (2 * h ^^^ y) / 2 = h ^^^ y / 2 := by rw [xor_half]; congr 1; omega
  unfold S; rw [e, d]
  split <;> simp [Nat.xor_assoc]
theorem iter_two : ∀ (k h y : Nat), iter k (2 ^ k * h ^^^ y) = h ^^^ iter k y
  | 0, h, y => by simp [iter]
  | k + 1, h, y => by
    show iter k (S (2 ^ (k + 1) * h ^^^ y)) = h ^^^ iter k (S y)
    have e : 2 ^ (k + 1) * h = 2 * (2 ^ k * h) := by rw [Nat.pow_succ, Nat.mul_comm (2 ^ k) 2, Nat.mul_assoc]
    rw [e, S_two, iter_two k]
theorem split_byte (r : Nat) : r = 256 * (r / 256) ^^^ r % 256 := by
  have h := xor_join 8 (r % 256) (r / 256) (by omega)
  rw [show (2 : Nat) ^ 8 = 256 from rfl] at h
  omega
/-- The program's byte is eight bits of the register with the byte laid over it. -/
theorem byte_eq (r b : Nat) : byte r b = iter 8 (r ^^^ b) := by
  conv => rhs; rw [split_byte r]
  rw [Nat.xor_assoc]
  exact (iter_two 8 (r / 256) (r % 256 ^^^ b)).symm
theorem S_R (r b : Nat) : S (r ^^^ b) = R r (b % 2) ^^^ b / 2 := by
  have e := xor_mod r b
  have d := xor_half r b
  unfold S R
  rw [d]
  by_cases h : b % 2 = r % 2
  · rw [if_neg (by omega), if_pos h]
  · rw [if_pos (by omega), if_neg h, Nat.xor_assoc, Nat.xor_assoc, Nat.xor_comm (b / 2)]
theorem iter_refBits : ∀ (k r b : Nat), b < 2 ^ k → iter k (r ^^^ b) = refBits k r b
  | 0, r, b, h => by have : b = 0 := by simpa using h
                     simp [iter, refBits, this]
  | k + 1, r, b, h => by
    show iter k (S (r ^^^ b)) = refBits k (R r (b % 2)) (b / 2)
    rw [S_R, iter_refBits k _ _ (by rw [Nat.pow_succ] at h; omega)]
theorem byte_ref (r b : Nat) (h : b < 256) : byte r b = refBits 8 r b := by
  rw [byte_eq, iter_refBits 8 r b h]
theorem byte_lt {r b : Nat} (hr : r < 4294967296) (hb : b < 256) : byte r b < 4294967296 := by
  rw [byte_eq]; exact iter_lt 8 (Nat.xor_lt_two_pow (n := 32) hr (by omega))
theorem crc_lt : ∀ (l : List UInt8) {r : Nat}, r < 4294967296 → crc r l < 4294967296
  | [], _, h => h
  | b :: l, _, h => crc_lt l (byte_lt h b.toNat_lt)
theorem crc_append (r : Nat) (a b : List UInt8) : crc r (a ++ b) = crc (crc r a) b := by simp [crc, List.foldl_append]
theorem crc_snoc (r : Nat) (a : List UInt8) (b : UInt8) : crc r (a ++ [b]) = byte (crc r a) b.toNat := by simp [crc, List.foldl_append]

/-! ### One and the same register comes of one alone -/
theorem top_set {h : Nat} (hh : h < 2147483648) : 2147483648 ≤ h ^^^ 3988292384 := by
  have t : (h ^^^ 3988292384).testBit 31 = true := by
    rw [Nat.testBit_xor, Nat.testBit_lt_two_pow (i := 31) hh]; rfl
  exact Nat.ge_two_pow_of_testBit t
theorem S_inj {x y : Nat} (hx : x < 4294967296) (hy : y < 4294967296) (h : S x = S y) : x = y := by
  unfold S at h
  split at h <;> split at h
  · have := xor_cancel h; omega
  · have := top_set (h := x / 2) (by omega); omega
  · have := top_set (h := y / 2) (by omega); omega
  · omega
theorem iter_inj : ∀ (k : Nat) {x y : Nat}, x < 4294967296 → y < 4294967296 → iter k x = iter k y → x = y
  | 0, _, _, _, _, h => h
  | k + 1, _, _, hx, hy, h => S_inj hx hy (iter_inj k (S_lt hx) (S_lt hy) h)
theorem crc_inj : ∀ (l : List UInt8) {x y : Nat}, x < 4294967296 → y < 4294967296 → crc x l = crc y l → x = y
  | [], _, _, _, _, h => h
  | b :: l, x, y, hx, hy, h => by
    have hb := b.toNat_lt
    have h1 := crc_inj l (byte_lt hx hb) (byte_lt hy hb) h
    rw [byte_eq, byte_eq] at h1
    exact xor_cancel (iter_inj 8 (Nat.xor_lt_two_pow (n := 32) hx (by omega)) (Nat.xor_lt_two_pow (n := 32) hy (by omega)) h1)
theorem iter_add : ∀ (k m r : Nat), iter k (iter m r) = iter (m + k) r
  | k, 0, r => by simp [iter]
  | k, m + 1, r => by rw [show m + 1 + k = (m + k) + 1 by omega]; exact iter_add k m (S r)
/-- Four bytes are one word laid over the register. -/
def word (a b c d : Nat) : Nat := a ^^^ 256 * b ^^^ 65536 * c ^^^ 16777216 * d
theorem four (r a b c d : Nat) : byte (byte (byte (byte r a) b) c) d = iter 32 (r ^^^ word a b c d) := by
  have h1 : iter 8 (r ^^^ a) ^^^ b = iter 8 (256 * b ^^^ (r ^^^ a)) := by rw [iter_two 8 b]; exact Nat.xor_comm _ _
  have h2 : ∀ x, iter 16 x ^^^ c = iter 16 (65536 * c ^^^ x) := fun x => by rw [iter_two 16 c]; exact Nat.xor_comm _ _
  have h3 : ∀ x, iter 24 x ^^^ d = iter 24 (16777216 * d ^^^ x) := fun x => by rw [iter_two 24 d]; exact Nat.xor_comm _ _
  rw [byte_eq r a, byte_eq _ b, h1, iter_add, byte_eq _ c, h2, iter_add, byte_eq _ d, h3, iter_add]
  congr 1
  unfold word
  ac_rfl
theorem word_add {a b c d : Nat} (ha : a < 256) (hb : b < 256) (hc : c < 256) : word a b c d = a + 256 * b + 65536 * c + 16777216 * d := by
  have e1 := xor_join 8 a b (by omega)
  have e2 := xor_join 16 (256 * b + a) c (by omega)
  have e3 := xor_join 24 (65536 * c + (256 * b + a)) d (by omega)
  rw [show (2 : Nat) ^ 8 = 256 from rfl] at e1
  rw [show (2 : Nat) ^ 16 = 65536 from rfl] at e2
  rw [show (2 : Nat) ^ 24 = 16777216 from rfl] at e3
  unfold word
  rw [Nat.xor_comm a, e1, Nat.xor_comm _ (65536 * c), e2, Nat.xor_comm _ (16777216 * d), e3]
  omega
theorem word_lt {a b c d : Nat} (ha : a < 256) (hb : b < 256) (hc : c < 256) (hd : d < 256) : word a b c d < 4294967296 := by
  rw [word_add ha hb hc]; omega

theorem sum_inj_crc {a b : List UInt8} : sum a = sum b ↔ crc 4294967295 a = crc 4294967295 b := by
  have := crc_lt a (r := 4294967295) (by omega)
  have := crc_lt b (r := 4294967295) (by omega)
  unfold sum; omega

/-- Four bytes in the place of four others are told. -/
theorem tells (p q x y : List UInt8) (hx : x.length = 4) (hy : y.length = 4) : sum (p ++ x ++ q) = sum (p ++ y ++ q) ↔ x = y := by
  rw [sum_inj_crc]
  constructor
  · intro h
    match x, hx, y, hy with
    | [a, b, c, d], _, [e, f, g, i], _ =>
    rw [crc_append, crc_append, crc_append, crc_append] at h
    have hp := crc_lt p (r := 4294967295) (by omega)
    have l1 := crc_lt [a, b, c, d] hp
    have l2 := crc_lt [e, f, g, i] hp
    have h1 := crc_inj q l1 l2 h
    simp only [crc, List.foldl_cons, List.foldl_nil] at h1
    rw [four, four] at h1
    have ka := a.toNat_lt; have kb := b.toNat_lt; have kc := c.toNat_lt; have kd := d.toNat_lt
    have ke := e.toNat_lt; have kf := f.toNat_lt; have kg := g.toNat_lt; have ki := i.toNat_lt
    have w1 := word_lt ka kb kc kd
    have w2 := word_lt ke kf kg ki
    have h2 := xor_cancel' (iter_inj 32 (Nat.xor_lt_two_pow (n := 32) hp w1) (Nat.xor_lt_two_pow (n := 32) hp w2) h1)
    rw [word_add ka kb kc, word_add ke kf kg] at h2
    have : a = e := UInt8.toNat_inj.1 (by omega)
    have : b = f := UInt8.toNat_inj.1 (by omega)
    have : c = g := UInt8.toNat_inj.1 (by omega)
    have : d = i := UInt8.toNat_inj.1 (by omega)
    simp_all
  · rintro rfl; rfl
/-- A text and its check behind it. -/
theorem rest (s x : List UInt8) (hx : x.map (·.toNat) = [sum s % 256, sum s / 256 % 256, sum s / 65536 % 256, sum s / 16777216 % 256]) : sum (s ++ x) = 558161692 := by
  match x, (by simpa using congrArg List.length hx : x.length = 4), hx with
  | [a, b, c, d], _, hx =>
    simp only [List.map_cons, List.map_nil, List.cons.injEq, and_true] at hx
    obtain ⟨ha, hb, hc, hd⟩ := hx
    have hs := crc_lt s (r := 4294967295) (by omega)
    have hu : sum s = 4294967295 - crc 4294967295 s := rfl
    have hw : word a.toNat b.toNat c.toNat d.toNat = sum s := by
      rw [word_add a.toNat_lt b.toNat_lt c.toNat_lt, ha, hb, hc, hd]; omega
    have hx : crc 4294967295 s ^^^ sum s = 4294967295 := by
      rw [hu]
      apply Nat.eq_of_testBit_eq; intro i
      rw [Nat.testBit_xor, show (4294967295 : Nat) - crc 4294967295 s = 2 ^ 32 - (crc 4294967295 s + 1) by omega, Nat.testBit_two_pow_sub_succ hs, show (4294967295 : Nat) = 2 ^ 32 - 1 from rfl, Nat.testBit_two_pow_sub_one]
      by_cases hi : i < 32
      · simp [hi]
      · have hp : 2 ^ 32 ≤ 2 ^ i := Nat.pow_le_pow_right (by decide) (by omega)
        have : (crc 4294967295 s).testBit i = false := Nat.testBit_lt_two_pow (Nat.lt_of_lt_of_le hs hp)
        simp [hi]; exact this
    show 4294967295 - crc 4294967295 (s ++ [a, b, c, d]) = 558161692
    rw [crc_append]
    simp only [crc, List.foldl_cons, List.foldl_nil]
    rw [four, hw]
    have : List.foldl (fun r (b : UInt8) => byte r b.toNat) 4294967295 s = crc 4294967295 s := rfl
    rw [this, hx]
    decide +kernel
end Go.Proofs.Ytakdagmkkelnfaa.SumPure

/-! The walk of sum.step: eight bits of the register. No condition but that the register is a number of 32 bits. -/
namespace Go.Proofs.Ytakdagmkkelnfaa
open Go.RowKit SumPure

theorem step_form (x : Nat) (hx : x < 4294967296) :
    bits BinOp.xor IntKind.u32 ((x : Int) / 2) (bits BinOp.and IntKind.u32 3988292384 (-bits BinOp.and IntKind.u32 (x : Int) 1 % 4294967296)) = ((S x : Nat) : Int) := by
  have h1 : bits .and .u32 (x : Int) 1 = ((x % 2 : Nat) : Int) := by
    have := u32_and_nat x 1 hx (by omega)
    rw [nat_mask1] at this; exact this
  rw [h1]
  unfold S
  rcases Nat.mod_two_eq_zero_or_one x with h | h
  · rw [h, if_neg (by omega)]
    have h2 : bits .and .u32 3988292384 (-((0 : Nat) : Int) % 4294967296) = ((0 : Nat) : Int) := by decide +kernel
    rw [h2]
    have h3 := u32_xor_nat (x / 2) 0 (by omega) (by omega)
    rw [Nat.xor_zero] at h3
    rw [← h3]; congr 1
  · rw [h, if_pos rfl]
    have h2 : bits .and .u32 3988292384 (-((1 : Nat) : Int) % 4294967296) = ((3988292384 : Nat) : Int) := by decide +kernel
    rw [h2]
    have h3 := u32_xor_nat (x / 2) 3988292384 (by omega) (by omega)
    rw [← h3]; congr 1

set_option maxHeartbeats 400000 in
theorem step_any (r : Nat) (w : World) (hr : r < 4294967296) :
    Calls Try.prog 19 #[.int .u32 r] w fun e w' => e = .returned (.int .u32 (iter 8 r : Nat)) ∧ w = w' := by
  go_enter Try.func19, Try.ntmps19
  go_wp2
  go_loop [0, 3] (fun v i => ∃ (k x : Nat), k ≤ 8 ∧ x < 4294967296 ∧ i = .int .i64 k ∧ v = .int .u32 x ∧ Hid (iter (8 - k) x = iter 8 r)) (fun _ i => 8 - (intOf i).toNat)
  case atStart => exact ⟨0, r, by omega, hr, rfl, rfl, Lib.hid rfl⟩
  case round =>
    obtain ⟨k, x, hk, hx, rfl, rfl, hi⟩ := hrel
    by_cases hlt : k < 8
    · go_wp2
      go_round
      case rel =>
        refine ⟨k + 1, S x, by omega, S_lt hx, by go_num, by rw [step_form x hx], ?_⟩
        have h := hi.out
        rw [show 8 - k = (8 - (k + 1)) + 1 by omega] at h
        exact Lib.hid h
      case measure => simp [intOf]; omega
    · go_wp2
      go_ret
      have h := hi.out
      rw [show 8 - k = 0 by omega] at h
      exact ⟨by rw [← h]; rfl, rfl⟩
end Go.Proofs.Ytakdagmkkelnfaa

/-! The walks of sum.Of and of the reference's Of: the check of texts in a slice, and of one text. -/
namespace Go.Proofs.Ytakdagmkkelnfaa
open Go.RowKit SumPure

def joined (ss : List ByteArray) : List UInt8 := ss.flatMap (fun s => s.data.toList)
theorem joined_take (ss : List ByteArray) (k : Nat) (hk : k < ss.length) : joined (ss.take (k + 1)) = joined (ss.take k) ++ (ss.getD k ByteArray.empty).data.toList := by
  rw [List.take_succ_eq_append_getElem hk]
  unfold joined
  rw [List.flatMap_append]
  simp [List.getD, List.getElem?_eq_getElem hk]
theorem take_snoc (s : ByteArray) (k : Nat) (h : k < s.size) : s.data.toList.take (k + 1) = s.data.toList.take k ++ [s[k]] := by
  rw [List.take_succ_eq_append_getElem (by simpa using h)]; rfl
theorem ret_u32 {a b : Int} (h : a = b) : Ending.returned (.int .u32 a) = .returned (.int .u32 b) := by rw [h]
def initCrc (l : List UInt8) : Nat := crc 4294967295 l
theorem initCrc_lt (l : List UInt8) : initCrc l < 4294967296 := crc_lt l (by omega)

theorem sum_eq (l : List UInt8) : sum l = 4294967295 - initCrc l := rfl
theorem byte_form (x : Nat) (c : UInt8) (hx : x < 4294967296) :
    bits BinOp.xor IntKind.u32 (bits BinOp.and IntKind.u32 (x : Int) 255) (c.toNat : Int) = ((x % 256 ^^^ c.toNat : Nat) : Int) := by
  have h1 := u32_and_nat x 255 hx (by omega)
  rw [nat_mask8] at h1
  have hc := c.toNat_lt
  rw [show ((255 : Int)) = ((255 : Nat) : Int) from rfl, h1, u32_xor_nat _ _ (by omega) (by omega)]
theorem byte_form2 (x y : Nat) (hx : x < 4294967296) (hy : y < 4294967296) :
    bits BinOp.xor IntKind.u32 ((x : Int) / 256) (y : Int) = ((x / 256 ^^^ y : Nat) : Int) := by
  rw [← u32_xor_nat _ _ (by omega) hy]; congr 1

theorem flip_form (x : Nat) (hx : x < 4294967296) : bits BinOp.xor IntKind.u32 (x : Int) 4294967295 = ((4294967295 - x : Nat) : Int) := by
  have h := u32_xor_nat x 4294967295 hx (by omega)
  rw [show ((4294967295 : Int)) = ((4294967295 : Nat) : Int) from rfl, h]
  congr 1
  apply Nat.eq_of_testBit_eq; intro i
  rw [Nat.testBit_xor, show (4294967295 : Nat) - x = 2 ^ 32 - (x + 1) by omega, Nat.testBit_two_pow_sub_succ hx, show (4294967295 : Nat) = 2 ^ 32 - 1 from rfl, Nat.testBit_two_pow_sub_one]
  by_cases hi : i < 32
  · simp [hi]
  · have hp : 2 ^ 32 ≤ 2 ^ i := Nat.pow_le_pow_right (by decide) (by omega)
    have : x.testBit i = false := Nat.testBit_lt_two_pow (Nat.lt_of_lt_of_le hx hp)
    simp [hi]; exact this

theorem flip_form' (x : Nat) (hx : x < 4294967296) : bits BinOp.xor IntKind.u32 IntKind.u32.max (x : Int) = ((4294967295 - x : Nat) : Int) := by
  rw [show IntKind.u32.max = 4294967295 by decide +kernel, ← flip_form x hx, show ((4294967295 : Int)) = ((4294967295 : Nat) : Int) from rfl, u32_xor_nat _ _ hx (by omega), u32_xor_nat _ _ (by omega) hx, Nat.xor_comm]

set_option maxHeartbeats 400000 in
theorem of_some (ss : List ByteArray) (b off cap : Nat) (w : World) (hm : ss.length ≤ 9223372036854775807) (hs : ∀ i, i < ss.length → (ss.getD i ByteArray.empty).size ≤ 9223372036854775807)
    (hb : b < w.heap.size) (hc : ∀ i, i < ss.length → w.cell? ⟨b, off + i, none⟩ = some (.string (ss.getD i ByteArray.empty))) :
    Calls Try.prog 10 #[.slice (some ⟨b, off, none⟩) ss.length cap] w fun e w' => e = .returned (.int .u32 (sum (joined ss) : Nat)) ∧ Below w.heap.size w w' := by
  have Hc := Lib.hid hc
  have Hs := Lib.hid hs
  clear hc hs
  have hcv := fun w s => strWorld_conv (P := Try.prog) (src := 9) (dst := 37) (e := 5) Try.underlying9 Try.underlying37 Try.underlying5 w s
  go_enter Try.func10, Try.ntmps10
  go_wp2
  go_loopw [3, 10] (fun v i wr => ∃ (k : Nat), k ≤ ss.length ∧ i = .int .i64 k ∧ v = .int .u32 (initCrc (joined (ss.take k)) : Nat) ∧ Below w.heap.size w wr) (fun _ i _ => ss.length - (intOf i).toNat)
  case atStart => exact ⟨0, by omega, rfl, rfl, Below.refl _ _⟩
  case round =>
    obtain ⟨k, hk, rfl, rfl, hbel⟩ := hrel
    obtain ⟨x, hxe⟩ : ∃ x, x = initCrc (joined (ss.take k)) := ⟨_, rfl⟩
    rw [← hxe]
    have hx : x < 4294967296 := hxe ▸ initCrc_lt _
    have Hx := Lib.hid hxe
    clear hxe
    have Hb := Lib.hid hbel
    by_cases hlt : k < ss.length
    · obtain ⟨s, hse⟩ : ∃ s, s = ss.getD k ByteArray.empty := ⟨_, rfl⟩
      have hcell : wr.cell? ⟨b, off + k, none⟩ = some (.string s) := by rw [hbel.cell (by exact hb), hse]; exact Hc.out k hlt
      have hsz : s.size ≤ 9223372036854775807 := hse ▸ Hs.out k hlt
      have Hse := Lib.hid hse
      clear hbel hse
      go_wp2
      obtain ⟨wo, hwo⟩ : ∃ wo : World, wo = strWorld 5 wr s := ⟨_, rfl⟩
      have hcl : ∀ j (hj : j < s.size), wo.cell? ⟨wr.heap.size, j, none⟩ = some (.int .u8 (s[j].toNat : Int)) := by subst hwo; exact strWorld_cell _ _ _
      have hbo : Hid (Below w.heap.size w wo) := by subst hwo; exact Lib.hid (Hb.out.trans (strWorld_below _ _ _ Hb.out.size))
      rw [← hwo]
      clear hwo
      have Hcl := Lib.hid hcl
      clear hcl
      go_loop [3, 17] (fun v i => ∃ (j : Nat), j ≤ s.size ∧ i = .int .i64 j ∧ v = .int .u32 (crc x (s.data.toList.take j) : Nat)) (fun _ i => s.size - (intOf i).toNat)
      case atStart => exact ⟨0, by omega, rfl, rfl⟩
      case round =>
        obtain ⟨j, hj, rfl, rfl⟩ := hrel
        obtain ⟨y, hye⟩ : ∃ y, y = crc x (s.data.toList.take j) := ⟨_, rfl⟩
        rw [← hye]
        have hy : y < 4294967296 := hye ▸ crc_lt _ hx
        have Hy := Lib.hid hye
        clear hye
        by_cases hjl : j < s.size
        · have hcj := Hcl.out j hjl
          obtain ⟨c, hce⟩ : ∃ c, c = s[j] := ⟨_, rfl⟩
          rw [← hce] at hcj
          have Hce := Lib.hid hce
          clear hce
          have hbf := byte_form y c hy
          have hmod : (c.toNat : Int) % 4294967296 = (c.toNat : Int) := by have := c.toNat_lt; omega
          have hxl : y % 256 ^^^ c.toNat < 4294967296 := Nat.xor_lt_two_pow (n := 32) (by omega) (by have := c.toNat_lt; omega)
          go_wp2_with (go_at_call 19; (with_reducible refine (step_any (y % 256 ^^^ c.toNat) _ hxl).mono ?_); rintro e w' ⟨rfl, rfl⟩)
          go_round
          case rel =>
            refine ⟨j + 1, by omega, by go_num, ?_⟩
            rw [byte_form2 y _ hy (iter_lt 8 hxl), take_snoc s j hjl, crc_snoc, ← Hy.out, ← Hce.out]; rfl
          case measure => simp [intOf]; omega
        · go_wp2
          go_roundw
          case rel =>
            refine ⟨k + 1, by omega, by go_num, ?_, hbo.out⟩
            rw [Hy.out, joined_take ss k hlt, List.take_of_length_le (by simp; exact Nat.le_of_not_lt hjl), Hx.out, ← Hse.out]
            unfold initCrc
            rw [crc_append]
          case measure => simp [intOf]; omega
    · go_wp2
      go_ret
      have h1 := Hx.out
      rw [List.take_of_length_le (by omega)] at h1
      subst h1
      refine ⟨?_ , Hb.out⟩
      exact ret_u32 (by rw [sum_eq]; exact flip_form' _ (initCrc_lt _))

set_option maxHeartbeats 400000 in
theorem of_nil (w : World) :
    Calls Try.prog 10 #[.slice none 0 0] w fun e w' => e = .returned (.int .u32 (0 : Nat)) ∧ Below w.heap.size w w' := by
  go_enter Try.func10, Try.ntmps10
  go_wp2
  go_loopw [3, 10] (fun v i wr => i = .int .i64 0 ∧ v = .int .u32 4294967295 ∧ wr = w) (fun _ _ _ => 0)
  case atStart => exact ⟨rfl, rfl, rfl⟩
  case round =>
    obtain ⟨rfl, rfl, rfl⟩ := hrel
    go_wp2
    go_ret
    exact ⟨ret_u32 (by decide +kernel), Below.refl _ _⟩

theorem ref_bit (j : Nat) (c : UInt8) : bits BinOp.and IntKind.u32 ((c.toNat : Int) / 2 ^ j % 4294967296) 1 = ((c.toNat / 2 ^ j % 2 : Nat) : Int) := by
  have hc := c.toNat_lt
  have hl : c.toNat / 2 ^ j < 4294967296 := Nat.lt_of_le_of_lt (Nat.div_le_self _ _) (by omega)
  have h1 := u32_and_nat (c.toNat / 2 ^ j) 1 hl (by omega)
  rw [nat_mask1] at h1
  have h2 : ((c.toNat : Int) / 2 ^ j % 4294967296) = ((c.toNat / 2 ^ j : Nat) : Int) := by
    have e : ((c.toNat : Int) / 2 ^ j) = ((c.toNat / 2 ^ j : Nat) : Int) := by rw [Int.natCast_ediv, Int.natCast_pow]; rfl
    rw [e]; generalize c.toNat / 2 ^ j = m at *; omega
  rw [h2]; exact h1
theorem and_one (y : Nat) (hy : y < 4294967296) : bits BinOp.and IntKind.u32 (y : Int) 1 = ((y % 2 : Nat) : Int) := by
  have h1 := u32_and_nat y 1 hy (by omega)
  rw [nat_mask1] at h1
  exact h1
theorem test_no (j y : Nat) (c : UInt8) (hy : y < 4294967296) (h : c.toNat / 2 ^ j % 2 = y % 2) :
    (bits BinOp.and IntKind.u32 ((c.toNat : Int) / 2 ^ j % 4294967296) 1 != bits BinOp.and IntKind.u32 (y : Int) 1) = false := by
  rw [ref_bit, and_one y hy, h]; simp
theorem test_yes (j y : Nat) (c : UInt8) (hy : y < 4294967296) (h : ¬ c.toNat / 2 ^ j % 2 = y % 2) :
    (bits BinOp.and IntKind.u32 ((c.toNat : Int) / 2 ^ j % 4294967296) 1 != bits BinOp.and IntKind.u32 (y : Int) 1) = true := by
  rw [ref_bit, and_one y hy]; generalize c.toNat / 2 ^ j = m at *; rw [bne_iff_ne]; omega
theorem R_lt {r bit : Nat} (h : r < 4294967296) : R r bit < 4294967296 := by
  unfold R; split
  · omega
  · exact Nat.xor_lt_two_pow (n := 32) (by omega) (by omega)
theorem ref_step {j y c z : Nat} (hjl : j < 8) (h : refBits (8 - j) y (c / 2 ^ j) = z) : refBits (8 - (j + 1)) (R y (c / 2 ^ j % 2)) (c / 2 ^ (j + 1)) = z := by
  rw [show 8 - j = (8 - (j + 1)) + 1 by omega] at h
  rw [Nat.pow_succ, ← Nat.div_div_eq_div_mul]
  exact h
theorem poly_form (y : Nat) (hy : y < 4294967296) : bits BinOp.xor IntKind.u32 ((y : Int) / 2) 3988292384 = ((y / 2 ^^^ 3988292384 : Nat) : Int) := by
  rw [← u32_xor_nat _ _ (by omega) (by omega)]; congr 1
set_option maxHeartbeats 400000 in
theorem refOf_any (s : ByteArray) (w : World) (hs : s.size ≤ 9223372036854775807) :
    Calls Try.prog 42 #[.string s] w fun e w' => e = .returned (.int .u32 (sum s.data.toList : Nat)) ∧ w = w' := by
  go_enter Try.func42, Try.ntmps42
  go_wp2
  go_loop [3, 4] (fun v i => ∃ (k : Nat), k ≤ s.size ∧ i = .int .i64 k ∧ v = .int .u32 (initCrc (s.data.toList.take k) : Nat)) (fun _ i => s.size - (intOf i).toNat)
  case atStart => exact ⟨0, by omega, rfl, rfl⟩
  case round =>
    obtain ⟨k, hk, rfl, rfl⟩ := hrel
    obtain ⟨x, hxe⟩ : ∃ x, x = initCrc (s.data.toList.take k) := ⟨_, rfl⟩
    rw [← hxe]
    have hx : x < 4294967296 := hxe ▸ initCrc_lt _
    have Hx := Lib.hid hxe
    clear hxe
    by_cases hlt : k < s.size
    · go_wp2
      go_loop [3, 5] (fun v i => ∃ (j y : Nat), j ≤ 8 ∧ y < 4294967296 ∧ i = .int .i64 j ∧ v = .int .u32 y ∧ Hid (refBits (8 - j) y (s[k].toNat / 2 ^ j) = byte x s[k].toNat)) (fun _ i => 8 - (intOf i).toNat)
      case atStart => exact ⟨0, x, by omega, hx, rfl, rfl, Lib.hid (by rw [byte_ref _ _ (UInt8.toNat_lt _)]; simp)⟩
      case round =>
        obtain ⟨j, y, hj, hy, rfl, rfl, Hr⟩ := hrel
        by_cases hjl : j < 8
        · obtain ⟨c, hce⟩ : ∃ c, c = s[k] := ⟨_, rfl⟩
          rw [← hce] at Hr
          by_cases hbit : c.toNat / 2 ^ j % 2 = y % 2
          · have ht := test_no j y c hy hbit
            rw [hce] at ht
            have Hbit := Lib.hid hbit
            have Hce := Lib.hid hce
            clear hbit hce
            go_wp2
            go_round
            case rel =>
              refine ⟨j + 1, R y (c.toNat / 2 ^ j % 2), by omega, R_lt hy, by go_num, ?_, ?_⟩
              · unfold R; rw [if_pos Hbit.out]; go_num
              · rw [← Hce.out]; exact Lib.hid (ref_step hjl Hr.out)
            case measure => simp [intOf]; omega
          · have ht := test_yes j y c hy hbit
            rw [hce] at ht
            have Hbit := Lib.hid hbit
            have Hce := Lib.hid hce
            clear hbit hce
            go_wp2
            go_round
            case rel =>
              refine ⟨j + 1, R y (c.toNat / 2 ^ j % 2), by omega, R_lt hy, by go_num, ?_, ?_⟩
              · unfold R; rw [if_neg Hbit.out, poly_form y hy]
              · rw [← Hce.out]; exact Lib.hid (ref_step hjl Hr.out)
            case measure => simp [intOf]; omega
        · go_wp2
          go_round
          case rel =>
            refine ⟨k + 1, by omega, by go_num, ?_⟩
            have h := Hr.out
            rw [show 8 - j = 0 by omega] at h
            rw [take_snoc s k hlt]
            unfold initCrc
            rw [crc_snoc]
            have h2 := Hx.out
            unfold initCrc at h2
            rw [← h2, ← h]; rfl
          case measure => simp [intOf]; omega
    · go_wp2
      go_ret
      have h1 := Hx.out
      rw [List.take_of_length_le (by simp; exact Nat.le_of_not_lt hlt)] at h1
      subst h1
      exact ⟨ret_u32 (by rw [flip_form _ (initCrc_lt _), sum_eq]), rfl⟩
end Go.Proofs.Ytakdagmkkelnfaa
