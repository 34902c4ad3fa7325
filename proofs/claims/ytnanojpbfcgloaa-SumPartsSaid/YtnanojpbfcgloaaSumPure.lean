/-
  Plain facts on the check of layer 2: one bit's step, eight of them, a byte, a list of bytes. Nothing of the program is named here.
-/
namespace Go.Proofs.Ytnanojpbfcgloaa.SumPure

/-- One bit: the register goes on by one place. -/
def S (r : Nat) : Nat := if r % 2 = 1 then r / 2 ^^^ 3988292384 else r / 2
/-- So many bits. -/
def iter : Nat → Nat → Nat
  | 0, r => r
  | k + 1, r => iter k (S r)
/-- The program's byte. -/
def byte (r b : Nat) : Nat := r / 256 ^^^ iter 8 (r % 256 ^^^ b)
/-- The reference's bit. -/
def R (r bit : Nat) : Nat := if bit = r % 2 then r / 2 else r / 2 ^^^ 3988292384
/-- The reference's byte, so many bits of it. -/
def refBits : Nat → Nat → Nat → Nat
  | 0, r, _ => r
  | k + 1, r, b => refBits k (R r (b % 2)) (b / 2)
def crc (r : Nat) (l : List UInt8) : Nat := l.foldl (fun r b => byte r b.toNat) r
def sum (l : List UInt8) : Nat := 4294967295 - crc 4294967295 l

theorem xor_half (a b : Nat) : (a ^^^ b) / 2 = a / 2 ^^^ b / 2 := by
  apply Nat.eq_of_testBit_eq; intro i
  simp [Nat.testBit_div_two]
theorem xor_mod (a b : Nat) : (a ^^^ b) % 2 = (a + b) % 2 := by
  have h : (a ^^^ b).testBit 0 = (a + b).testBit 0 := by
    rw [Nat.testBit_xor]
    simp only [Nat.testBit_zero]
    rcases Nat.mod_two_eq_zero_or_one a with h1 | h1 <;> rcases Nat.mod_two_eq_zero_or_one b with h2 | h2 <;> simp [Nat.add_mod, h1, h2]
  simp only [Nat.testBit_zero] at h
  rcases Nat.mod_two_eq_zero_or_one (a ^^^ b) with h1 | h1 <;> rcases Nat.mod_two_eq_zero_or_one (a + b) with h2 | h2 <;> simp_all
theorem xor_cancel {a b c : Nat} (h : a ^^^ c = b ^^^ c) : a = b := by
  have := congrArg (· ^^^ c) h
  simpa [Nat.xor_assoc] using this
theorem xor_cancel' {a b c : Nat} (h : c ^^^ a = c ^^^ b) : a = b := xor_cancel (c := c) (by rw [Nat.xor_comm a, Nat.xor_comm b, h])
theorem xor_join (k x y : Nat) (hx : x < 2 ^ k) : 2 ^ k * y ^^^ x = 2 ^ k * y + x := by
  apply Nat.eq_of_testBit_eq; intro i
  rw [Nat.testBit_xor, Nat.testBit_two_pow_mul_add _ hx, Nat.testBit_two_pow_mul]
  by_cases hi : i < k
  · have : ¬ k ≤ i := by omega
    simp [hi, this]
  · have h1 : k ≤ i := by omega
    have : x.testBit i = false := Nat.testBit_lt_two_pow (Nat.lt_of_lt_of_le hx (Nat.pow_le_pow_right (by decide) h1))
    simp [hi, h1, this]
theorem S_lt {r : Nat} (h : r < 4294967296) : S r < 4294967296 := by
  unfold S; split
  · exact Nat.xor_lt_two_pow (n := 32) (by omega) (by omega)
  · omega
theorem iter_lt : ∀ (k : Nat) {r : Nat}, r < 4294967296 → iter k r < 4294967296
  | 0, _, h => h
  | k + 1, _, h => iter_lt k (S_lt h)
theorem S_two (h y : Nat) : S (2 * h ^^^ y) = h ^^^ S y := by
  have e : (2 * h ^^^ y) % 2 = y % 2 := by rw [xor_mod]; omega
  have d : (2 * h ^^^ y) / 2 = h ^^^ y / 2 := by rw [xor_half]; congr 1; omega
  unfold S; rw [e, d]
  split <;> simp [Nat.xor_assoc]
theorem iter_two : ∀ (k h y : Nat), iter k (2 ^ k * h ^^^ y) = h ^^^ iter k y
  | 0, h, y => by simp [iter]
  | k + 1, h, y => by
    show iter k (S (2 ^ (k + 1) * h ^^^ y)) = h ^^^ iter k (S y)
    have e : 2 ^ (k + 1) * h = 2 * (2 ^ k * h) := by rw [Nat.pow_succ, Nat.mul_comm (2 ^ k) 2, Nat.mul_assoc]
    rw [e, S_two, iter_two k]
theorem split_byte (r : Nat) : r = 256 * (r / 256) ^^^ r % 256 := by
  have h := xor_join 8 (r % 256) (r / 256) (by omega)
  rw [show (2 : Nat) ^ 8 = 256 from rfl] at h
  omega
/-- The program's byte is eight bits of the register with the byte laid over it. -/
theorem byte_eq (r b : Nat) : byte r b = iter 8 (r ^^^ b) := by
  conv => rhs; rw [split_byte r]
  rw [Nat.xor_assoc]
  exact (iter_two 8 (r / 256) (r % 256 ^^^ b)).symm
theorem S_R (r b : Nat) : S (r ^^^ b) = R r (b % 2) ^^^ b / 2 := by
  have e := xor_mod r b
  have d := xor_half r b
  unfold S R
  rw [d]
  by_cases h : b % 2 = r % 2
  · rw [if_neg (by omega), if_pos h]
  · rw [if_pos (by omega), if_neg h, Nat.xor_assoc, Nat.xor_assoc, Nat.xor_comm (b / 2)]
theorem iter_refBits : ∀ (k r b : Nat), b < 2 ^ k → iter k (r ^^^ b) = refBits k r b
  | 0, r, b, h => by have : b = 0 := by simpa using h
                     simp [iter, refBits, this]
  | k + 1, r, b, h => by
    show iter k (S (r ^^^ b)) = refBits k (R r (b % 2)) (b / 2)
    rw [S_R, iter_refBits k _ _ (by rw [Nat.pow_succ] at h; omega)]
theorem byte_ref (r b : Nat) (h : b < 256) : byte r b = refBits 8 r b := by
  rw [byte_eq, iter_refBits 8 r b h]
theorem byte_lt {r b : Nat} (hr : r < 4294967296) (hb : b < 256) : byte r b < 4294967296 := by
  rw [byte_eq]; exact iter_lt 8 (Nat.xor_lt_two_pow (n := 32) hr (by omega))
theorem crc_lt : ∀ (l : List UInt8) {r : Nat}, r < 4294967296 → crc r l < 4294967296
  | [], _, h => h
  | b :: l, _, h => crc_lt l (byte_lt h b.toNat_lt)
theorem crc_append (r : Nat) (a b : List UInt8) : crc r (a ++ b) = crc (crc r a) b := by simp [crc, List.foldl_append]
theorem crc_snoc (r : Nat) (a : List UInt8) (b : UInt8) : crc r (a ++ [b]) = byte (crc r a) b.toNat := by simp [crc, List.foldl_append]

/-! ### One and the same register comes of one alone -/
theorem top_set {h : Nat} (hh : h < 2147483648) : 2147483648 ≤ h ^^^ 3988292384 := by
  have t : (h ^^^ 3988292384).testBit 31 = true := by
    rw [Nat.testBit_xor, Nat.testBit_lt_two_pow (i := 31) hh]; rfl
  exact Nat.ge_two_pow_of_testBit t
theorem S_inj {x y : Nat} (hx : x < 4294967296) (hy : y < 4294967296) (h : S x = S y) : x = y := by
  unfold S at h
  split at h <;> split at h
  · have := xor_cancel h; omega
  · have := top_set (h := x / 2) (by omega); omega
  · have := top_set (h := y / 2) (by omega); omega
  · omega
theorem iter_inj : ∀ (k : Nat) {x y : Nat}, x < 4294967296 → y < 4294967296 → iter k x = iter k y → x = y
  | 0, _, _, _, _, h => h
  | k + 1, _, _, hx, hy, h => S_inj hx hy (iter_inj k (S_lt hx) (S_lt hy) h)
theorem crc_inj : ∀ (l : List UInt8) {x y : Nat}, x < 4294967296 → y < 4294967296 → crc x l = crc y l → x = y
  | [], _, _, _, _, h => h
  | b :: l, x, y, hx, hy, h => by
    have hb := b.toNat_lt
    have h1 := crc_inj l (byte_lt hx hb) (byte_lt hy hb) h
    rw [byte_eq, byte_eq] at h1
    exact xor_cancel (iter_inj 8 (Nat.xor_lt_two_pow (n := 32) hx (by omega)) (Nat.xor_lt_two_pow (n := 32) hy (by omega)) h1)
theorem iter_add : ∀ (k m r : Nat), iter k (iter m r) = iter (m + k) r
  | k, 0, r => by simp [iter]
  | k, m + 1, r => by rw [show m + 1 + k = (m + k) + 1 by omega]; exact iter_add k m (S r)
/-- Four bytes are one word laid over the register. -/
def word (a b c d : Nat) : Nat := a ^^^ 256 * b ^^^ 65536 * c ^^^ 16777216 * d
theorem four (r a b c d : Nat) : byte (byte (byte (byte r a) b) c) d = iter 32 (r ^^^ word a b c d) := by
  have h1 : iter 8 (r ^^^ a) ^^^ b = iter 8 (256 * b ^^^ (r ^^^ a)) := by rw [iter_two 8 b]; exact Nat.xor_comm _ _
  have h2 : ∀ x, iter 16 x ^^^ c = iter 16 (65536 * c ^^^ x) := fun x => by rw [iter_two 16 c]; exact Nat.xor_comm _ _
  have h3 : ∀ x, iter 24 x ^^^ d = iter 24 (16777216 * d ^^^ x) := fun x => by rw [iter_two 24 d]; exact Nat.xor_comm _ _
  rw [byte_eq r a, byte_eq _ b, h1, iter_add, byte_eq _ c, h2, iter_add, byte_eq _ d, h3, iter_add]
  congr 1
  unfold word
  ac_rfl
theorem word_add {a b c d : Nat} (ha : a < 256) (hb : b < 256) (hc : c < 256) : word a b c d = a + 256 * b + 65536 * c + 16777216 * d := by
  have e1 := xor_join 8 a b (by omega)
  have e2 := xor_join 16 (256 * b + a) c (by omega)
  have e3 := xor_join 24 (65536 * c + (256 * b + a)) d (by omega)
  rw [show (2 : Nat) ^ 8 = 256 from rfl] at e1
  rw [show (2 : Nat) ^ 16 = 65536 from rfl] at e2
  rw [show (2 : Nat) ^ 24 = 16777216 from rfl] at e3
  unfold word
  rw [Nat.xor_comm a, e1, Nat.xor_comm _ (65536 * c), e2, Nat.xor_comm _ (16777216 * d), e3]
  omega
theorem word_lt {a b c d : Nat} (ha : a < 256) (hb : b < 256) (hc : c < 256) (hd : d < 256) : word a b c d < 4294967296 := by
  rw [word_add ha hb hc]; omega

theorem sum_inj_crc {a b : List UInt8} : sum a = sum b ↔ crc 4294967295 a = crc 4294967295 b := by
  have := crc_lt a (r := 4294967295) (by omega)
  have := crc_lt b (r := 4294967295) (by omega)
  unfold sum; omega

/-- Four bytes in the place of four others are told. -/
theorem tells (p q x y : List UInt8) (hx : x.length = 4) (hy : y.length = 4) : sum (p ++ x ++ q) = sum (p ++ y ++ q) ↔ x = y := by
  rw [sum_inj_crc]
  constructor
  · intro h
    match x, hx, y, hy with
    | [a, b, c, d], _, [e, f, g, i], _ =>
    rw [crc_append, crc_append, crc_append, crc_append] at h
    have hp := crc_lt p (r := 4294967295) (by omega)
    have l1 := crc_lt [a, b, c, d] hp
    have l2 := crc_lt [e, f, g, i] hp
    have h1 := crc_inj q l1 l2 h
    simp only [crc, List.foldl_cons, List.foldl_nil] at h1
    rw [four, four] at h1
    have ka := a.toNat_lt; have kb := b.toNat_lt; have kc := c.toNat_lt; have kd := d.toNat_lt
    have ke := e.toNat_lt; have kf := f.toNat_lt; have kg := g.toNat_lt; have ki := i.toNat_lt
    have w1 := word_lt ka kb kc kd
    have w2 := word_lt ke kf kg ki
    have h2 := xor_cancel' (iter_inj 32 (Nat.xor_lt_two_pow (n := 32) hp w1) (Nat.xor_lt_two_pow (n := 32) hp w2) h1)
    rw [word_add ka kb kc, word_add ke kf kg] at h2
    have : a = e := UInt8.toNat_inj.1 (by omega)
    have : b = f := UInt8.toNat_inj.1 (by omega)
    have : c = g := UInt8.toNat_inj.1 (by omega)
    have : d = i := UInt8.toNat_inj.1 (by omega)
    simp_all
  · rintro rfl; rfl
/-- A text and its check behind it. -/
theorem rest (s x : List UInt8) (hx : x.map (·.toNat) = [sum s % 256, sum s / 256 % 256, sum s / 65536 % 256, sum s / 16777216 % 256]) : sum (s ++ x) = 558161692 := by
  match x, (by simpa using congrArg List.length hx : x.length = 4), hx with
  | [a, b, c, d], _, hx =>
    simp only [List.map_cons, List.map_nil, List.cons.injEq, and_true] at hx
    obtain ⟨ha, hb, hc, hd⟩ := hx
    have hs := crc_lt s (r := 4294967295) (by omega)
    have hu : sum s = 4294967295 - crc 4294967295 s := rfl
    have hw : word a.toNat b.toNat c.toNat d.toNat = sum s := by
      rw [word_add a.toNat_lt b.toNat_lt c.toNat_lt, ha, hb, hc, hd]; omega
    have hx : crc 4294967295 s ^^^ sum s = 4294967295 := by
      rw [hu]
      apply Nat.eq_of_testBit_eq; intro i
      rw [Nat.testBit_xor, show (4294967295 : Nat) - crc 4294967295 s = 2 ^ 32 - (crc 4294967295 s + 1) by omega, Nat.testBit_two_pow_sub_succ hs, show (4294967295 : Nat) = 2 ^ 32 - 1 from rfl, Nat.testBit_two_pow_sub_one]
      by_cases hi : i < 32
      · simp [hi]
      · have hp : 2 ^ 32 ≤ 2 ^ i := Nat.pow_le_pow_right (by decide) (by omega)
        have : (crc 4294967295 s).testBit i = false := Nat.testBit_lt_two_pow (Nat.lt_of_lt_of_le hs hp)
        simp [hi]; exact this
    show 4294967295 - crc 4294967295 (s ++ [a, b, c, d]) = 558161692
    rw [crc_append]
    simp only [crc, List.foldl_cons, List.foldl_nil]
    rw [four, hw]
    have : List.foldl (fun r (b : UInt8) => byte r b.toNat) 4294967295 s = crc 4294967295 s := rfl
    rw [this, hx]
    decide +kernel
end Go.Proofs.Ytnanojpbfcgloaa.SumPure
