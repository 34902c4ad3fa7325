/-
  Numbers as bytes, in plain words: the folded number, seven bits a byte, and how they are read. Nothing of the program is named here.
-/
namespace Go.Proofs.Yteknaeemjgpgbaa.NibPure

/-- The folded number. -/
def zig (n : Int) : Nat := if n < 0 then 2 * (-(n + 1)).toNat + 1 else 2 * n.toNat
/-- The number of a folded one. -/
def zag (u : Nat) : Int := if u % 2 = 1 then -((u / 2 : Nat) : Int) - 1 else ((u / 2 : Nat) : Int)
/-- Seven bits a byte, at most k + 1 bytes. -/
def lebF : Nat → Nat → List UInt8
  | 0, u => [UInt8.ofNat u]
  | k + 1, u => if u < 128 then [UInt8.ofNat u] else UInt8.ofNat (u % 128 + 128) :: lebF k (u / 128)
def leb (u : Nat) : List UInt8 := lebF 9 u
def enc (n : Int) : List UInt8 := leb (zig n)

/-- What the bytes from number i on read as, s so far. -/
def readF : Nat → Nat → Nat → List UInt8 → Option (Nat × List UInt8)
  | 0, _, _, _ => none
  | _, _, _, [] => none
  | k + 1, i, s, b :: l =>
    if (i = 9 ∧ 1 < b.toNat) ∨ (0 < i ∧ b.toNat = 0) then none
    else if b.toNat < 128 then some (s + b.toNat * 128 ^ i, l)
    else readF k (i + 1) (s + (b.toNat - 128) * 128 ^ i) l
/-- The number that bytes begin with, and what stands behind it. -/
def dec (l : List UInt8) : Option (Int × List UInt8) := (readF 10 0 0 l).map fun p => (zag p.1, p.2)

theorem zag_zig (n : Int) : zag (zig n) = n := by unfold zag zig; split <;> split <;> omega
theorem zig_zag (u : Nat) : zig (zag u) = u := by unfold zag zig; split <;> split <;> omega
theorem zig_lt {n : Int} (h1 : -9223372036854775808 ≤ n) (h2 : n ≤ 9223372036854775807) : zig n < 18446744073709551616 := by unfold zig; split <;> omega
theorem zag_bd {u : Nat} (h : u < 18446744073709551616) : -9223372036854775808 ≤ zag u ∧ zag u ≤ 9223372036854775807 := by unfold zag; split <;> omega
theorem zig_inj {a b : Int} (h : zig a = zig b) : a = b := by rw [← zag_zig a, ← zag_zig b, h]

theorem lebF_ne (k u : Nat) : lebF k u ≠ [] := by cases k <;> simp [lebF]; split <;> simp
theorem lebF_pos (k u : Nat) : 1 ≤ (lebF k u).length := by
  have := lebF_ne k u
  cases h : lebF k u with
  | nil => exact absurd h this
  | cons a l => simp
theorem lebF_len (k : Nat) : ∀ u, (lebF k u).length ≤ k + 1 := by
  induction k with
  | zero => intro u; simp [lebF]
  | succ k ih => intro u; unfold lebF; split <;> simp; exact ih _
theorem leb_len (u : Nat) : (leb u).length ≤ 10 := lebF_len 9 u
theorem enc_len (n : Int) : (enc n).length ≤ 10 := leb_len _
theorem enc_pos (n : Int) : 1 ≤ (enc n).length := lebF_pos _ _
theorem enc_ne (n : Int) : enc n ≠ [] := lebF_ne _ _

/-- Written and read: from byte i on, what stands behind is left. -/
theorem readF_lebF : ∀ (k i s u : Nat) (r : List UInt8), i + k = 9 → (0 < i → 0 < u) → u < 2 * 128 ^ k → readF (k + 1) i s (lebF k u ++ r) = some (s + u * 128 ^ i, r)
  | 0, i, s, u, r, hi, h0, hu => by
    have hu2 : u < 2 := by simpa using hu
    have hb : (UInt8.ofNat u).toNat = u := by simp; omega
    simp only [lebF, readF, List.cons_append, List.nil_append, hb]
    rw [if_neg (by omega), if_pos (by omega)]
  | k + 1, i, s, u, r, hi, h0, hu => by
    unfold lebF
    by_cases h : u < 128
    · have hb : (UInt8.ofNat u).toNat = u := by simp; omega
      rw [if_pos h]
      simp only [readF, List.cons_append, List.nil_append, hb]
      rw [if_neg (by omega), if_pos h]
    · have hb : (UInt8.ofNat (u % 128 + 128)).toNat = u % 128 + 128 := by simp; omega
      rw [if_neg h]
      simp only [List.cons_append]
      unfold readF
      simp only [hb]
      rw [if_neg (by omega), if_neg (by omega)]
      have hk : u / 128 < 2 * 128 ^ k := by
        rw [Nat.pow_succ] at hu
        apply Nat.div_lt_of_lt_mul
        rw [Nat.mul_comm 128]; rw [Nat.mul_assoc]; exact hu
      rw [readF_lebF k (i + 1) _ (u / 128) r (by omega) (by omega) hk]
      have e : s + (u % 128 + 128 - 128) * 128 ^ i + u / 128 * 128 ^ (i + 1) = s + u * 128 ^ i := by
        rw [Nat.add_sub_cancel, Nat.pow_succ, Nat.add_assoc, ← Nat.mul_assoc, Nat.mul_right_comm, ← Nat.add_mul]
        congr 2
        omega
      rw [e]
theorem dec_enc {n : Int} (h1 : -9223372036854775808 ≤ n) (h2 : n ≤ 9223372036854775807) (r : List UInt8) : dec (enc n ++ r) = some (n, r) := by
  have h := readF_lebF 9 0 0 (zig n) r rfl (by omega) (by have := zig_lt h1 h2; omega)
  unfold dec enc leb
  rw [h]
  simp [zag_zig]

/-- What is read, written again, is what was read. -/
theorem lebF_readF : ∀ (k i s : Nat) (l : List UInt8) (v : Nat) (r : List UInt8), i + k = 9 → readF (k + 1) i s l = some (v, r) →
    ∃ u, v = s + u * 128 ^ i ∧ u < 2 * 128 ^ k ∧ (0 < i → 0 < u) ∧ lebF k u ++ r = l
  | _, _, _, [], _, _, _, h => by simp [readF] at h
  | 0, i, s, b :: l, v, r, hi, h => by
    unfold readF at h
    split at h
    · cases h
    · split at h
      · simp at h
        refine ⟨b.toNat, by omega, by simp; omega, by omega, ?_⟩
        simp [lebF, h.2]
      · simp [readF] at h
  | k + 1, i, s, b :: l, v, r, hi, h => by
    unfold readF at h
    split at h
    · cases h
    · rename_i hn
      split at h
      · rename_i hb
        simp at h
        have hp : 1 ≤ 128 ^ k := Nat.pos_of_ne_zero (by simp)
        refine ⟨b.toNat, by omega, ?_, by omega, ?_⟩
        · rw [Nat.pow_succ]; omega
        · unfold lebF; rw [if_pos hb]; simp [h.2]
      · rename_i hb
        obtain ⟨u, hv, hu, h0, hl⟩ := lebF_readF k (i + 1) _ l v r (by omega) h
        have hb2 := b.toNat_lt
        refine ⟨u * 128 + (b.toNat - 128), ?_, ?_, by omega, ?_⟩
        · rw [hv, Nat.pow_succ]
          generalize 128 ^ i = p
          generalize b.toNat - 128 = c
          rw [Nat.add_mul, Nat.mul_comm p 128, ← Nat.mul_assoc]
          omega
        · rw [Nat.pow_succ]; omega
        · have hu1 := h0 (by omega)
          unfold lebF
          rw [if_neg (by omega), show (u * 128 + (b.toNat - 128)) / 128 = u by omega, show (u * 128 + (b.toNat - 128)) % 128 + 128 = b.toNat by omega]
          simp [hl]
theorem enc_dec {l r : List UInt8} {n : Int} (h : dec l = some (n, r)) : enc n ++ r = l ∧ -9223372036854775808 ≤ n ∧ n ≤ 9223372036854775807 := by
  unfold dec at h
  simp only [Option.map_eq_some_iff, Prod.exists, Prod.mk.injEq] at h
  obtain ⟨v, r', h, rfl, rfl⟩ := h
  obtain ⟨u, hv, hu, _, hl⟩ := lebF_readF 9 0 0 l v r' rfl h
  have : v = u := by simpa using hv
  subst this
  refine ⟨?_, zag_bd (by omega)⟩
  unfold enc leb
  rw [zig_zag]; exact hl
theorem dec_len {l r : List UInt8} {n : Int} (h : dec l = some (n, r)) : r.length < l.length := by
  have h1 := (enc_dec h).1
  have h2 := enc_pos n
  rw [← h1]; simp; omega
/-- No number's bytes begin with another one's; cut off they are none's. -/
theorem enc_prefix {a b : Int} (ha1 : -9223372036854775808 ≤ a) (ha2 : a ≤ 9223372036854775807) (hb1 : -9223372036854775808 ≤ b) (hb2 : b ≤ 9223372036854775807) {r t : List UInt8} (h : enc a ++ r = enc b ++ t) : a = b := by
  have h1 := dec_enc ha1 ha2 r
  have h2 := dec_enc hb1 hb2 t
  rw [h, h2] at h1
  simp at h1
  exact h1.1.symm
theorem dec_none {a : Int} (ha1 : -9223372036854775808 ≤ a) (ha2 : a ≤ 9223372036854775807) (k : Nat) (hk : k < (enc a).length) : dec ((enc a).take k) = none := by
  cases h : dec ((enc a).take k) with
  | none => rfl
  | some p =>
    obtain ⟨n, r⟩ := p
    obtain ⟨h1, h2, h3⟩ := enc_dec h
    have h4 : enc n ++ (r ++ (enc a).drop k) = enc a ++ [] := by
      rw [← List.append_assoc, h1]; simp
    have h5 := enc_prefix h2 h3 ha1 ha2 h4
    subst h5
    have h6 := congrArg List.length h1
    simp at h6
    omega
end Go.Proofs.Yteknaeemjgpgbaa.NibPure
