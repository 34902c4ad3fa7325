/-
  The walks of the statements of layer 1, third part, and the plain laws on how many bytes a number has.
-/
import Derived.Test.YtnanojpbfcgloaaNibLaws2
namespace Go.Proofs.Ytnanojpbfcgloaa
open Go.RowKit NibPure

/-- How often a number is halved till nothing is left. -/
def halves : Nat → Nat → Nat
  | 0, _ => 0
  | f + 1, h => if h = 0 then 0 else halves f (h / 2) + 1
theorem lebF_len_eq : ∀ (k u : Nat), u < 2 * 128 ^ k → ∀ f, u < 2 ^ f → (lebF k u).length = max 1 ((halves f u + 6) / 7)
  | 0, u, hu, f, hf => by
    have : u = 0 ∨ u = 1 := by have : u < 2 := by simpa using hu
                               omega
    rcases this with rfl | rfl
    · cases f <;> simp [lebF, halves]
    · cases f with
      | zero => simp at hf
      | succ f => cases f <;> simp [lebF, halves]
  | k + 1, u, hu, f, hf => by
    have hk : u / 128 < 2 * 128 ^ k := by
      rw [Nat.pow_succ] at hu
      apply Nat.div_lt_of_lt_mul
      rw [Nat.mul_comm 128, Nat.mul_assoc]; exact hu
    unfold lebF
    by_cases h : u < 128
    · rw [if_pos h]
      have small : ∀ m f v, v < 2 ^ m → halves f v ≤ m := by
        intro m
        induction m with
        | zero => intro f v hv; have : v = 0 := by simpa using hv
                  subst this; cases f <;> simp [halves]
        | succ m ih =>
          intro f v hv
          cases f with
          | zero => simp [halves]
          | succ f =>
            unfold halves
            split
            · omega
            · have := ih f (v / 2) (by rw [Nat.pow_succ] at hv; omega)
              omega
      have := small 7 f u (by omega)
      simp only [List.length_cons, List.length_nil]
      omega
    · rw [if_neg h]
      have step : ∀ f, u < 2 ^ f → ∃ g, u / 128 < 2 ^ g ∧ halves f u = halves g (u / 128) + 7 := by
        intro f hf
        have hbig : 7 < f := by
          rcases Nat.lt_or_ge 7 f with h' | h'
          · exact h'
          · have : 2 ^ f ≤ 2 ^ 7 := Nat.pow_le_pow_right (by omega) h'
            omega
        obtain ⟨g, rfl⟩ : ∃ g, f = g + 7 := ⟨f - 7, by omega⟩
        refine ⟨g, ?_, ?_⟩
        · have : 2 ^ (g + 7) = 2 ^ g * 128 := by rw [Nat.pow_add]
          rw [this] at hf
          exact Nat.div_lt_of_lt_mul (by rw [Nat.mul_comm]; exact hf)
        · simp only [halves]
          rw [if_neg (by omega), if_neg (by omega), if_neg (by omega), if_neg (by omega), if_neg (by omega), if_neg (by omega), if_neg (by omega)]
          simp only [Nat.div_div_eq_div_mul, Nat.reduceMul]
      obtain ⟨g, hg, he⟩ := step f hf
      have ih := lebF_len_eq k (u / 128) hk g hg
      simp only [List.length_cons]
      rw [ih, he]
      have h1 : 1 ≤ halves g (u / 128) := by
        cases g with
        | zero => simp at hg; omega
        | succ g => unfold halves; rw [if_neg (by omega)]; omega
      omega
theorem enc_len_eq {n : Int} (h1 : -9223372036854775808 ≤ n) (h2 : n ≤ 9223372036854775807) : (enc n).length = max 1 ((halves 64 (zig n) + 6) / 7) := by
  have h := zig_lt h1 h2
  exact lebF_len_eq 9 (zig n) (by omega) 64 (by omega)
/-- The number that is halved. -/
def high (n : Int) : Nat := if n < 0 then (-(n + 1)).toNat else n.toNat
theorem zig_high (n : Int) : zig n / 2 = high n := by unfold zig high; split <;> omega
theorem zig_zero {n : Int} (h : zig n = 0) : high n = 0 := by have := zig_high n; omega
theorem enc_len_high {n : Int} (h1 : -9223372036854775808 ≤ n) (h2 : n ≤ 9223372036854775807) : (enc n).length = max 1 ((halves 63 (high n) + 1 + 6) / 7) := by
  rw [enc_len_eq h1 h2, ← zig_high]
  by_cases hz : zig n = 0
  · rw [hz]; decide
  · rw [show halves 64 (zig n) = halves 63 (zig n / 2) + 1 by rw [halves, if_neg hz]]
theorem halves_zero (f : Nat) : halves f 0 = 0 := by cases f <;> simp [halves]
theorem halves_mono : ∀ f a b, a ≤ b → halves f a ≤ halves f b
  | 0, _, _, _ => by simp [halves]
  | f + 1, a, b, h => by
    unfold halves
    have := halves_mono f (a / 2) (b / 2) (by omega)
    split <;> split <;> omega
theorem high_bd {n : Int} (h1 : -9223372036854775808 ≤ n) (h2 : n ≤ 9223372036854775807) : high n ≤ 9223372036854775807 := by unfold high; split <;> omega

set_option maxRecDepth 100000 in
set_option maxHeartbeats 800000 in
theorem NibShort_walk (n : Int) (wn : (Lit.int .i64 n).wf = true) (w : World) :
    Calls Try.prog 12 #[.int .i64 n] w fun e w' => e = .returned (.bool true) ∧ Below w.heap.size w w' := by
  have hb := wf_bd wn
  have hE := Lib.hid (enc_len_high hb.1 hb.2)
  have hH := high_bd hb.1 hb.2
  have hz : (bs (enc n)).size = (enc n).length := bs_size _
  have hEl := enc_len n
  by_cases hneg : n < 0
  all_goals
    have hhi : (if n < 0 then -(n + 1) else n) = (high n : Int) := by unfold high; split <;> omega
    first | rw [if_pos hneg] at hhi | rw [if_neg hneg] at hhi
    have Hhi := Lib.hid hhi
    clear hhi
    go_enter Try.func12, Try.ntmps12
    go_wp2_with fail
    refine (nibAwake_any _).mono ?_
    rintro e w0 ⟨rfl, b0⟩
    go_wp2_with fail
    (with_reducible refine (nibInt_any n _ hb.1 hb.2).mono ?_)
    rintro e w1 ⟨rfl, b1⟩
    go_wp2
    go_loop [4, 5] (fun h b => ∃ (k x : Nat), k ≤ 63 ∧ x ≤ 9223372036854775807 ∧ Hid (x < 2 ^ (63 - k)) ∧ h = .int .i64 x ∧ b = .int .i64 k ∧ Hid (halves (63 - k) x + k = halves 63 (high n))) (fun h _ => (intOf h).toNat)
    case atStart => exact ⟨0, high n, by omega, hH, Lib.hid (by omega), congrArg (Value.int .i64) Hhi.out, rfl, Lib.hid rfl⟩
    case round =>
      obtain ⟨k, x, hk, hx, Hx, rfl, rfl, Hh⟩ := hrel
      by_cases hpos : 0 < x
      · have hk63 : k < 63 := by
          rcases Nat.lt_or_ge k 63 with h | h
          · exact h
          · have := Hx.out; rw [show 63 - k = 0 by omega] at this; omega
        go_wp2
        go_round
        case rel =>
          refine ⟨k + 1, x / 2, by omega, by omega, Lib.hid ?_, by go_num, by go_num, Lib.hid ?_⟩
          · have h := Hx.out
            rw [show 63 - k = (63 - (k + 1)) + 1 by omega, Nat.pow_succ] at h
            omega
          · have h := Hh.out
            rw [show 63 - k = (63 - (k + 1)) + 1 by omega, halves, if_neg (by omega)] at h
            omega
        case measure => simp [intOf]; omega
      · have hfin : (enc n).length = max 1 ((k + 1 + 6) / 7) := by
          have h := Hh.out
          rw [show x = 0 by omega, halves_zero] at h
          rw [hE.out, ← h]; simp
        have Hfin := Lib.hid hfin
        clear hfin
        go_wp2
        all_goals
          have hf := Hfin.out
          first
          | (exfalso; omega)
          | (go_ret; exact ⟨rfl, bup b0 b1⟩)
          | (go_ret; exact ⟨ret_true' (by simp; omega), bup b0 b1⟩)

theorem high_le {a b : Int} (h : (0 ≤ a ∧ 0 ≤ b ∧ a ≤ b) ∨ (a < 0 ∧ b < 0 ∧ b ≤ a)) : high a ≤ high b := by
  unfold high
  rcases h with ⟨h1, h2, h3⟩ | ⟨h1, h2, h3⟩
  · rw [if_neg (by omega), if_neg (by omega)]; omega
  · rw [if_pos h1, if_pos h2]; omega
theorem enc_mono {a b : Int} (ha1 : -9223372036854775808 ≤ a) (ha2 : a ≤ 9223372036854775807) (hb1 : -9223372036854775808 ≤ b) (hb2 : b ≤ 9223372036854775807) (h : high a ≤ high b) : (enc a).length ≤ (enc b).length := by
  rw [enc_len_high ha1 ha2, enc_len_high hb1 hb2]
  have := halves_mono 63 _ _ h
  omega
set_option maxRecDepth 100000 in
set_option maxHeartbeats 1600000 in
theorem NibGrows_walk (a : Int) (wa : (Lit.int .i64 a).wf = true) (b : Int) (wb : (Lit.int .i64 b).wf = true) (w : World) :
    Calls Try.prog 14 #[.int .i64 a, .int .i64 b] w fun e w' => e = .returned (.bool true) ∧ Below w.heap.size w w' := by
  have ha := wf_bd wa
  have hb := wf_bd wb
  have hza : (bs (enc a)).size = (enc a).length := bs_size _
  have hzb : (bs (enc b)).size = (enc b).length := bs_size _
  by_cases heq : a = b
  · subst heq
    by_cases hna : a < 0
    all_goals
      have hnn : ((decide (a < 0)) != (decide (a < 0))) = false := by simp
      have hne : (a != a) = false := by simp
      go_enter Try.func14, Try.ntmps14
      go_wp2_with (first | (go_at_call 18; (with_reducible refine (nibAwake_any _).mono ?_); rintro e w0 ⟨rfl, b0⟩) | (go_at_call 19; (with_reducible refine (nibInt_any a _ ha.1 ha.2).mono ?_); rintro e w1 ⟨rfl, b1⟩))
      all_goals first
        | (exfalso; omega)
        | (go_ret; exact ⟨ret_true' (by simp), bup (by assumption) (bup (by assumption) (by assumption))⟩)
        | (go_ret; exact ⟨ret_true' (by simp), by assumption⟩)
  · have hneq : (a != b) = true := by simpa using heq
    by_cases hna : a < 0 <;> by_cases hnb : b < 0 <;> by_cases hlt : a < b
    all_goals first | (exfalso; omega) | skip
    all_goals
      go_enter Try.func14, Try.ntmps14
      go_wp2_with (first | (go_at_call 18; (with_reducible refine (nibAwake_any _).mono ?_); rintro e w0 ⟨rfl, b0⟩) | (go_at_call 19; (with_reducible refine (nibInt_any a _ ha.1 ha.2).mono ?_); rintro e w1 ⟨rfl, b1⟩) | (go_at_call 19; (with_reducible refine (nibInt_any b _ hb.1 hb.2).mono ?_); rintro e w2 ⟨rfl, b2⟩))
      all_goals first
        | (exfalso; simp at *; omega)
        | (go_ret; exact ⟨ret_true' rfl, by assumption⟩)
        | (go_ret; exact ⟨ret_true' (by rw [decide_eq_true_iff]; exact enc_mono ha.1 ha.2 hb.1 hb.2 (high_le (by omega))), bup (by assumption) (bup (by assumption) (by assumption))⟩)
        | (go_ret; exact ⟨ret_true' (by rw [decide_eq_true_iff]; exact enc_mono hb.1 hb.2 ha.1 ha.2 (high_le (by omega))), bup (by assumption) (bup (by assumption) (by assumption))⟩)
end Go.Proofs.Ytnanojpbfcgloaa
