/-
  The walks of the reference's Int, of Str and of TakeStr.
-/
import Derived.Test.YteknaeemjgpgbaaNibTakeRef
namespace Go.Proofs.Yteknaeemjgpgbaa
open Go.RowKit NibPure

set_option maxRecDepth 100000 in
set_option maxHeartbeats 400000 in
theorem refInt_any (n : Int) (w : World) (h1 : -9223372036854775808 ≤ n) (h2 : n ≤ 9223372036854775807) :
    Calls Try.prog 24 #[.int .i64 n] w fun e w' => e = .returned (.string (bs (enc n))) ∧ Below w.heap.size w w' := by
  have hzl := zig_lt h1 h2
  go_enter Try.func24, Try.ntmps24
  go_wp2_with (go_at_call 35; (with_reducible refine (refFold_any n _ h1 h2).mono ?_); rintro e w1 ⟨rfl, rfl⟩)
  obtain ⟨z, hze⟩ : ∃ z, z = zig n := ⟨_, rfl⟩
  have hL : Hid (lebF 9 z = enc n) := by rw [hze]; exact Lib.hid rfl
  rw [← hze] at hzl ⊢
  clear hze h1 h2
  go_loopw [3, 4] (fun u v wr => ∃ (k x : Nat) (l : List UInt8), u = .int .u64 x ∧ k ≤ 9 ∧ l.length + k = 9 ∧ x < 2 * 128 ^ k ∧ RowB w.heap.size wr v l ∧ Hid (l ++ lebF k x = enc n) ∧ Below w.heap.size w wr) (fun u _ _ => (intOf u).toNat)
  case atStart => exact ⟨9, z, [], rfl, by omega, rfl, by omega, RowB.empty _ _ (Nat.le_refl _), hL, bnew _ _⟩
  case round =>
    obtain ⟨k, x, l, rfl, hk, hlk, hx, hrow, hl, hb⟩ := hrel
    have hxl : x < 18446744073709551616 := by
      refine Nat.lt_of_lt_of_le hx ?_
      have : 128 ^ k ≤ 128 ^ 9 := Nat.pow_le_pow_right (by omega) hk
      omega
    have Hx := Lib.hid hx
    clear hx
    by_cases hlt : x < 128
    · go_wp2_with (at_builtin; refine append_byte rfl (.tmp 19) (.tmp 22) rfl w.heap.size wr _ l (UInt8.ofNat x) _ rfl rfl hrow (by simp; omega) (by omega) hb.size ?_; intro v2 w2 hrow2 hb2; have hcv := row_string hrow2)
      go_ret
      have h := hl.out
      rw [lebF_small hlt Hx.out] at h
      exact ⟨by rw [← h]; rfl, hb.trans hb2⟩
    · go_wp2_with (at_builtin; refine append_byte rfl (.tmp 10) (.tmp 15) rfl w.heap.size wr _ l (UInt8.ofNat (x % 128 + 128)) _ rfl rfl hrow (by simp; omega) (by omega) hb.size ?_; intro v2 w2 hrow2 hb2)
      go_roundw
      case rel =>
        obtain ⟨k, rfl⟩ : ∃ k', k = k' + 1 := by
          cases k with
          | zero => have := Hx.out; omega
          | succ k' => exact ⟨k', rfl⟩
        refine ⟨k, x / 128, l ++ [UInt8.ofNat (x % 128 + 128)], by go_num, by omega, by simp; omega, ?_, hrow2, ?_, hb.trans hb2⟩
        · have h := Hx.out
          rw [Nat.pow_succ] at h
          apply Nat.div_lt_of_lt_mul
          rw [Nat.mul_comm 128, Nat.mul_assoc]; exact h
        · have h := hl.out
          rw [lebF_big hlt] at h
          refine Lib.hid ?_
          rw [List.append_assoc]; exact h
      case measure => simp [intOf]; omega

/-- A text with its length ahead. -/
def encS (l : List UInt8) : List UInt8 := enc l.length ++ l
theorem str_add {P : Program} (n : Int) (s : ByteArray) (h : s.size ≤ 4611686018427387904) (w : World) : (Op.stringOp .add (bs (enc n)) s).run P w = .ok (.string (bs (enc n ++ s.data.toList))) w := by
  rw [run_string_add_sum w _ _ (by rw [bs_size]; have := enc_len n; omega), ← bs_append, bs_self]
set_option maxHeartbeats 400000 in
theorem nibStr_any (s : ByteArray) (w : World) (hs : s.size ≤ 4611686018427387904) :
    Calls Try.prog 34 #[.string s] w fun e w' => e = .returned (.string (bs (encS s.data.toList))) ∧ Below w.heap.size w w' := by
  have hadd := fun w => str_add (P := Try.prog) s.size s hs w
  go_enter Try.func34, Try.ntmps34
  go_wp2_with (go_at_call 22; (with_reducible refine (nibInt_any _ _ (by omega) (by omega)).mono ?_); rintro e w1 ⟨rfl, hb⟩)
  go_ret
  exact ⟨by unfold encS; simp, hb⟩
set_option maxHeartbeats 400000 in
theorem refStr_any (s : ByteArray) (w : World) (hs : s.size ≤ 4611686018427387904) :
    Calls Try.prog 36 #[.string s] w fun e w' => e = .returned (.string (bs (encS s.data.toList))) ∧ Below w.heap.size w w' := by
  have hadd := fun w => str_add (P := Try.prog) s.size s hs w
  go_enter Try.func36, Try.ntmps36
  go_wp2_with (go_at_call 24; (with_reducible refine (refInt_any _ _ (by omega) (by omega)).mono ?_); rintro e w1 ⟨rfl, hb⟩)
  go_ret
  exact ⟨by unfold encS; simp, hb⟩

/-- The text that bytes begin with, of at most so many bytes, and what stands behind it. -/
def decS (most : Int) (l : List UInt8) : Option (List UInt8 × List UInt8) :=
  match dec l with
  | some (n, r) => if 0 ≤ n ∧ n ≤ most ∧ n ≤ r.length then some (r.take n.toNat, r.drop n.toNat) else none
  | none => none
def takeStrRes : Option (List UInt8 × List UInt8) → Value
  | some (t, r) => .tuple #[.string (bs t), .string (bs r), .bool true]
  | none => .tuple #[.string (bs []), .string (bs []), .bool false]
theorem bs_cut (r : List UInt8) (n : Int) (n' : Nat) (hn : n = n') : (bs r).extract 0 n' = bs (r.take n.toNat) := by
  subst hn
  apply ByteArray.ext
  apply Array.ext'
  simp [bs, ByteArray.data_extract]
theorem bs_rest (r : List UInt8) (n : Int) (n' : Nat) (hn : n = n') : (bs r).extract n' (bs r).size = bs (r.drop n.toNat) := by
  subst hn
  rw [bs_drop]; rfl
theorem size_bs (l : List UInt8) : (bs l).size = l.length := bs_size l

theorem ret_takeStr {a b : ByteArray} {x r : List UInt8} (h1 : a = bs x) (h2 : b = bs r) : Ending.returned (.tuple #[.string a, .string b, .bool true]) = .returned (takeStrRes (some (x, r))) := by rw [h1, h2]; rfl
set_option maxRecDepth 100000 in
set_option maxHeartbeats 800000 in
theorem takeStr_any (s : ByteArray) (most : Int) (w : World) (hs : s.size ≤ 9223372036854775807) :
    Calls Try.prog 38 #[.string s, .int .i64 most] w fun e w' => e = .returned (takeStrRes (decS most s.data.toList)) ∧ ∃ n, w' = w.drewN n := by
  obtain ⟨R, hR⟩ : ∃ R, R = decS most s.data.toList := ⟨_, rfl⟩
  rw [← hR]
  cases hd : dec s.data.toList with
  | none =>
    have hfin : R = none := by rw [hR]; unfold decS; rw [hd]
    subst hfin
    have hc : Calls Try.prog 37 #[.string s] w fun e w' => e = .returned (.tuple #[.int .i64 0, .string (bs []), .bool false]) ∧ ∃ n, w' = w.drewN n := by
      have := takeInt_any s w hs
      rwa [hd] at this
    clear hd hR
    go_enter Try.func38, Try.ntmps38
    go_wp2_with fail
    refine hc.mono ?_
    rintro e w1 ⟨rfl, n, rfl⟩
    go_wp2
    go_ret3
    exact ⟨rfl, n, rfl⟩
  | some p =>
    obtain ⟨n, r⟩ := p
    have hc : Calls Try.prog 37 #[.string s] w fun e w' => e = .returned (.tuple #[.int .i64 n, .string (bs r), .bool true]) ∧ ∃ n, w' = w.drewN n := by
      have := takeInt_any s w hs
      rwa [hd] at this
    have hlen : (bs r).size ≤ 9223372036854775807 := by rw [bs_size]; have := dec_len hd; simp at this; omega
    have hnb := (enc_dec hd).2
    have hsz := bs_size r
    have hsz' : (bs r).size = r.length := hsz
    by_cases hn0 : n < 0
    · have hfin : R = none := by rw [hR]; unfold decS; rw [hd]; exact if_neg (by omega)
      subst hfin
      clear hd hR hsz hsz'
      go_enter Try.func38, Try.ntmps38
      go_wp2_with fail
      refine hc.mono ?_
      rintro e w1 ⟨rfl, m, rfl⟩
      go_wp2
      all_goals go_ret3
      all_goals exact ⟨rfl, m, rfl⟩
    · have hn1 : 0 ≤ n := by omega
      by_cases hmx : n ≤ most ∧ n ≤ (bs r).size
      · obtain ⟨hmx1, hmx2⟩ := hmx
        have hfin : R = some (r.take n.toNat, r.drop n.toNat) := by rw [hR]; unfold decS; rw [hd]; exact if_pos (by omega)
        subst hfin
        have e1 := bs_cut r n n.toNat (by omega)
        have e2 := bs_rest r n n.toNat (by omega)
        have E1 := Lib.hid e1
        have E2 := Lib.hid e2
        obtain ⟨b, hbe⟩ : ∃ b, b = bs r := ⟨_, rfl⟩
        rw [← hbe] at hc hmx2 E1 E2 hlen
        clear hd hR hsz hsz' e1 e2 hbe
        go_enter Try.func38, Try.ntmps38
        go_wp2_with fail
        refine hc.mono ?_
        rintro e w1 ⟨rfl, m, rfl⟩
        go_wp2
        all_goals
          go_quiet (fail)
          go_wp2
          go_ret3
          exact ⟨ret_takeStr E1.out E2.out, m + nq, by rw [World.drewN_drewN]⟩
      · have hfin : R = none := by rw [hR]; unfold decS; rw [hd]; exact if_neg (by omega)
        subst hfin
        by_cases hx : most < n
        all_goals
          clear hd hR hsz hsz'
          go_enter Try.func38, Try.ntmps38
          go_wp2_with fail
          refine hc.mono ?_
          rintro e w1 ⟨rfl, m, rfl⟩
          go_wp2
          all_goals first | (go_ret3; exact ⟨rfl, m, rfl⟩) | (exfalso; omega)

set_option maxRecDepth 100000 in
set_option maxHeartbeats 800000 in
theorem refTakeStr_any (s : ByteArray) (most : Int) (w : World) (hs : s.size ≤ 9223372036854775807) :
    Calls Try.prog 39 #[.string s, .int .i64 most] w fun e w' => e = .returned (takeStrRes (decS most s.data.toList)) ∧ ∃ n, w' = w.drewN n := by
  obtain ⟨R, hR⟩ : ∃ R, R = decS most s.data.toList := ⟨_, rfl⟩
  rw [← hR]
  cases hd : dec s.data.toList with
  | none =>
    have hfin : R = none := by rw [hR]; unfold decS; rw [hd]
    subst hfin
    have hc : Calls Try.prog 32 #[.string s] w fun e w' => e = .returned (.tuple #[.int .i64 0, .string (bs []), .bool false]) ∧ ∃ n, w' = w.drewN n := by
      have := refTakeInt_any s w hs
      rwa [hd] at this
    clear hd hR
    go_enter Try.func39, Try.ntmps39
    go_wp2_with fail
    refine hc.mono ?_
    rintro e w1 ⟨rfl, n, rfl⟩
    go_wp2
    go_ret3
    exact ⟨rfl, n, rfl⟩
  | some p =>
    obtain ⟨n, r⟩ := p
    have hc : Calls Try.prog 32 #[.string s] w fun e w' => e = .returned (.tuple #[.int .i64 n, .string (bs r), .bool true]) ∧ ∃ n, w' = w.drewN n := by
      have := refTakeInt_any s w hs
      rwa [hd] at this
    have hlen : (bs r).size ≤ 9223372036854775807 := by rw [bs_size]; have := dec_len hd; simp at this; omega
    have hnb := (enc_dec hd).2
    have hsz := bs_size r
    have hsz' : (bs r).size = r.length := hsz
    by_cases hn0 : n < 0
    · have hfin : R = none := by rw [hR]; unfold decS; rw [hd]; exact if_neg (by omega)
      subst hfin
      clear hd hR hsz hsz'
      go_enter Try.func39, Try.ntmps39
      go_wp2_with fail
      refine hc.mono ?_
      rintro e w1 ⟨rfl, m, rfl⟩
      go_wp2
      all_goals go_ret3
      all_goals exact ⟨rfl, m, rfl⟩
    · have hn1 : 0 ≤ n := by omega
      by_cases hmx : n ≤ most ∧ n ≤ (bs r).size
      · obtain ⟨hmx1, hmx2⟩ := hmx
        have hfin : R = some (r.take n.toNat, r.drop n.toNat) := by rw [hR]; unfold decS; rw [hd]; exact if_pos (by omega)
        subst hfin
        have e1 := bs_cut r n n.toNat (by omega)
        have e2 := bs_rest r n n.toNat (by omega)
        have E1 := Lib.hid e1
        have E2 := Lib.hid e2
        obtain ⟨b, hbe⟩ : ∃ b, b = bs r := ⟨_, rfl⟩
        rw [← hbe] at hc hmx2 E1 E2 hlen
        clear hd hR hsz hsz' e1 e2 hbe
        go_enter Try.func39, Try.ntmps39
        go_wp2_with fail
        refine hc.mono ?_
        rintro e w1 ⟨rfl, m, rfl⟩
        go_wp2
        all_goals
          go_quiet (fail)
          go_wp2
          go_ret3
          exact ⟨ret_takeStr E1.out E2.out, m + nq, by rw [World.drewN_drewN]⟩
      · have hfin : R = none := by rw [hR]; unfold decS; rw [hd]; exact if_neg (by omega)
        subst hfin
        by_cases hx : most < n
        all_goals
          clear hd hR hsz hsz'
          go_enter Try.func39, Try.ntmps39
          go_wp2_with fail
          refine hc.mono ?_
          rintro e w1 ⟨rfl, m, rfl⟩
          go_wp2
          all_goals first | (go_ret3; exact ⟨rfl, m, rfl⟩) | (exfalso; omega)
end Go.Proofs.Yteknaeemjgpgbaa
