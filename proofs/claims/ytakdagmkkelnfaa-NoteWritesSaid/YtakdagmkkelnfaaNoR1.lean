/-
  The reference's small functions: one.
-/
import Derived.Test.YtakdagmkkelnfaaNoC
namespace Go.Proofs.Ytakdagmkkelnfaa
open Go.RowKit Go.Sort NibPure SumPure
set_option linter.unusedVariables false
set_option linter.unusedSimpArgs false
set_option maxRecDepth 100000 in
theorem rone_any (b : Bool) (w : World) :
    Calls Try.prog 39 #[.bool b] w fun e w' => e = .returned (.string (bs (enc (b2i b)))) ∧ Below w.heap.size w w' := by
  have C1 := Lib.hid (fun w => refInt_any 1 w (by omega) (by omega))
  have C0 := Lib.hid (fun w => refInt_any 0 w (by omega) (by omega))
  cases b with
  | true =>
    go_enter Try.func39, Try.ntmps39
    go_wp2_with fail
    refine (C1.out _).mono ?_
    rintro e w1 ⟨rfl, b1⟩
    go_wp2_with fail
    go_ret
    exact ⟨rfl, b1⟩
  | false =>
    go_enter Try.func39, Try.ntmps39
    go_wp2_with fail
    refine (C0.out _).mono ?_
    rintro e w1 ⟨rfl, b1⟩
    go_wp2_with fail
    go_ret
    exact ⟨rfl, b1⟩
set_option maxRecDepth 100000 in
set_option maxHeartbeats 4000000 in
theorem rin_any (s : ByteArray) (c : UInt8) (w : World) (hs : s.size ≤ 9223372036854775807) :
    Calls Try.prog 38 #[.string s, .int .u8 (c.toNat : Int)] w fun e w' => e = .returned (.bool (s.data.toList.any (fun x => x.toNat == c.toNat))) ∧ Below w.heap.size w w' := by
  have hl : s.data.toList.length = s.size := Array.length_toList
  obtain ⟨R, hR⟩ : ∃ R, s.data.toList.any (fun x => x.toNat == c.toNat) = R := ⟨_, rfl⟩
  rw [hR]
  have HR := Lib.hid hR
  clear hR
  go_enter Try.func38, Try.ntmps38
  go_wp2_with fail
  go_loopw [5] (fun i wr => ∃ k : Nat, k ≤ s.size ∧ i = .int .i64 k ∧ Hid ((s.data.toList.take k).any (fun x => x.toNat == c.toNat) = false) ∧ w = wr) (fun i _ => s.size - (intOf i).toNat)
  case atStart => exact ⟨0, by omega, rfl, Lib.hid rfl, rfl⟩
  case round =>
    obtain ⟨k, hk, rfl, Hn, rfl⟩ := hrel
    by_cases hlt : k < s.size
    · have hx : s.data.toList[k]? = some s[k] := by rw [List.getElem?_eq_getElem (by omega)]; rfl
      by_cases hq : s[k].toNat = c.toNat
      · obtain rfl : R = true := by rw [← HR.out]; exact List.any_eq_true.2 ⟨s[k], List.mem_of_getElem? hx, by simp [hq]⟩
        have hq2 : (s[k].toNat : Int) = (c.toNat : Int) := by omega
        clear hx
        go_wp2_with fail
        go_ret
        exact ⟨rfl, Below.refl _ _⟩
      · have HX : Hid ((s.data.toList.take (k + 1)).any (fun x => x.toNat == c.toNat) = false) := Lib.hid (lany_take_snoc hx Hn.out (by simp [hq]))
        have hq2 : ¬ (s[k].toNat : Int) = (c.toNat : Int) := by omega
        clear hx
        go_wp2_with fail
        go_roundw
        case rel => exact ⟨k + 1, by omega, by go_num, HX, by first | trivial | rfl⟩
        case measure => simp [intOf]; omega
    · have hkn : s.data.toList.take k = s.data.toList := List.take_of_length_le (by omega)
      rw [hkn] at Hn
      obtain rfl : R = false := by rw [← HR.out, Hn.out]
      clear hkn
      go_wp2_with fail
      go_ret
      exact ⟨rfl, Below.refl _ _⟩
end Go.Proofs.Ytakdagmkkelnfaa
