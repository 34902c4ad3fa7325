/-
  What the calls of layer 1 give, in the forms that other layers use.
-/
import Derived.Test.YteknaeemjgpgbaaNibRest
namespace Go.Proofs.Yteknaeemjgpgbaa
open Go.RowKit NibPure

theorem below_draws {w w' : World} (h : ∃ n, w' = w.drewN n) : Below w.heap.size w w' := by
  obtain ⟨n, rfl⟩ := h
  exact ⟨rfl, rfl, rfl, Nat.le_refl _, fun _ _ => rfl⟩
theorem bs_toList (l : List UInt8) : (bs l).toList = l := by rw [ByteArray.toList_eq]; rfl
theorem takeInt_lit {s b : ByteArray} {n : Int} {r : List UInt8} (hd : dec s.data.toList = some (n, r)) (hb : b = bs r) (w : World) (hs : s.size ≤ 9223372036854775807) :
    Calls Try.prog 37 #[.string s] w fun e w' => e = .returned (.tuple #[.int .i64 n, .string b, .bool true]) ∧ Below w.heap.size w w' :=
  (takeInt_any s w hs).mono fun e w' ⟨h1, h2⟩ => ⟨by rw [h1, hd, hb]; rfl, below_draws h2⟩
theorem takeInt_not {s b : ByteArray} (hd : dec s.data.toList = none) (hb : b = bs []) (w : World) (hs : s.size ≤ 9223372036854775807) :
    Calls Try.prog 37 #[.string s] w fun e w' => e = .returned (.tuple #[.int .i64 0, .string b, .bool false]) ∧ Below w.heap.size w w' :=
  (takeInt_any s w hs).mono fun e w' ⟨h1, h2⟩ => ⟨by rw [h1, hd, hb]; rfl, below_draws h2⟩
theorem takeStr_lit {s b c : ByteArray} {most : Int} {t r : List UInt8} (hd : decS most s.data.toList = some (t, r)) (hb : b = bs t) (hc : c = bs r) (w : World) (hs : s.size ≤ 9223372036854775807) :
    Calls Try.prog 38 #[.string s, .int .i64 most] w fun e w' => e = .returned (.tuple #[.string b, .string c, .bool true]) ∧ Below w.heap.size w w' :=
  (takeStr_any s most w hs).mono fun e w' ⟨h1, h2⟩ => ⟨by rw [h1, hd, hb, hc]; rfl, below_draws h2⟩
theorem takeStr_not {s b c : ByteArray} {most : Int} (hd : decS most s.data.toList = none) (hb : b = bs []) (hc : c = bs []) (w : World) (hs : s.size ≤ 9223372036854775807) :
    Calls Try.prog 38 #[.string s, .int .i64 most] w fun e w' => e = .returned (.tuple #[.string b, .string c, .bool false]) ∧ Below w.heap.size w w' :=
  (takeStr_any s most w hs).mono fun e w' ⟨h1, h2⟩ => ⟨by rw [h1, hd, hb, hc]; rfl, below_draws h2⟩
theorem int_lit {n : Int} {b : ByteArray} (hb : b = bs (enc n)) (h1 : -9223372036854775808 ≤ n) (h2 : n ≤ 9223372036854775807) (w : World) :
    Calls Try.prog 22 #[.int .i64 n] w fun e w' => e = .returned (.string b) ∧ Below w.heap.size w w' := by
  rw [hb]; exact nibInt_any n w h1 h2
theorem str_lit {s b : ByteArray} (hb : b = bs (encS s.data.toList)) (hs : s.size ≤ 4611686018427387904) (w : World) :
    Calls Try.prog 34 #[.string s] w fun e w' => e = .returned (.string b) ∧ Below w.heap.size w w' := by
  rw [hb]; exact nibStr_any s w hs
theorem bs_lit {l l' : List UInt8} {b : ByteArray} (hb : b = bs l) (h : l = l') : b = bs l' := h ▸ hb

theorem ret_true' {b : Bool} (h : b = true) : Ending.returned (.bool b) = .returned (.bool true) := by rw [h]
theorem wf_bd {n : Int} (h : (Lit.int .i64 n).wf = true) : -9223372036854775808 ≤ n ∧ n ≤ 9223372036854775807 := by
  simp [Lit.wf, IntKind.min, IntKind.max, IntKind.bits, IntKind.signed] at h
  omega

theorem takeRes_form (R : Option (Int × List UInt8)) : ∃ a b c, takeRes R = .tuple #[.int .i64 a, .string b, .bool c] := by
  cases R with
  | none => exact ⟨_, _, _, rfl⟩
  | some p => exact ⟨p.1, _, _, rfl⟩
theorem takeStrRes_form (R : Option (List UInt8 × List UInt8)) : ∃ a b c, takeStrRes R = .tuple #[.string a, .string b, .bool c] := by
  cases R with
  | none => exact ⟨_, _, _, rfl⟩
  | some p => exact ⟨_, _, _, rfl⟩
end Go.Proofs.Yteknaeemjgpgbaa
