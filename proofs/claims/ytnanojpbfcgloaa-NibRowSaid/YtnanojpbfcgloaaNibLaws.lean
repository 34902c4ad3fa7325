/-
  The walks of the statements of layer 1, first part.
-/
import Derived.Test.YtnanojpbfcgloaaNibRest
namespace Go.Proofs.Ytnanojpbfcgloaa
open Go.RowKit NibPure

theorem below_draws {w w' : World} (h : ∃ n, w' = w.drewN n) : Below w.heap.size w w' := by
  obtain ⟨n, rfl⟩ := h
  exact ⟨rfl, rfl, rfl, Nat.le_refl _, fun _ _ => rfl⟩
theorem bs_toList (l : List UInt8) : (bs l).toList = l := by rw [ByteArray.toList_eq]; rfl
theorem takeInt_lit {s b : ByteArray} {n : Int} {r : List UInt8} (hd : dec s.data.toList = some (n, r)) (hb : b = bs r) (w : World) (hs : s.size ≤ 9223372036854775807) :
    Calls Try.prog 23 #[.string s] w fun e w' => e = .returned (.tuple #[.int .i64 n, .string b, .bool true]) ∧ Below w.heap.size w w' :=
  (takeInt_any s w hs).mono fun e w' ⟨h1, h2⟩ => ⟨by rw [h1, hd, hb]; rfl, below_draws h2⟩
theorem takeInt_not {s b : ByteArray} (hd : dec s.data.toList = none) (hb : b = bs []) (w : World) (hs : s.size ≤ 9223372036854775807) :
    Calls Try.prog 23 #[.string s] w fun e w' => e = .returned (.tuple #[.int .i64 0, .string b, .bool false]) ∧ Below w.heap.size w w' :=
  (takeInt_any s w hs).mono fun e w' ⟨h1, h2⟩ => ⟨by rw [h1, hd, hb]; rfl, below_draws h2⟩
theorem takeStr_lit {s b c : ByteArray} {most : Int} {t r : List UInt8} (hd : decS most s.data.toList = some (t, r)) (hb : b = bs t) (hc : c = bs r) (w : World) (hs : s.size ≤ 9223372036854775807) :
    Calls Try.prog 25 #[.string s, .int .i64 most] w fun e w' => e = .returned (.tuple #[.string b, .string c, .bool true]) ∧ Below w.heap.size w w' :=
  (takeStr_any s most w hs).mono fun e w' ⟨h1, h2⟩ => ⟨by rw [h1, hd, hb, hc]; rfl, below_draws h2⟩
theorem takeStr_not {s b c : ByteArray} {most : Int} (hd : decS most s.data.toList = none) (hb : b = bs []) (hc : c = bs []) (w : World) (hs : s.size ≤ 9223372036854775807) :
    Calls Try.prog 25 #[.string s, .int .i64 most] w fun e w' => e = .returned (.tuple #[.string b, .string c, .bool false]) ∧ Below w.heap.size w w' :=
  (takeStr_any s most w hs).mono fun e w' ⟨h1, h2⟩ => ⟨by rw [h1, hd, hb, hc]; rfl, below_draws h2⟩
theorem int_lit {n : Int} {b : ByteArray} (hb : b = bs (enc n)) (h1 : -9223372036854775808 ≤ n) (h2 : n ≤ 9223372036854775807) (w : World) :
    Calls Try.prog 19 #[.int .i64 n] w fun e w' => e = .returned (.string b) ∧ Below w.heap.size w w' := by
  rw [hb]; exact nibInt_any n w h1 h2
theorem str_lit {s b : ByteArray} (hb : b = bs (encS s.data.toList)) (hs : s.size ≤ 4611686018427387904) (w : World) :
    Calls Try.prog 21 #[.string s] w fun e w' => e = .returned (.string b) ∧ Below w.heap.size w w' := by
  rw [hb]; exact nibStr_any s w hs
theorem bs_lit {l l' : List UInt8} {b : ByteArray} (hb : b = bs l) (h : l = l') : b = bs l' := h ▸ hb

set_option maxRecDepth 100000 in
set_option maxHeartbeats 800000 in
theorem nibAwake_any (w : World) :
    Calls Try.prog 18 #[] w fun e w' => e = .returned (.bool true) ∧ Below w.heap.size w w' := by
  have c1 := takeInt_lit (s := { data := #[128, 1, 120] }) (b := { data := #[120] }) (n := 64) (r := [120]) (by decide +kernel) rfl
  have c2 := takeStr_lit (s := { data := #[4, 104, 105] }) (b := { data := #[104, 105] }) (c := { data := #[] }) (most := 2) (t := [104, 105]) (r := []) (by decide +kernel) rfl rfl
  have c3 := takeInt_not (s := { data := #[128, 0] }) (b := { data := #[] }) (by decide +kernel) rfl
  have c4 := int_lit (n := 0) (b := { data := #[0] }) (bs_lit (l := [0]) rfl (by decide +kernel)) (by omega) (by omega)
  have c5 := int_lit (n := -1) (b := { data := #[1] }) (bs_lit (l := [1]) rfl (by decide +kernel)) (by omega) (by omega)
  have c6 := int_lit (n := 64) (b := { data := #[128, 1] }) (bs_lit (l := [128, 1]) rfl (by decide +kernel)) (by omega) (by omega)
  have c7 := str_lit (s := { data := #[104, 105] }) (b := { data := #[4, 104, 105] }) (bs_lit (l := [4, 104, 105]) rfl (by decide +kernel)) (by decide +kernel)
  have C1 := Lib.hid c1; have C2 := Lib.hid c2; have C3 := Lib.hid c3; have C4 := Lib.hid c4; have C5 := Lib.hid c5; have C6 := Lib.hid c6; have C7 := Lib.hid c7
  clear c1 c2 c3 c4 c5 c6 c7
  go_enter Try.func18, Try.ntmps18
  go_wp2_with fail
  refine (C1.out _ (by decide +kernel)).mono ?_
  rintro e w1 ⟨rfl, b1⟩
  go_wp2_with fail
  refine (C2.out _ (by decide +kernel)).mono ?_
  rintro e w2 ⟨rfl, b2⟩
  go_wp2_with fail
  refine (C3.out _ (by decide +kernel)).mono ?_
  rintro e w3 ⟨rfl, b3⟩
  go_wp2_with fail
  refine (C4.out _).mono ?_
  rintro e w4 ⟨rfl, b4⟩
  go_wp2_with fail
  refine (C5.out _).mono ?_
  rintro e w5 ⟨rfl, b5⟩
  go_wp2_with fail
  refine (C6.out _).mono ?_
  rintro e w6 ⟨rfl, b6⟩
  go_wp2_with fail
  refine (C7.out _).mono ?_
  rintro e w7 ⟨rfl, b7⟩
  go_wp2
  go_ret
  exact ⟨rfl, bup b1 (bup b2 (bup b3 (bup b4 (bup b5 (bup b6 b7)))))⟩

theorem ret_true' {b : Bool} (h : b = true) : Ending.returned (.bool b) = .returned (.bool true) := by rw [h]
theorem wf_bd {n : Int} (h : (Lit.int .i64 n).wf = true) : -9223372036854775808 ≤ n ∧ n ≤ 9223372036854775807 := by
  simp [Lit.wf, IntKind.min, IntKind.max, IntKind.bits, IntKind.signed] at h
  omega

set_option maxRecDepth 100000 in
set_option maxHeartbeats 800000 in
theorem NibWrites_walk (n : Int) (wn : (Lit.int .i64 n).wf = true) (s : ByteArray) (hs : s.size ≤ 140737488351232) (w : World) :
    Calls Try.prog 7 #[.int .i64 n, .string s] w fun e w' => e = .returned (.bool true) ∧ Below w.heap.size w w' := by
  have hb := wf_bd wn
  go_enter Try.func7, Try.ntmps7
  go_wp2_with fail
  refine (nibAwake_any _).mono ?_
  rintro e w0 ⟨rfl, b0⟩
  go_wp2_with fail
  refine (nibInt_any n _ hb.1 hb.2).mono ?_
  rintro e w1 ⟨rfl, b1⟩
  go_wp2_with fail
  refine (refInt_any n _ hb.1 hb.2).mono ?_
  rintro e w2 ⟨rfl, b2⟩
  go_wp2_with fail
  refine (nibStr_any s _ (by omega)).mono ?_
  rintro e w3 ⟨rfl, b3⟩
  go_wp2_with fail
  refine (refStr_any s _ (by omega)).mono ?_
  rintro e w4 ⟨rfl, b4⟩
  go_wp2
  go_ret
  exact ⟨ret_true' (by simp), bup b0 (bup b1 (bup b2 (bup b3 b4)))⟩

theorem takeRes_form (R : Option (Int × List UInt8)) : ∃ a b c, takeRes R = .tuple #[.int .i64 a, .string b, .bool c] := by
  cases R with
  | none => exact ⟨_, _, _, rfl⟩
  | some p => exact ⟨p.1, _, _, rfl⟩
theorem takeStrRes_form (R : Option (List UInt8 × List UInt8)) : ∃ a b c, takeStrRes R = .tuple #[.string a, .string b, .bool c] := by
  cases R with
  | none => exact ⟨_, _, _, rfl⟩
  | some p => exact ⟨_, _, _, rfl⟩
set_option maxRecDepth 100000 in
set_option maxHeartbeats 800000 in
theorem NibReads_walk (s : ByteArray) (hs : s.size ≤ 140737488351232) (most : Int) (_ : (Lit.int .i64 most).wf = true) (w : World) :
    Calls Try.prog 8 #[.string s, .int .i64 most] w fun e w' => e = .returned (.bool true) ∧ Below w.heap.size w w' := by
  obtain ⟨a, b, c, h1⟩ := takeRes_form (dec s.data.toList)
  obtain ⟨x, y, z, h2⟩ := takeStrRes_form (decS most s.data.toList)
  have c1 := fun w => takeInt_any s w (by omega)
  have c2 := fun w => refTakeInt_any s w (by omega)
  have c3 := fun w => takeStr_any s most w (by omega)
  have c4 := fun w => refTakeStr_any s most w (by omega)
  rw [h1] at c1 c2
  rw [h2] at c3 c4
  have C1 := Lib.hid c1; have C2 := Lib.hid c2; have C3 := Lib.hid c3; have C4 := Lib.hid c4
  clear c1 c2 c3 c4 h1 h2
  go_enter Try.func8, Try.ntmps8
  go_wp2_with fail
  refine (nibAwake_any _).mono ?_
  rintro e w0 ⟨rfl, b0⟩
  go_wp2_with fail
  refine (C1.out _).mono ?_
  rintro e w1 ⟨rfl, b1⟩
  have b1 := below_draws b1
  go_wp2_with fail
  refine (C2.out _).mono ?_
  rintro e w2 ⟨rfl, b2⟩
  have b2 := below_draws b2
  go_wp2_with fail
  refine (C3.out _).mono ?_
  rintro e w3 ⟨rfl, b3⟩
  have b3 := below_draws b3
  go_wp2_with fail
  refine (C4.out _).mono ?_
  rintro e w4 ⟨rfl, b4⟩
  have b4 := below_draws b4
  go_wp2
  go_ret
  exact ⟨ret_true' (by simp), bup b0 (bup b1 (bup b2 (bup b3 b4)))⟩
end Go.Proofs.Ytnanojpbfcgloaa
