/-
  The walk of a statement of layer 4: an entry has one form.
-/
import Derived.Test.YteknaeemjgpgbaaEntAwake
namespace Go.Proofs.Yteknaeemjgpgbaa
open Go.RowKit Go.Sort NibPure
set_option linter.unusedVariables false
set_option linter.unusedSimpArgs false

theorem ent_cut (x : Int) (n : Nat) (h0 : 0 < n) (hn : n ≤ 100000) : ∃ a : Nat, a < n ∧ wrap64 ((IntKind.u64.wrap x).tmod (n : Int)) = a := by
  have h0' : 0 ≤ IntKind.u64.wrap x := by rw [IntKind.wrap_u64]; omega
  rw [Int.tmod_eq_emod_of_nonneg h0']
  have h1 := Int.emod_lt_of_pos (IntKind.u64.wrap x) (show (0 : Int) < n by omega)
  have h2 := Int.emod_nonneg (IntKind.u64.wrap x) (show (n : Int) ≠ 0 by omega)
  refine ⟨((IntKind.u64.wrap x) % n).toNat, by omega, ?_⟩
  rw [IntWalk.wrap64_in _ ⟨by omega, by omega⟩]
  omega
theorem ent_take (l : List UInt8) (k : Nat) : (bs l).extract 0 k = bs (l.take k) := by
  apply ByteArray.ext
  apply Array.ext'
  simp [bs, ByteArray.data_extract]
theorem awx_row : Ent.zero.row = #[.int .i64 0, .int .i64 0, .int .i64 0, .int .i64 0, .int .i64 0, .int .i64 0, .int .i64 0, .int .i64 0, .bool false, .string ⟨#[]⟩, .bool false, .string ⟨#[]⟩, .int .i64 0] := rfl
set_option maxRecDepth 100000 in
set_option maxHeartbeats 8000000 in
theorem EntryOne_walk (s : ByteArray) (hs : s.size ≤ 140737488351232) (cut : Int) (_ : (Lit.int .i64 cut).wf = true) (w : World) :
    Calls Try.prog 6 #[.string s, .int .i64 cut] w fun e w' => e = .returned (.bool true) ∧ Below w.heap.size w w' := by
  have CA := Lib.hid entAwake_any
  have C1 := fun w => decode_any s (by omega) w
  have CZ := fun w => entEqBin Ent.zero Ent.zero w
  rw [(eqB_iff Ent.zero Ent.zero).2 rfl] at CZ
  simp only [Ent.val, awx_row] at CZ
  cases hd : decE s.data.toList with
  | none =>
    rw [hd] at C1
    simp only [decERes, Ent.val, awx_row] at C1
    replace C1 := Lib.hid C1
    have hbt := bs_toList []
    clear hd
    go_enter Try.func6, Try.ntmps6
    go_wp2_with fail
    refine (CA.out _).mono ?_
    rintro e w0 ⟨rfl, b0⟩
    replace b0 := Lib.hid b0
    go_wp2_with fail
    refine (C1.out _).mono ?_
    rintro e w1 ⟨rfl, b1⟩
    have X1 := Lib.hid (Has.new w1 (.cells Ent.zero.row 27))
    have B1 := Lib.hid (bup (bup b0.out b1) (bnew w1 (.cells Ent.zero.row 27)))
    rw [awx_row] at X1 B1
    clear b1 b0
    go_upto_region 4 with (fail)
    generalize hw2 : World.alloc w1 _ = w2
    rw [hw2] at X1 B1
    clear hw2
    obtain ⟨x0, x1, x2, x3, x4, x5, x6, x7, x8, x9, x10, x11, x12⟩ := EntAt.of X1.out
    go_wp2_with fail
    go_ret
    refine ⟨?_, B1.out⟩
    first | rfl | exact congrArg (fun b => Ending.returned (.bool b)) (by simp)
  | some p =>
    obtain ⟨x, r⟩ := p
    obtain ⟨hg, hb⟩ := bytes_decE hd
    rw [hd] at C1
    have hlen := bytes_len x hg
    have hpos := bytes_pos x
    obtain ⟨k, hk, hke⟩ := ent_cut cut x.bytes.length (by omega) (by omega)
    have C2 := fun w => encode_any x (by have := (good_facts x hg).2.2.2.1; omega) (by have := (good_facts x hg).2.2.2.2; omega) w
    rw [show x.encRes = .tuple #[.string (bs x.bytes), .int .i64 0] by simp [Ent.encRes, hg]] at C2
    have C3 := fun w => decode_any (bs (x.bytes.take k)) (by rw [bs_size]; simp; omega) w
    rw [bs_data, decE_cut hg k hk] at C3
    have hS : bs (x.bytes ++ r) = s := by rw [hb]; rfl
    have hsl : (x.bytes ++ r).length ≤ 140737488351232 := by
      rw [hb]; have : s.data.toList.length = s.size := Array.length_toList; omega
    obtain ⟨X, hX⟩ : ∃ X, x.bytes = X := ⟨_, rfl⟩
    rw [hX] at C2 C3 hlen hpos hk hke hS hsl
    have hadd := fun w => add_lists' (P := Try.prog) X r (by rw [← List.length_append]; omega) w
    rw [hS] at hadd
    have hsz : (bs X).size = X.length := bs_size X
    have hcut := fun n => ent_take X n
    have hne : ((bs X).toList == []) = false := by
      rw [bs_toList]
      cases X with
      | nil => simp at hpos
      | cons a t => rfl
    have hemp : (⟨#[]⟩ : ByteArray).toList = [] := by decide +kernel
    have Hk := Lib.hid hk
    have hkl : k ≤ X.length := by omega
    clear hX hS hb hd hg hk
    obtain ⟨kk, c, e, n, l, p, pg, sl, wu, wd, iu, ix, nx⟩ := x
    simp only [decERes, Ent.val, Ent.row, awx_row] at C1 C2 C3
    replace C1 := Lib.hid C1
    replace C2 := Lib.hid C2
    replace C3 := Lib.hid C3
    clear CZ
    go_enter Try.func6, Try.ntmps6
    go_wp2_with fail
    refine (CA.out _).mono ?_
    rintro e w0 ⟨rfl, b0⟩
    replace b0 := Lib.hid b0
    go_wp2_with fail
    refine (C1.out _).mono ?_
    rintro e w1 ⟨rfl, b1⟩
    have X1 := Lib.hid (Has.new w1 (.cells #[.int .i64 kk, .int .i64 c, .int .i64 e, .int .i64 n, .int .i64 l, .int .i64 p, .int .i64 pg, .int .i64 sl, .bool wu, .string wd, .bool iu, .string ix, .int .i64 nx] 27))
    have B1 := Lib.hid (bup (bup b0.out b1) (bnew w1 (.cells #[.int .i64 kk, .int .i64 c, .int .i64 e, .int .i64 n, .int .i64 l, .int .i64 p, .int .i64 pg, .int .i64 sl, .bool wu, .string wd, .bool iu, .string ix, .int .i64 nx] 27)))
    clear b1 b0
    go_upto_region 4 with (fail)
    generalize hw2 : World.alloc w1 _ = w2
    rw [hw2] at X1 B1
    clear hw2
    obtain ⟨x0, x1, x2, x3, x4, x5, x6, x7, x8, x9, x10, x11, x12⟩ := EntAt.of X1.out
    go_wp2_with fail
    refine (C2.out _).mono ?_
    rintro e w3 ⟨rfl, b3⟩
    have B3 := Lib.hid (bup B1.out b3)
    clear b3 X1 B1 x0 x1 x2 x3 x4 x5 x6 x7 x8 x9 x10 x11 x12
    go_wp2_with fail
    refine (C3.out _).mono ?_
    rintro e w4 ⟨rfl, b4⟩
    have B4 := Lib.hid (bup B3.out b4)
    clear b4 B3
    go_wp2_with fail
    go_ret
    exact ⟨rfl, bup B4.out (bnew _ _)⟩
end Go.Proofs.Yteknaeemjgpgbaa
