/-
  The reference's Good, branch by branch.
-/
import Derived.Test.YtakdagmkkelnfaaEntGood
import Derived.StillTailTactics
import Derived.Deep.Cut
namespace Go.Proofs.Ytakdagmkkelnfaa
open Go.RowKit Go.Sort
set_option linter.unusedVariables false
set_option linter.unusedSimpArgs false

theorem entSlotEqBin (u v : Bool) (a b : ByteArray) (w : World) : (binOp .eql 62 (.agg #[.bool u, .string a]) (.agg #[.bool v, .string b])).run Try.prog w = .ok (.bool (u == v && (a.toList == b.toList && true))) w := by
  have h := slotEqIn 9998 u v a b w
  rw [run_eql_struct, h]
  rfl
set_option maxRecDepth 100000 in
set_option maxHeartbeats 4000000 in
theorem rgood_e0 (k : Int) (c e n l p pg sl : Int) (wu : Bool) (wd : ByteArray) (iu : Bool) (ix : ByteArray) (nx : Int) (C0 : ∀ w, Calls Try.prog 43 #[.agg #[.int .i64 c, .int .i64 e, .int .i64 n]] w fun r w' => r = .returned (.bool false) ∧ Below w.heap.size w w') (w : World) :
    Calls Try.prog 45 #[.agg #[.int .i64 k, .int .i64 c, .int .i64 e, .int .i64 n, .int .i64 l, .int .i64 p, .int .i64 pg, .int .i64 sl, .bool wu, .string wd, .bool iu, .string ix, .int .i64 nx]] w fun r w' => r = .returned (.bool false) ∧ Below w.heap.size w w' := by
  have C0 := Lib.hid C0
  go_enter Try.func45, Try.ntmps45
  go_wp2_with fail
  refine (C0.out _).mono ?_
  rintro e w1 ⟨rfl, g1⟩
  go_wp2_with fail
  go_ret
  refine ⟨?_, (bup (bnew _ _) g1)⟩
  first | rfl | exact congrArg (fun b => Ending.returned (.bool b)) (decide_eq_true (by omega)) | exact congrArg (fun b => Ending.returned (.bool b)) (decide_eq_false (by omega)) | exact congrArg (fun b => Ending.returned (.bool b)) (by simp <;> omega)
set_option maxRecDepth 100000 in
set_option maxHeartbeats 4000000 in
theorem rgood_e1 (k : Int) (c e n l p pg sl : Int) (wu : Bool) (wd : ByteArray) (iu : Bool) (ix : ByteArray) (nx : Int) (C0 : ∀ w, Calls Try.prog 43 #[.agg #[.int .i64 c, .int .i64 e, .int .i64 n]] w fun r w' => r = .returned (.bool true) ∧ Below w.heap.size w w') (hl : l < 1) (w : World) :
    Calls Try.prog 45 #[.agg #[.int .i64 k, .int .i64 c, .int .i64 e, .int .i64 n, .int .i64 l, .int .i64 p, .int .i64 pg, .int .i64 sl, .bool wu, .string wd, .bool iu, .string ix, .int .i64 nx]] w fun r w' => r = .returned (.bool false) ∧ Below w.heap.size w w' := by
  have C0 := Lib.hid C0
  go_enter Try.func45, Try.ntmps45
  go_wp2_with fail
  refine (C0.out _).mono ?_
  rintro e w1 ⟨rfl, g1⟩
  have B1 := bup (bnew w _) g1
  have X1 := (Has.new w _).below g1
  obtain ⟨a0, a1, a2, a3, a4, a5, a6, a7, a8, a9, a10, a11, a12⟩ := EntAt.of X1
  clear g1
  go_wp2_with fail
  go_ret
  refine ⟨?_, B1⟩
  first | rfl | exact congrArg (fun b => Ending.returned (.bool b)) (decide_eq_true (by omega)) | exact congrArg (fun b => Ending.returned (.bool b)) (decide_eq_false (by omega)) | exact congrArg (fun b => Ending.returned (.bool b)) (by simp <;> omega)
set_option maxRecDepth 100000 in
set_option maxHeartbeats 4000000 in
theorem rgood_e2 (k : Int) (c e n l p pg sl : Int) (wu : Bool) (wd : ByteArray) (iu : Bool) (ix : ByteArray) (nx : Int) (C0 : ∀ w, Calls Try.prog 43 #[.agg #[.int .i64 c, .int .i64 e, .int .i64 n]] w fun r w' => r = .returned (.bool true) ∧ Below w.heap.size w w') (hl1 : 1 ≤ l) (hl : 1099511627776 < l) (w : World) :
    Calls Try.prog 45 #[.agg #[.int .i64 k, .int .i64 c, .int .i64 e, .int .i64 n, .int .i64 l, .int .i64 p, .int .i64 pg, .int .i64 sl, .bool wu, .string wd, .bool iu, .string ix, .int .i64 nx]] w fun r w' => r = .returned (.bool false) ∧ Below w.heap.size w w' := by
  have C0 := Lib.hid C0
  go_enter Try.func45, Try.ntmps45
  go_wp2_with fail
  refine (C0.out _).mono ?_
  rintro e w1 ⟨rfl, g1⟩
  have B1 := bup (bnew w _) g1
  have X1 := (Has.new w _).below g1
  obtain ⟨a0, a1, a2, a3, a4, a5, a6, a7, a8, a9, a10, a11, a12⟩ := EntAt.of X1
  clear g1
  go_wp2_with fail
  go_ret
  refine ⟨?_, B1⟩
  first | rfl | exact congrArg (fun b => Ending.returned (.bool b)) (decide_eq_true (by omega)) | exact congrArg (fun b => Ending.returned (.bool b)) (decide_eq_false (by omega)) | exact congrArg (fun b => Ending.returned (.bool b)) (by simp <;> omega)
set_option maxRecDepth 100000 in
set_option maxHeartbeats 4000000 in
theorem rgood_e3 (k : Int) (c e n l p pg sl : Int) (wu : Bool) (wd : ByteArray) (iu : Bool) (ix : ByteArray) (nx : Int) (C0 : ∀ w, Calls Try.prog 43 #[.agg #[.int .i64 c, .int .i64 e, .int .i64 n]] w fun r w' => r = .returned (.bool true) ∧ Below w.heap.size w w') (hl1 : 1 ≤ l) (hl2 : l ≤ 1099511627776) (hp : p < 0) (w : World) :
    Calls Try.prog 45 #[.agg #[.int .i64 k, .int .i64 c, .int .i64 e, .int .i64 n, .int .i64 l, .int .i64 p, .int .i64 pg, .int .i64 sl, .bool wu, .string wd, .bool iu, .string ix, .int .i64 nx]] w fun r w' => r = .returned (.bool false) ∧ Below w.heap.size w w' := by
  have C0 := Lib.hid C0
  go_enter Try.func45, Try.ntmps45
  go_wp2_with fail
  refine (C0.out _).mono ?_
  rintro e w1 ⟨rfl, g1⟩
  have B1 := bup (bnew w _) g1
  have X1 := (Has.new w _).below g1
  obtain ⟨a0, a1, a2, a3, a4, a5, a6, a7, a8, a9, a10, a11, a12⟩ := EntAt.of X1
  clear g1
  go_wp2_with fail
  go_ret
  refine ⟨?_, B1⟩
  first | rfl | exact congrArg (fun b => Ending.returned (.bool b)) (decide_eq_true (by omega)) | exact congrArg (fun b => Ending.returned (.bool b)) (decide_eq_false (by omega)) | exact congrArg (fun b => Ending.returned (.bool b)) (by simp <;> omega)
set_option maxRecDepth 100000 in
set_option maxHeartbeats 4000000 in
theorem rgood_e4 (k : Int) (c e n l p pg sl : Int) (wu : Bool) (wd : ByteArray) (iu : Bool) (ix : ByteArray) (nx : Int) (C0 : ∀ w, Calls Try.prog 43 #[.agg #[.int .i64 c, .int .i64 e, .int .i64 n]] w fun r w' => r = .returned (.bool true) ∧ Below w.heap.size w w') (hl1 : 1 ≤ l) (hl2 : l ≤ 1099511627776) (hp0 : 0 ≤ p) (hp : l ≤ p) (w : World) :
    Calls Try.prog 45 #[.agg #[.int .i64 k, .int .i64 c, .int .i64 e, .int .i64 n, .int .i64 l, .int .i64 p, .int .i64 pg, .int .i64 sl, .bool wu, .string wd, .bool iu, .string ix, .int .i64 nx]] w fun r w' => r = .returned (.bool false) ∧ Below w.heap.size w w' := by
  have C0 := Lib.hid C0
  go_enter Try.func45, Try.ntmps45
  go_wp2_with fail
  refine (C0.out _).mono ?_
  rintro e w1 ⟨rfl, g1⟩
  have B1 := bup (bnew w _) g1
  have X1 := (Has.new w _).below g1
  obtain ⟨a0, a1, a2, a3, a4, a5, a6, a7, a8, a9, a10, a11, a12⟩ := EntAt.of X1
  clear g1
  go_wp2_with fail
  go_ret
  refine ⟨?_, B1⟩
  first | rfl | exact congrArg (fun b => Ending.returned (.bool b)) (decide_eq_true (by omega)) | exact congrArg (fun b => Ending.returned (.bool b)) (decide_eq_false (by omega)) | exact congrArg (fun b => Ending.returned (.bool b)) (by simp <;> omega)
set_option maxRecDepth 100000 in
set_option maxHeartbeats 4000000 in
theorem rgood_1a (c e n l p pg sl : Int) (wu : Bool) (wd : ByteArray) (iu : Bool) (ix : ByteArray) (nx : Int) (C0 : ∀ w, Calls Try.prog 43 #[.agg #[.int .i64 c, .int .i64 e, .int .i64 n]] w fun r w' => r = .returned (.bool true) ∧ Below w.heap.size w w') (hl1 : 1 ≤ l) (hl2 : l ≤ 1099511627776) (hp0 : 0 ≤ p) (hp : p < l) (hg : pg < 0) (w : World) :
    Calls Try.prog 45 #[.agg #[.int .i64 1, .int .i64 c, .int .i64 e, .int .i64 n, .int .i64 l, .int .i64 p, .int .i64 pg, .int .i64 sl, .bool wu, .string wd, .bool iu, .string ix, .int .i64 nx]] w fun r w' => r = .returned (.bool false) ∧ Below w.heap.size w w' := by
  have C0 := Lib.hid C0
  go_enter Try.func45, Try.ntmps45
  go_wp2_with fail
  refine (C0.out _).mono ?_
  rintro e w1 ⟨rfl, g1⟩
  have B1 := bup (bnew w _) g1
  have X1 := (Has.new w _).below g1
  obtain ⟨a0, a1, a2, a3, a4, a5, a6, a7, a8, a9, a10, a11, a12⟩ := EntAt.of X1
  clear g1
  go_wp2_with fail
  go_ret
  refine ⟨?_, B1⟩
  first | rfl | exact congrArg (fun b => Ending.returned (.bool b)) (decide_eq_true (by omega)) | exact congrArg (fun b => Ending.returned (.bool b)) (decide_eq_false (by omega)) | exact congrArg (fun b => Ending.returned (.bool b)) (by simp <;> omega)
set_option maxRecDepth 100000 in
set_option maxHeartbeats 4000000 in
theorem rgood_1b (c e n l p pg sl : Int) (wu : Bool) (wd : ByteArray) (iu : Bool) (ix : ByteArray) (nx : Int) (C0 : ∀ w, Calls Try.prog 43 #[.agg #[.int .i64 c, .int .i64 e, .int .i64 n]] w fun r w' => r = .returned (.bool true) ∧ Below w.heap.size w w') (hl1 : 1 ≤ l) (hl2 : l ≤ 1099511627776) (hp0 : 0 ≤ p) (hp : p < l) (hg0 : 0 ≤ pg) (hg : 1023 < pg) (w : World) :
    Calls Try.prog 45 #[.agg #[.int .i64 1, .int .i64 c, .int .i64 e, .int .i64 n, .int .i64 l, .int .i64 p, .int .i64 pg, .int .i64 sl, .bool wu, .string wd, .bool iu, .string ix, .int .i64 nx]] w fun r w' => r = .returned (.bool false) ∧ Below w.heap.size w w' := by
  have C0 := Lib.hid C0
  go_enter Try.func45, Try.ntmps45
  go_wp2_with fail
  refine (C0.out _).mono ?_
  rintro e w1 ⟨rfl, g1⟩
  have B1 := bup (bnew w _) g1
  have X1 := (Has.new w _).below g1
  obtain ⟨a0, a1, a2, a3, a4, a5, a6, a7, a8, a9, a10, a11, a12⟩ := EntAt.of X1
  clear g1
  go_wp2_with fail
  go_ret
  refine ⟨?_, B1⟩
  first | rfl | exact congrArg (fun b => Ending.returned (.bool b)) (decide_eq_true (by omega)) | exact congrArg (fun b => Ending.returned (.bool b)) (decide_eq_false (by omega)) | exact congrArg (fun b => Ending.returned (.bool b)) (by simp <;> omega)
set_option maxRecDepth 100000 in
set_option maxHeartbeats 4000000 in
theorem rgood_1c (c e n l p pg sl : Int) (wu : Bool) (wd : ByteArray) (iu : Bool) (ix : ByteArray) (nx : Int) (C0 : ∀ w, Calls Try.prog 43 #[.agg #[.int .i64 c, .int .i64 e, .int .i64 n]] w fun r w' => r = .returned (.bool true) ∧ Below w.heap.size w w') (hl1 : 1 ≤ l) (hl2 : l ≤ 1099511627776) (hp0 : 0 ≤ p) (hp : p < l) (hg0 : 0 ≤ pg) (hg1 : pg ≤ 1023) (hg : sl < 0) (w : World) :
    Calls Try.prog 45 #[.agg #[.int .i64 1, .int .i64 c, .int .i64 e, .int .i64 n, .int .i64 l, .int .i64 p, .int .i64 pg, .int .i64 sl, .bool wu, .string wd, .bool iu, .string ix, .int .i64 nx]] w fun r w' => r = .returned (.bool false) ∧ Below w.heap.size w w' := by
  have C0 := Lib.hid C0
  go_enter Try.func45, Try.ntmps45
  go_wp2_with fail
  refine (C0.out _).mono ?_
  rintro e w1 ⟨rfl, g1⟩
  have B1 := bup (bnew w _) g1
  have X1 := (Has.new w _).below g1
  obtain ⟨a0, a1, a2, a3, a4, a5, a6, a7, a8, a9, a10, a11, a12⟩ := EntAt.of X1
  clear g1
  go_wp2_with fail
  go_ret
  refine ⟨?_, B1⟩
  first | rfl | exact congrArg (fun b => Ending.returned (.bool b)) (decide_eq_true (by omega)) | exact congrArg (fun b => Ending.returned (.bool b)) (decide_eq_false (by omega)) | exact congrArg (fun b => Ending.returned (.bool b)) (by simp <;> omega)
set_option maxRecDepth 100000 in
set_option maxHeartbeats 4000000 in
theorem rgood_1d (c e n l p pg sl : Int) (wu : Bool) (wd : ByteArray) (iu : Bool) (ix : ByteArray) (nx : Int) (C0 : ∀ w, Calls Try.prog 43 #[.agg #[.int .i64 c, .int .i64 e, .int .i64 n]] w fun r w' => r = .returned (.bool true) ∧ Below w.heap.size w w') (hl1 : 1 ≤ l) (hl2 : l ≤ 1099511627776) (hp0 : 0 ≤ p) (hp : p < l) (hg0 : 0 ≤ pg) (hg1 : pg ≤ 1023) (hs0 : 0 ≤ sl) (hg : 31 < sl) (w : World) :
    Calls Try.prog 45 #[.agg #[.int .i64 1, .int .i64 c, .int .i64 e, .int .i64 n, .int .i64 l, .int .i64 p, .int .i64 pg, .int .i64 sl, .bool wu, .string wd, .bool iu, .string ix, .int .i64 nx]] w fun r w' => r = .returned (.bool false) ∧ Below w.heap.size w w' := by
  have C0 := Lib.hid C0
  go_enter Try.func45, Try.ntmps45
  go_wp2_with fail
  refine (C0.out _).mono ?_
  rintro e w1 ⟨rfl, g1⟩
  have B1 := bup (bnew w _) g1
  have X1 := (Has.new w _).below g1
  obtain ⟨a0, a1, a2, a3, a4, a5, a6, a7, a8, a9, a10, a11, a12⟩ := EntAt.of X1
  clear g1
  go_wp2_with fail
  go_ret
  refine ⟨?_, B1⟩
  first | rfl | exact congrArg (fun b => Ending.returned (.bool b)) (decide_eq_true (by omega)) | exact congrArg (fun b => Ending.returned (.bool b)) (decide_eq_false (by omega)) | exact congrArg (fun b => Ending.returned (.bool b)) (by simp <;> omega)
set_option maxRecDepth 100000 in
set_option maxHeartbeats 4000000 in
theorem rgood_1e (c e n l p pg sl : Int) (wu : Bool) (wd : ByteArray) (iu : Bool) (ix : ByteArray) (nx : Int) (C0 : ∀ w, Calls Try.prog 43 #[.agg #[.int .i64 c, .int .i64 e, .int .i64 n]] w fun r w' => r = .returned (.bool true) ∧ Below w.heap.size w w') (hl1 : 1 ≤ l) (hl2 : l ≤ 1099511627776) (hp0 : 0 ≤ p) (hp : p < l) (hg0 : 0 ≤ pg) (hg1 : pg ≤ 1023) (hs0 : 0 ≤ sl) (hs1 : sl ≤ 31) (C5 : ∀ w, Calls Try.prog 67 #[.agg #[.bool wu, .string wd]] w fun r w' => r = .returned (.bool false) ∧ Below w.heap.size w w') (w : World) :
    Calls Try.prog 45 #[.agg #[.int .i64 1, .int .i64 c, .int .i64 e, .int .i64 n, .int .i64 l, .int .i64 p, .int .i64 pg, .int .i64 sl, .bool wu, .string wd, .bool iu, .string ix, .int .i64 nx]] w fun r w' => r = .returned (.bool false) ∧ Below w.heap.size w w' := by
  have C0 := Lib.hid C0
  have C5 := Lib.hid C5
  go_enter Try.func45, Try.ntmps45
  go_wp2_with fail
  refine (C0.out _).mono ?_
  rintro e w1 ⟨rfl, g1⟩
  have B1 := bup (bnew w _) g1
  have X1 := (Has.new w _).below g1
  obtain ⟨a0, a1, a2, a3, a4, a5, a6, a7, a8, a9, a10, a11, a12⟩ := EntAt.of X1
  clear g1
  go_wp2_with fail
  refine (C5.out _).mono ?_
  rintro e w2 ⟨rfl, g2⟩
  have B2 := bup B1 g2
  have X2 := X1.below g2
  clear a0 a1 a2 a3 a4 a5 a6 a7 a8 a9 a10 a11 a12 g2
  obtain ⟨a0, a1, a2, a3, a4, a5, a6, a7, a8, a9, a10, a11, a12⟩ := EntAt.of X2
  go_wp2_with fail
  go_ret
  refine ⟨?_, B2⟩
  first | rfl | exact congrArg (fun b => Ending.returned (.bool b)) (decide_eq_true (by omega)) | exact congrArg (fun b => Ending.returned (.bool b)) (decide_eq_false (by omega)) | exact congrArg (fun b => Ending.returned (.bool b)) (by simp <;> omega)
set_option maxRecDepth 100000 in
set_option maxHeartbeats 4000000 in
theorem rgood_1f (c e n l p pg sl : Int) (wu : Bool) (wd : ByteArray) (iu : Bool) (ix : ByteArray) (nx : Int) (C0 : ∀ w, Calls Try.prog 43 #[.agg #[.int .i64 c, .int .i64 e, .int .i64 n]] w fun r w' => r = .returned (.bool true) ∧ Below w.heap.size w w') (hl1 : 1 ≤ l) (hl2 : l ≤ 1099511627776) (hp0 : 0 ≤ p) (hp : p < l) (hg0 : 0 ≤ pg) (hg1 : pg ≤ 1023) (hs0 : 0 ≤ sl) (hs1 : sl ≤ 31) (C5 : ∀ w, Calls Try.prog 67 #[.agg #[.bool wu, .string wd]] w fun r w' => r = .returned (.bool true) ∧ Below w.heap.size w w') (C6 : ∀ w, Calls Try.prog 67 #[.agg #[.bool iu, .string ix]] w fun r w' => r = .returned (.bool false) ∧ Below w.heap.size w w') (w : World) :
    Calls Try.prog 45 #[.agg #[.int .i64 1, .int .i64 c, .int .i64 e, .int .i64 n, .int .i64 l, .int .i64 p, .int .i64 pg, .int .i64 sl, .bool wu, .string wd, .bool iu, .string ix, .int .i64 nx]] w fun r w' => r = .returned (.bool false) ∧ Below w.heap.size w w' := by
  have C0 := Lib.hid C0
  have C5 := Lib.hid C5
  have C6 := Lib.hid C6
  go_enter Try.func45, Try.ntmps45
  go_wp2_with fail
  refine (C0.out _).mono ?_
  rintro e w1 ⟨rfl, g1⟩
  have B1 := bup (bnew w _) g1
  have X1 := (Has.new w _).below g1
  obtain ⟨a0, a1, a2, a3, a4, a5, a6, a7, a8, a9, a10, a11, a12⟩ := EntAt.of X1
  clear g1
  go_wp2_with fail
  refine (C5.out _).mono ?_
  rintro e w2 ⟨rfl, g2⟩
  have B2 := bup B1 g2
  have X2 := X1.below g2
  clear a0 a1 a2 a3 a4 a5 a6 a7 a8 a9 a10 a11 a12 g2
  obtain ⟨a0, a1, a2, a3, a4, a5, a6, a7, a8, a9, a10, a11, a12⟩ := EntAt.of X2
  go_wp2_with fail
  refine (C6.out _).mono ?_
  rintro e w3 ⟨rfl, g3⟩
  have B3 := bup B2 g3
  have X3 := X2.below g3
  clear a0 a1 a2 a3 a4 a5 a6 a7 a8 a9 a10 a11 a12 g3
  obtain ⟨a0, a1, a2, a3, a4, a5, a6, a7, a8, a9, a10, a11, a12⟩ := EntAt.of X3
  go_wp2_with fail
  go_ret
  refine ⟨?_, B3⟩
  first | rfl | exact congrArg (fun b => Ending.returned (.bool b)) (decide_eq_true (by omega)) | exact congrArg (fun b => Ending.returned (.bool b)) (decide_eq_false (by omega)) | exact congrArg (fun b => Ending.returned (.bool b)) (by simp <;> omega)
set_option maxRecDepth 100000 in
set_option maxHeartbeats 4000000 in
theorem rgood_1g (c e n l p pg sl : Int) (wu : Bool) (wd : ByteArray) (iu : Bool) (ix : ByteArray) (nx : Int) (C0 : ∀ w, Calls Try.prog 43 #[.agg #[.int .i64 c, .int .i64 e, .int .i64 n]] w fun r w' => r = .returned (.bool true) ∧ Below w.heap.size w w') (hl1 : 1 ≤ l) (hl2 : l ≤ 1099511627776) (hp0 : 0 ≤ p) (hp : p < l) (hg0 : 0 ≤ pg) (hg1 : pg ≤ 1023) (hs0 : 0 ≤ sl) (hs1 : sl ≤ 31) (C5 : ∀ w, Calls Try.prog 67 #[.agg #[.bool wu, .string wd]] w fun r w' => r = .returned (.bool true) ∧ Below w.heap.size w w') (C6 : ∀ w, Calls Try.prog 67 #[.agg #[.bool iu, .string ix]] w fun r w' => r = .returned (.bool true) ∧ Below w.heap.size w w') (hn : ((nx : Int) == 0) = true) (w : World) :
    Calls Try.prog 45 #[.agg #[.int .i64 1, .int .i64 c, .int .i64 e, .int .i64 n, .int .i64 l, .int .i64 p, .int .i64 pg, .int .i64 sl, .bool wu, .string wd, .bool iu, .string ix, .int .i64 nx]] w fun r w' => r = .returned (.bool true) ∧ Below w.heap.size w w' := by
  have C0 := Lib.hid C0
  have C5 := Lib.hid C5
  have C6 := Lib.hid C6
  go_enter Try.func45, Try.ntmps45
  go_wp2_with fail
  refine (C0.out _).mono ?_
  rintro e w1 ⟨rfl, g1⟩
  have B1 := bup (bnew w _) g1
  have X1 := (Has.new w _).below g1
  obtain ⟨a0, a1, a2, a3, a4, a5, a6, a7, a8, a9, a10, a11, a12⟩ := EntAt.of X1
  clear g1
  go_wp2_with fail
  refine (C5.out _).mono ?_
  rintro e w2 ⟨rfl, g2⟩
  have B2 := bup B1 g2
  have X2 := X1.below g2
  clear a0 a1 a2 a3 a4 a5 a6 a7 a8 a9 a10 a11 a12 g2
  obtain ⟨a0, a1, a2, a3, a4, a5, a6, a7, a8, a9, a10, a11, a12⟩ := EntAt.of X2
  go_wp2_with fail
  refine (C6.out _).mono ?_
  rintro e w3 ⟨rfl, g3⟩
  have B3 := bup B2 g3
  have X3 := X2.below g3
  clear a0 a1 a2 a3 a4 a5 a6 a7 a8 a9 a10 a11 a12 g3
  obtain ⟨a0, a1, a2, a3, a4, a5, a6, a7, a8, a9, a10, a11, a12⟩ := EntAt.of X3
  go_wp2_with fail
  go_ret
  refine ⟨?_, B3⟩
  first | rfl | exact congrArg (fun b => Ending.returned (.bool b)) (decide_eq_true (by omega)) | exact congrArg (fun b => Ending.returned (.bool b)) (decide_eq_false (by omega)) | exact congrArg (fun b => Ending.returned (.bool b)) (by simp <;> omega)
set_option maxRecDepth 100000 in
set_option maxHeartbeats 4000000 in
theorem rgood_1h (c e n l p pg sl : Int) (wu : Bool) (wd : ByteArray) (iu : Bool) (ix : ByteArray) (nx : Int) (C0 : ∀ w, Calls Try.prog 43 #[.agg #[.int .i64 c, .int .i64 e, .int .i64 n]] w fun r w' => r = .returned (.bool true) ∧ Below w.heap.size w w') (hl1 : 1 ≤ l) (hl2 : l ≤ 1099511627776) (hp0 : 0 ≤ p) (hp : p < l) (hg0 : 0 ≤ pg) (hg1 : pg ≤ 1023) (hs0 : 0 ≤ sl) (hs1 : sl ≤ 31) (C5 : ∀ w, Calls Try.prog 67 #[.agg #[.bool wu, .string wd]] w fun r w' => r = .returned (.bool true) ∧ Below w.heap.size w w') (C6 : ∀ w, Calls Try.prog 67 #[.agg #[.bool iu, .string ix]] w fun r w' => r = .returned (.bool true) ∧ Below w.heap.size w w') (hn : ((nx : Int) == 0) = false) (w : World) :
    Calls Try.prog 45 #[.agg #[.int .i64 1, .int .i64 c, .int .i64 e, .int .i64 n, .int .i64 l, .int .i64 p, .int .i64 pg, .int .i64 sl, .bool wu, .string wd, .bool iu, .string ix, .int .i64 nx]] w fun r w' => r = .returned (.bool false) ∧ Below w.heap.size w w' := by
  have C0 := Lib.hid C0
  have C5 := Lib.hid C5
  have C6 := Lib.hid C6
  go_enter Try.func45, Try.ntmps45
  go_wp2_with fail
  refine (C0.out _).mono ?_
  rintro e w1 ⟨rfl, g1⟩
  have B1 := bup (bnew w _) g1
  have X1 := (Has.new w _).below g1
  obtain ⟨a0, a1, a2, a3, a4, a5, a6, a7, a8, a9, a10, a11, a12⟩ := EntAt.of X1
  clear g1
  go_wp2_with fail
  refine (C5.out _).mono ?_
  rintro e w2 ⟨rfl, g2⟩
  have B2 := bup B1 g2
  have X2 := X1.below g2
  clear a0 a1 a2 a3 a4 a5 a6 a7 a8 a9 a10 a11 a12 g2
  obtain ⟨a0, a1, a2, a3, a4, a5, a6, a7, a8, a9, a10, a11, a12⟩ := EntAt.of X2
  go_wp2_with fail
  refine (C6.out _).mono ?_
  rintro e w3 ⟨rfl, g3⟩
  have B3 := bup B2 g3
  have X3 := X2.below g3
  clear a0 a1 a2 a3 a4 a5 a6 a7 a8 a9 a10 a11 a12 g3
  obtain ⟨a0, a1, a2, a3, a4, a5, a6, a7, a8, a9, a10, a11, a12⟩ := EntAt.of X3
  go_wp2_with fail
  go_ret
  refine ⟨?_, B3⟩
  first | rfl | exact congrArg (fun b => Ending.returned (.bool b)) (decide_eq_true (by omega)) | exact congrArg (fun b => Ending.returned (.bool b)) (decide_eq_false (by omega)) | exact congrArg (fun b => Ending.returned (.bool b)) (by simp <;> omega)
set_option maxRecDepth 100000 in
set_option maxHeartbeats 4000000 in
theorem rgood_2a (c e n l p pg sl : Int) (wu : Bool) (wd : ByteArray) (iu : Bool) (ix : ByteArray) (nx : Int) (C0 : ∀ w, Calls Try.prog 43 #[.agg #[.int .i64 c, .int .i64 e, .int .i64 n]] w fun r w' => r = .returned (.bool true) ∧ Below w.heap.size w w') (hl1 : 1 ≤ l) (hl2 : l ≤ 1099511627776) (hp0 : 0 ≤ p) (hp : p < l) (hg : pg < 0) (w : World) :
    Calls Try.prog 45 #[.agg #[.int .i64 2, .int .i64 c, .int .i64 e, .int .i64 n, .int .i64 l, .int .i64 p, .int .i64 pg, .int .i64 sl, .bool wu, .string wd, .bool iu, .string ix, .int .i64 nx]] w fun r w' => r = .returned (.bool false) ∧ Below w.heap.size w w' := by
  have C0 := Lib.hid C0
  go_enter Try.func45, Try.ntmps45
  go_wp2_with fail
  refine (C0.out _).mono ?_
  rintro e w1 ⟨rfl, g1⟩
  have B1 := bup (bnew w _) g1
  have X1 := (Has.new w _).below g1
  obtain ⟨a0, a1, a2, a3, a4, a5, a6, a7, a8, a9, a10, a11, a12⟩ := EntAt.of X1
  clear g1
  go_wp2_with fail
  go_ret
  refine ⟨?_, B1⟩
  first | rfl | exact congrArg (fun b => Ending.returned (.bool b)) (decide_eq_true (by omega)) | exact congrArg (fun b => Ending.returned (.bool b)) (decide_eq_false (by omega)) | exact congrArg (fun b => Ending.returned (.bool b)) (by simp <;> omega)
set_option maxRecDepth 100000 in
set_option maxHeartbeats 4000000 in
theorem rgood_2b (c e n l p pg sl : Int) (wu : Bool) (wd : ByteArray) (iu : Bool) (ix : ByteArray) (nx : Int) (C0 : ∀ w, Calls Try.prog 43 #[.agg #[.int .i64 c, .int .i64 e, .int .i64 n]] w fun r w' => r = .returned (.bool true) ∧ Below w.heap.size w w') (hl1 : 1 ≤ l) (hl2 : l ≤ 1099511627776) (hp0 : 0 ≤ p) (hp : p < l) (hg0 : 0 ≤ pg) (hg : 1023 < pg) (w : World) :
    Calls Try.prog 45 #[.agg #[.int .i64 2, .int .i64 c, .int .i64 e, .int .i64 n, .int .i64 l, .int .i64 p, .int .i64 pg, .int .i64 sl, .bool wu, .string wd, .bool iu, .string ix, .int .i64 nx]] w fun r w' => r = .returned (.bool false) ∧ Below w.heap.size w w' := by
  have C0 := Lib.hid C0
  go_enter Try.func45, Try.ntmps45
  go_wp2_with fail
  refine (C0.out _).mono ?_
  rintro e w1 ⟨rfl, g1⟩
  have B1 := bup (bnew w _) g1
  have X1 := (Has.new w _).below g1
  obtain ⟨a0, a1, a2, a3, a4, a5, a6, a7, a8, a9, a10, a11, a12⟩ := EntAt.of X1
  clear g1
  go_wp2_with fail
  go_ret
  refine ⟨?_, B1⟩
  first | rfl | exact congrArg (fun b => Ending.returned (.bool b)) (decide_eq_true (by omega)) | exact congrArg (fun b => Ending.returned (.bool b)) (decide_eq_false (by omega)) | exact congrArg (fun b => Ending.returned (.bool b)) (by simp <;> omega)
set_option maxRecDepth 100000 in
set_option maxHeartbeats 4000000 in
theorem rgood_2c (c e n l p pg sl : Int) (wu : Bool) (wd : ByteArray) (iu : Bool) (ix : ByteArray) (nx : Int) (C0 : ∀ w, Calls Try.prog 43 #[.agg #[.int .i64 c, .int .i64 e, .int .i64 n]] w fun r w' => r = .returned (.bool true) ∧ Below w.heap.size w w') (hl1 : 1 ≤ l) (hl2 : l ≤ 1099511627776) (hp0 : 0 ≤ p) (hp : p < l) (hg0 : 0 ≤ pg) (hg1 : pg ≤ 1023) (hg : sl < 0) (w : World) :
    Calls Try.prog 45 #[.agg #[.int .i64 2, .int .i64 c, .int .i64 e, .int .i64 n, .int .i64 l, .int .i64 p, .int .i64 pg, .int .i64 sl, .bool wu, .string wd, .bool iu, .string ix, .int .i64 nx]] w fun r w' => r = .returned (.bool false) ∧ Below w.heap.size w w' := by
  have C0 := Lib.hid C0
  go_enter Try.func45, Try.ntmps45
  go_wp2_with fail
  refine (C0.out _).mono ?_
  rintro e w1 ⟨rfl, g1⟩
  have B1 := bup (bnew w _) g1
  have X1 := (Has.new w _).below g1
  obtain ⟨a0, a1, a2, a3, a4, a5, a6, a7, a8, a9, a10, a11, a12⟩ := EntAt.of X1
  clear g1
  go_wp2_with fail
  go_ret
  refine ⟨?_, B1⟩
  first | rfl | exact congrArg (fun b => Ending.returned (.bool b)) (decide_eq_true (by omega)) | exact congrArg (fun b => Ending.returned (.bool b)) (decide_eq_false (by omega)) | exact congrArg (fun b => Ending.returned (.bool b)) (by simp <;> omega)
set_option maxRecDepth 100000 in
set_option maxHeartbeats 4000000 in
theorem rgood_2d (c e n l p pg sl : Int) (wu : Bool) (wd : ByteArray) (iu : Bool) (ix : ByteArray) (nx : Int) (C0 : ∀ w, Calls Try.prog 43 #[.agg #[.int .i64 c, .int .i64 e, .int .i64 n]] w fun r w' => r = .returned (.bool true) ∧ Below w.heap.size w w') (hl1 : 1 ≤ l) (hl2 : l ≤ 1099511627776) (hp0 : 0 ≤ p) (hp : p < l) (hg0 : 0 ≤ pg) (hg1 : pg ≤ 1023) (hs0 : 0 ≤ sl) (hg : 31 < sl) (w : World) :
    Calls Try.prog 45 #[.agg #[.int .i64 2, .int .i64 c, .int .i64 e, .int .i64 n, .int .i64 l, .int .i64 p, .int .i64 pg, .int .i64 sl, .bool wu, .string wd, .bool iu, .string ix, .int .i64 nx]] w fun r w' => r = .returned (.bool false) ∧ Below w.heap.size w w' := by
  have C0 := Lib.hid C0
  go_enter Try.func45, Try.ntmps45
  go_wp2_with fail
  refine (C0.out _).mono ?_
  rintro e w1 ⟨rfl, g1⟩
  have B1 := bup (bnew w _) g1
  have X1 := (Has.new w _).below g1
  obtain ⟨a0, a1, a2, a3, a4, a5, a6, a7, a8, a9, a10, a11, a12⟩ := EntAt.of X1
  clear g1
  go_wp2_with fail
  go_ret
  refine ⟨?_, B1⟩
  first | rfl | exact congrArg (fun b => Ending.returned (.bool b)) (decide_eq_true (by omega)) | exact congrArg (fun b => Ending.returned (.bool b)) (decide_eq_false (by omega)) | exact congrArg (fun b => Ending.returned (.bool b)) (by simp <;> omega)
set_option maxRecDepth 100000 in
set_option maxHeartbeats 4000000 in
theorem rgood_2e (c e n l p pg sl : Int) (wu : Bool) (wd : ByteArray) (iu : Bool) (ix : ByteArray) (nx : Int) (C0 : ∀ w, Calls Try.prog 43 #[.agg #[.int .i64 c, .int .i64 e, .int .i64 n]] w fun r w' => r = .returned (.bool true) ∧ Below w.heap.size w w') (hl1 : 1 ≤ l) (hl2 : l ≤ 1099511627776) (hp0 : 0 ≤ p) (hp : p < l) (hg0 : 0 ≤ pg) (hg1 : pg ≤ 1023) (hs0 : 0 ≤ sl) (hs1 : sl ≤ 31) (C5 : ∀ w, Calls Try.prog 67 #[.agg #[.bool wu, .string wd]] w fun r w' => r = .returned (.bool false) ∧ Below w.heap.size w w') (w : World) :
    Calls Try.prog 45 #[.agg #[.int .i64 2, .int .i64 c, .int .i64 e, .int .i64 n, .int .i64 l, .int .i64 p, .int .i64 pg, .int .i64 sl, .bool wu, .string wd, .bool iu, .string ix, .int .i64 nx]] w fun r w' => r = .returned (.bool false) ∧ Below w.heap.size w w' := by
  have C0 := Lib.hid C0
  have C5 := Lib.hid C5
  go_enter Try.func45, Try.ntmps45
  go_wp2_with fail
  refine (C0.out _).mono ?_
  rintro e w1 ⟨rfl, g1⟩
  have B1 := bup (bnew w _) g1
  have X1 := (Has.new w _).below g1
  obtain ⟨a0, a1, a2, a3, a4, a5, a6, a7, a8, a9, a10, a11, a12⟩ := EntAt.of X1
  clear g1
  go_wp2_with fail
  refine (C5.out _).mono ?_
  rintro e w2 ⟨rfl, g2⟩
  have B2 := bup B1 g2
  have X2 := X1.below g2
  clear a0 a1 a2 a3 a4 a5 a6 a7 a8 a9 a10 a11 a12 g2
  obtain ⟨a0, a1, a2, a3, a4, a5, a6, a7, a8, a9, a10, a11, a12⟩ := EntAt.of X2
  go_wp2_with fail
  go_ret
  refine ⟨?_, B2⟩
  first | rfl | exact congrArg (fun b => Ending.returned (.bool b)) (decide_eq_true (by omega)) | exact congrArg (fun b => Ending.returned (.bool b)) (decide_eq_false (by omega)) | exact congrArg (fun b => Ending.returned (.bool b)) (by simp <;> omega)
set_option maxRecDepth 100000 in
set_option maxHeartbeats 4000000 in
theorem rgood_2f (c e n l p pg sl : Int) (wu : Bool) (wd : ByteArray) (iu : Bool) (ix : ByteArray) (nx : Int) (C0 : ∀ w, Calls Try.prog 43 #[.agg #[.int .i64 c, .int .i64 e, .int .i64 n]] w fun r w' => r = .returned (.bool true) ∧ Below w.heap.size w w') (hl1 : 1 ≤ l) (hl2 : l ≤ 1099511627776) (hp0 : 0 ≤ p) (hp : p < l) (hg0 : 0 ≤ pg) (hg1 : pg ≤ 1023) (hs0 : 0 ≤ sl) (hs1 : sl ≤ 31) (C5 : ∀ w, Calls Try.prog 67 #[.agg #[.bool wu, .string wd]] w fun r w' => r = .returned (.bool true) ∧ Below w.heap.size w w') (C6 : ∀ w, Calls Try.prog 67 #[.agg #[.bool iu, .string ix]] w fun r w' => r = .returned (.bool false) ∧ Below w.heap.size w w') (w : World) :
    Calls Try.prog 45 #[.agg #[.int .i64 2, .int .i64 c, .int .i64 e, .int .i64 n, .int .i64 l, .int .i64 p, .int .i64 pg, .int .i64 sl, .bool wu, .string wd, .bool iu, .string ix, .int .i64 nx]] w fun r w' => r = .returned (.bool false) ∧ Below w.heap.size w w' := by
  have C0 := Lib.hid C0
  have C5 := Lib.hid C5
  have C6 := Lib.hid C6
  go_enter Try.func45, Try.ntmps45
  go_wp2_with fail
  refine (C0.out _).mono ?_
  rintro e w1 ⟨rfl, g1⟩
  have B1 := bup (bnew w _) g1
  have X1 := (Has.new w _).below g1
  obtain ⟨a0, a1, a2, a3, a4, a5, a6, a7, a8, a9, a10, a11, a12⟩ := EntAt.of X1
  clear g1
  go_wp2_with fail
  refine (C5.out _).mono ?_
  rintro e w2 ⟨rfl, g2⟩
  have B2 := bup B1 g2
  have X2 := X1.below g2
  clear a0 a1 a2 a3 a4 a5 a6 a7 a8 a9 a10 a11 a12 g2
  obtain ⟨a0, a1, a2, a3, a4, a5, a6, a7, a8, a9, a10, a11, a12⟩ := EntAt.of X2
  go_wp2_with fail
  refine (C6.out _).mono ?_
  rintro e w3 ⟨rfl, g3⟩
  have B3 := bup B2 g3
  have X3 := X2.below g3
  clear a0 a1 a2 a3 a4 a5 a6 a7 a8 a9 a10 a11 a12 g3
  obtain ⟨a0, a1, a2, a3, a4, a5, a6, a7, a8, a9, a10, a11, a12⟩ := EntAt.of X3
  go_wp2_with fail
  go_ret
  refine ⟨?_, B3⟩
  first | rfl | exact congrArg (fun b => Ending.returned (.bool b)) (decide_eq_true (by omega)) | exact congrArg (fun b => Ending.returned (.bool b)) (decide_eq_false (by omega)) | exact congrArg (fun b => Ending.returned (.bool b)) (by simp <;> omega)
set_option maxRecDepth 100000 in
set_option maxHeartbeats 4000000 in
theorem rgood_2g (c e n l p pg sl : Int) (wu : Bool) (wd : ByteArray) (iu : Bool) (ix : ByteArray) (nx : Int) (C0 : ∀ w, Calls Try.prog 43 #[.agg #[.int .i64 c, .int .i64 e, .int .i64 n]] w fun r w' => r = .returned (.bool true) ∧ Below w.heap.size w w') (hl1 : 1 ≤ l) (hl2 : l ≤ 1099511627776) (hp0 : 0 ≤ p) (hp : p < l) (hg0 : 0 ≤ pg) (hg1 : pg ≤ 1023) (hs0 : 0 ≤ sl) (hs1 : sl ≤ 31) (C5 : ∀ w, Calls Try.prog 67 #[.agg #[.bool wu, .string wd]] w fun r w' => r = .returned (.bool true) ∧ Below w.heap.size w w') (C6 : ∀ w, Calls Try.prog 67 #[.agg #[.bool iu, .string ix]] w fun r w' => r = .returned (.bool true) ∧ Below w.heap.size w w') (hn : ((nx : Int) == 0) = true) (w : World) :
    Calls Try.prog 45 #[.agg #[.int .i64 2, .int .i64 c, .int .i64 e, .int .i64 n, .int .i64 l, .int .i64 p, .int .i64 pg, .int .i64 sl, .bool wu, .string wd, .bool iu, .string ix, .int .i64 nx]] w fun r w' => r = .returned (.bool true) ∧ Below w.heap.size w w' := by
  have C0 := Lib.hid C0
  have C5 := Lib.hid C5
  have C6 := Lib.hid C6
  go_enter Try.func45, Try.ntmps45
  go_wp2_with fail
  refine (C0.out _).mono ?_
  rintro e w1 ⟨rfl, g1⟩
  have B1 := bup (bnew w _) g1
  have X1 := (Has.new w _).below g1
  obtain ⟨a0, a1, a2, a3, a4, a5, a6, a7, a8, a9, a10, a11, a12⟩ := EntAt.of X1
  clear g1
  go_wp2_with fail
  refine (C5.out _).mono ?_
  rintro e w2 ⟨rfl, g2⟩
  have B2 := bup B1 g2
  have X2 := X1.below g2
  clear a0 a1 a2 a3 a4 a5 a6 a7 a8 a9 a10 a11 a12 g2
  obtain ⟨a0, a1, a2, a3, a4, a5, a6, a7, a8, a9, a10, a11, a12⟩ := EntAt.of X2
  go_wp2_with fail
  refine (C6.out _).mono ?_
  rintro e w3 ⟨rfl, g3⟩
  have B3 := bup B2 g3
  have X3 := X2.below g3
  clear a0 a1 a2 a3 a4 a5 a6 a7 a8 a9 a10 a11 a12 g3
  obtain ⟨a0, a1, a2, a3, a4, a5, a6, a7, a8, a9, a10, a11, a12⟩ := EntAt.of X3
  go_wp2_with fail
  go_ret
  refine ⟨?_, B3⟩
  first | rfl | exact congrArg (fun b => Ending.returned (.bool b)) (decide_eq_true (by omega)) | exact congrArg (fun b => Ending.returned (.bool b)) (decide_eq_false (by omega)) | exact congrArg (fun b => Ending.returned (.bool b)) (by simp <;> omega)
set_option maxRecDepth 100000 in
set_option maxHeartbeats 4000000 in
theorem rgood_2h (c e n l p pg sl : Int) (wu : Bool) (wd : ByteArray) (iu : Bool) (ix : ByteArray) (nx : Int) (C0 : ∀ w, Calls Try.prog 43 #[.agg #[.int .i64 c, .int .i64 e, .int .i64 n]] w fun r w' => r = .returned (.bool true) ∧ Below w.heap.size w w') (hl1 : 1 ≤ l) (hl2 : l ≤ 1099511627776) (hp0 : 0 ≤ p) (hp : p < l) (hg0 : 0 ≤ pg) (hg1 : pg ≤ 1023) (hs0 : 0 ≤ sl) (hs1 : sl ≤ 31) (C5 : ∀ w, Calls Try.prog 67 #[.agg #[.bool wu, .string wd]] w fun r w' => r = .returned (.bool true) ∧ Below w.heap.size w w') (C6 : ∀ w, Calls Try.prog 67 #[.agg #[.bool iu, .string ix]] w fun r w' => r = .returned (.bool true) ∧ Below w.heap.size w w') (hn : ((nx : Int) == 0) = false) (hn1 : nx < 0) (w : World) :
    Calls Try.prog 45 #[.agg #[.int .i64 2, .int .i64 c, .int .i64 e, .int .i64 n, .int .i64 l, .int .i64 p, .int .i64 pg, .int .i64 sl, .bool wu, .string wd, .bool iu, .string ix, .int .i64 nx]] w fun r w' => r = .returned (.bool false) ∧ Below w.heap.size w w' := by
  have C0 := Lib.hid C0
  have C5 := Lib.hid C5
  have C6 := Lib.hid C6
  go_enter Try.func45, Try.ntmps45
  go_wp2_with fail
  refine (C0.out _).mono ?_
  rintro e w1 ⟨rfl, g1⟩
  have B1 := bup (bnew w _) g1
  have X1 := (Has.new w _).below g1
  obtain ⟨a0, a1, a2, a3, a4, a5, a6, a7, a8, a9, a10, a11, a12⟩ := EntAt.of X1
  clear g1
  go_wp2_with fail
  refine (C5.out _).mono ?_
  rintro e w2 ⟨rfl, g2⟩
  have B2 := bup B1 g2
  have X2 := X1.below g2
  clear a0 a1 a2 a3 a4 a5 a6 a7 a8 a9 a10 a11 a12 g2
  obtain ⟨a0, a1, a2, a3, a4, a5, a6, a7, a8, a9, a10, a11, a12⟩ := EntAt.of X2
  go_wp2_with fail
  refine (C6.out _).mono ?_
  rintro e w3 ⟨rfl, g3⟩
  have B3 := bup B2 g3
  have X3 := X2.below g3
  clear a0 a1 a2 a3 a4 a5 a6 a7 a8 a9 a10 a11 a12 g3
  obtain ⟨a0, a1, a2, a3, a4, a5, a6, a7, a8, a9, a10, a11, a12⟩ := EntAt.of X3
  go_wp2_with fail
  go_ret
  refine ⟨?_, B3⟩
  first | rfl | exact congrArg (fun b => Ending.returned (.bool b)) (decide_eq_true (by omega)) | exact congrArg (fun b => Ending.returned (.bool b)) (decide_eq_false (by omega)) | exact congrArg (fun b => Ending.returned (.bool b)) (by simp <;> omega)
set_option maxRecDepth 100000 in
set_option maxHeartbeats 4000000 in
theorem rgood_2i (c e n l p pg sl : Int) (wu : Bool) (wd : ByteArray) (iu : Bool) (ix : ByteArray) (nx : Int) (C0 : ∀ w, Calls Try.prog 43 #[.agg #[.int .i64 c, .int .i64 e, .int .i64 n]] w fun r w' => r = .returned (.bool true) ∧ Below w.heap.size w w') (hl1 : 1 ≤ l) (hl2 : l ≤ 1099511627776) (hp0 : 0 ≤ p) (hp : p < l) (hg0 : 0 ≤ pg) (hg1 : pg ≤ 1023) (hs0 : 0 ≤ sl) (hs1 : sl ≤ 31) (C5 : ∀ w, Calls Try.prog 67 #[.agg #[.bool wu, .string wd]] w fun r w' => r = .returned (.bool true) ∧ Below w.heap.size w w') (C6 : ∀ w, Calls Try.prog 67 #[.agg #[.bool iu, .string ix]] w fun r w' => r = .returned (.bool true) ∧ Below w.heap.size w w') (hn : ((nx : Int) == 0) = false) (hn1 : 0 < nx) (hn2 : nx ≤ p) (w : World) :
    Calls Try.prog 45 #[.agg #[.int .i64 2, .int .i64 c, .int .i64 e, .int .i64 n, .int .i64 l, .int .i64 p, .int .i64 pg, .int .i64 sl, .bool wu, .string wd, .bool iu, .string ix, .int .i64 nx]] w fun r w' => r = .returned (.bool true) ∧ Below w.heap.size w w' := by
  have C0 := Lib.hid C0
  have C5 := Lib.hid C5
  have C6 := Lib.hid C6
  go_enter Try.func45, Try.ntmps45
  go_wp2_with fail
  refine (C0.out _).mono ?_
  rintro e w1 ⟨rfl, g1⟩
  have B1 := bup (bnew w _) g1
  have X1 := (Has.new w _).below g1
  obtain ⟨a0, a1, a2, a3, a4, a5, a6, a7, a8, a9, a10, a11, a12⟩ := EntAt.of X1
  clear g1
  go_wp2_with fail
  refine (C5.out _).mono ?_
  rintro e w2 ⟨rfl, g2⟩
  have B2 := bup B1 g2
  have X2 := X1.below g2
  clear a0 a1 a2 a3 a4 a5 a6 a7 a8 a9 a10 a11 a12 g2
  obtain ⟨a0, a1, a2, a3, a4, a5, a6, a7, a8, a9, a10, a11, a12⟩ := EntAt.of X2
  go_wp2_with fail
  refine (C6.out _).mono ?_
  rintro e w3 ⟨rfl, g3⟩
  have B3 := bup B2 g3
  have X3 := X2.below g3
  clear a0 a1 a2 a3 a4 a5 a6 a7 a8 a9 a10 a11 a12 g3
  obtain ⟨a0, a1, a2, a3, a4, a5, a6, a7, a8, a9, a10, a11, a12⟩ := EntAt.of X3
  go_wp2_with fail
  go_ret
  refine ⟨?_, B3⟩
  first | rfl | exact congrArg (fun b => Ending.returned (.bool b)) (decide_eq_true (by omega)) | exact congrArg (fun b => Ending.returned (.bool b)) (decide_eq_false (by omega)) | exact congrArg (fun b => Ending.returned (.bool b)) (by simp <;> omega)
set_option maxRecDepth 100000 in
set_option maxHeartbeats 4000000 in
theorem rgood_2j (c e n l p pg sl : Int) (wu : Bool) (wd : ByteArray) (iu : Bool) (ix : ByteArray) (nx : Int) (C0 : ∀ w, Calls Try.prog 43 #[.agg #[.int .i64 c, .int .i64 e, .int .i64 n]] w fun r w' => r = .returned (.bool true) ∧ Below w.heap.size w w') (hl1 : 1 ≤ l) (hl2 : l ≤ 1099511627776) (hp0 : 0 ≤ p) (hp : p < l) (hg0 : 0 ≤ pg) (hg1 : pg ≤ 1023) (hs0 : 0 ≤ sl) (hs1 : sl ≤ 31) (C5 : ∀ w, Calls Try.prog 67 #[.agg #[.bool wu, .string wd]] w fun r w' => r = .returned (.bool true) ∧ Below w.heap.size w w') (C6 : ∀ w, Calls Try.prog 67 #[.agg #[.bool iu, .string ix]] w fun r w' => r = .returned (.bool true) ∧ Below w.heap.size w w') (hn : ((nx : Int) == 0) = false) (hn1 : 0 < nx) (hn2 : p < nx) (w : World) :
    Calls Try.prog 45 #[.agg #[.int .i64 2, .int .i64 c, .int .i64 e, .int .i64 n, .int .i64 l, .int .i64 p, .int .i64 pg, .int .i64 sl, .bool wu, .string wd, .bool iu, .string ix, .int .i64 nx]] w fun r w' => r = .returned (.bool false) ∧ Below w.heap.size w w' := by
  have C0 := Lib.hid C0
  have C5 := Lib.hid C5
  have C6 := Lib.hid C6
  go_enter Try.func45, Try.ntmps45
  go_wp2_with fail
  refine (C0.out _).mono ?_
  rintro e w1 ⟨rfl, g1⟩
  have B1 := bup (bnew w _) g1
  have X1 := (Has.new w _).below g1
  obtain ⟨a0, a1, a2, a3, a4, a5, a6, a7, a8, a9, a10, a11, a12⟩ := EntAt.of X1
  clear g1
  go_wp2_with fail
  refine (C5.out _).mono ?_
  rintro e w2 ⟨rfl, g2⟩
  have B2 := bup B1 g2
  have X2 := X1.below g2
  clear a0 a1 a2 a3 a4 a5 a6 a7 a8 a9 a10 a11 a12 g2
  obtain ⟨a0, a1, a2, a3, a4, a5, a6, a7, a8, a9, a10, a11, a12⟩ := EntAt.of X2
  go_wp2_with fail
  refine (C6.out _).mono ?_
  rintro e w3 ⟨rfl, g3⟩
  have B3 := bup B2 g3
  have X3 := X2.below g3
  clear a0 a1 a2 a3 a4 a5 a6 a7 a8 a9 a10 a11 a12 g3
  obtain ⟨a0, a1, a2, a3, a4, a5, a6, a7, a8, a9, a10, a11, a12⟩ := EntAt.of X3
  go_wp2_with fail
  go_ret
  refine ⟨?_, B3⟩
  first | rfl | exact congrArg (fun b => Ending.returned (.bool b)) (decide_eq_true (by omega)) | exact congrArg (fun b => Ending.returned (.bool b)) (decide_eq_false (by omega)) | exact congrArg (fun b => Ending.returned (.bool b)) (by simp <;> omega)
set_option maxRecDepth 100000 in
set_option maxHeartbeats 4000000 in
theorem rgood_3a (c e n l p pg sl : Int) (wu : Bool) (wd : ByteArray) (iu : Bool) (ix : ByteArray) (nx : Int) (C0 : ∀ w, Calls Try.prog 43 #[.agg #[.int .i64 c, .int .i64 e, .int .i64 n]] w fun r w' => r = .returned (.bool true) ∧ Below w.heap.size w w') (hl1 : 1 ≤ l) (hl2 : l ≤ 1099511627776) (hp0 : 0 ≤ p) (hp : p < l) (z1 : ((pg : Int) == 0) = false) (w : World) :
    Calls Try.prog 45 #[.agg #[.int .i64 3, .int .i64 c, .int .i64 e, .int .i64 n, .int .i64 l, .int .i64 p, .int .i64 pg, .int .i64 sl, .bool wu, .string wd, .bool iu, .string ix, .int .i64 nx]] w fun r w' => r = .returned (.bool false) ∧ Below w.heap.size w w' := by
  have C0 := Lib.hid C0
  go_enter Try.func45, Try.ntmps45
  go_wp2_with fail
  refine (C0.out _).mono ?_
  rintro e w1 ⟨rfl, g1⟩
  have B1 := bup (bnew w _) g1
  have X1 := (Has.new w _).below g1
  obtain ⟨a0, a1, a2, a3, a4, a5, a6, a7, a8, a9, a10, a11, a12⟩ := EntAt.of X1
  clear g1
  go_upto_region 12 with (fail)
  generalize hw2 : World.alloc w1 _ = w2
  have N2 : Has w2 w1.heap.size (.cells #[.bool false, .string ⟨#[]⟩] 62) := by rw [← hw2]; exact Has.new w1 _
  have B2 : Below w.heap.size w w2 := by rw [← hw2]; exact bup B1 (bnew w1 _)
  have X2 := X1.below (show Below w1.heap.size w1 w2 by rw [← hw2]; exact bnew w1 _)
  have n0 := N2.cell 0 _ rfl
  have n1 := N2.cell 1 _ rfl
  clear a0 a1 a2 a3 a4 a5 a6 a7 a8 a9 a10 a11 a12 hw2
  obtain ⟨a0, a1, a2, a3, a4, a5, a6, a7, a8, a9, a10, a11, a12⟩ := EntAt.of X2
  go_wp2_with fail
  go_ret
  refine ⟨?_, B2⟩
  first | rfl | exact congrArg (fun b => Ending.returned (.bool b)) (decide_eq_true (by omega)) | exact congrArg (fun b => Ending.returned (.bool b)) (decide_eq_false (by omega)) | exact congrArg (fun b => Ending.returned (.bool b)) (by simp <;> omega)
set_option maxRecDepth 100000 in
set_option maxHeartbeats 4000000 in
theorem rgood_3b (c e n l p pg sl : Int) (wu : Bool) (wd : ByteArray) (iu : Bool) (ix : ByteArray) (nx : Int) (C0 : ∀ w, Calls Try.prog 43 #[.agg #[.int .i64 c, .int .i64 e, .int .i64 n]] w fun r w' => r = .returned (.bool true) ∧ Below w.heap.size w w') (hl1 : 1 ≤ l) (hl2 : l ≤ 1099511627776) (hp0 : 0 ≤ p) (hp : p < l) (z1 : ((pg : Int) == 0) = true) (z2 : ((sl : Int) == 0) = false) (w : World) :
    Calls Try.prog 45 #[.agg #[.int .i64 3, .int .i64 c, .int .i64 e, .int .i64 n, .int .i64 l, .int .i64 p, .int .i64 pg, .int .i64 sl, .bool wu, .string wd, .bool iu, .string ix, .int .i64 nx]] w fun r w' => r = .returned (.bool false) ∧ Below w.heap.size w w' := by
  have C0 := Lib.hid C0
  go_enter Try.func45, Try.ntmps45
  go_wp2_with fail
  refine (C0.out _).mono ?_
  rintro e w1 ⟨rfl, g1⟩
  have B1 := bup (bnew w _) g1
  have X1 := (Has.new w _).below g1
  obtain ⟨a0, a1, a2, a3, a4, a5, a6, a7, a8, a9, a10, a11, a12⟩ := EntAt.of X1
  clear g1
  go_upto_region 12 with (fail)
  generalize hw2 : World.alloc w1 _ = w2
  have N2 : Has w2 w1.heap.size (.cells #[.bool false, .string ⟨#[]⟩] 62) := by rw [← hw2]; exact Has.new w1 _
  have B2 : Below w.heap.size w w2 := by rw [← hw2]; exact bup B1 (bnew w1 _)
  have X2 := X1.below (show Below w1.heap.size w1 w2 by rw [← hw2]; exact bnew w1 _)
  have n0 := N2.cell 0 _ rfl
  have n1 := N2.cell 1 _ rfl
  clear a0 a1 a2 a3 a4 a5 a6 a7 a8 a9 a10 a11 a12 hw2
  obtain ⟨a0, a1, a2, a3, a4, a5, a6, a7, a8, a9, a10, a11, a12⟩ := EntAt.of X2
  go_wp2_with fail
  go_ret
  refine ⟨?_, B2⟩
  first | rfl | exact congrArg (fun b => Ending.returned (.bool b)) (decide_eq_true (by omega)) | exact congrArg (fun b => Ending.returned (.bool b)) (decide_eq_false (by omega)) | exact congrArg (fun b => Ending.returned (.bool b)) (by simp <;> omega)
set_option maxRecDepth 100000 in
set_option maxHeartbeats 4000000 in
theorem rgood_3c (c e n l p pg sl : Int) (wu : Bool) (wd : ByteArray) (iu : Bool) (ix : ByteArray) (nx : Int) (C0 : ∀ w, Calls Try.prog 43 #[.agg #[.int .i64 c, .int .i64 e, .int .i64 n]] w fun r w' => r = .returned (.bool true) ∧ Below w.heap.size w w') (hl1 : 1 ≤ l) (hl2 : l ≤ 1099511627776) (hp0 : 0 ≤ p) (hp : p < l) (z1 : ((pg : Int) == 0) = true) (z2 : ((sl : Int) == 0) = true) (z3 : ((nx : Int) == 0) = false) (w : World) :
    Calls Try.prog 45 #[.agg #[.int .i64 3, .int .i64 c, .int .i64 e, .int .i64 n, .int .i64 l, .int .i64 p, .int .i64 pg, .int .i64 sl, .bool wu, .string wd, .bool iu, .string ix, .int .i64 nx]] w fun r w' => r = .returned (.bool false) ∧ Below w.heap.size w w' := by
  have C0 := Lib.hid C0
  go_enter Try.func45, Try.ntmps45
  go_wp2_with fail
  refine (C0.out _).mono ?_
  rintro e w1 ⟨rfl, g1⟩
  have B1 := bup (bnew w _) g1
  have X1 := (Has.new w _).below g1
  obtain ⟨a0, a1, a2, a3, a4, a5, a6, a7, a8, a9, a10, a11, a12⟩ := EntAt.of X1
  clear g1
  go_upto_region 12 with (fail)
  generalize hw2 : World.alloc w1 _ = w2
  have N2 : Has w2 w1.heap.size (.cells #[.bool false, .string ⟨#[]⟩] 62) := by rw [← hw2]; exact Has.new w1 _
  have B2 : Below w.heap.size w w2 := by rw [← hw2]; exact bup B1 (bnew w1 _)
  have X2 := X1.below (show Below w1.heap.size w1 w2 by rw [← hw2]; exact bnew w1 _)
  have n0 := N2.cell 0 _ rfl
  have n1 := N2.cell 1 _ rfl
  clear a0 a1 a2 a3 a4 a5 a6 a7 a8 a9 a10 a11 a12 hw2
  obtain ⟨a0, a1, a2, a3, a4, a5, a6, a7, a8, a9, a10, a11, a12⟩ := EntAt.of X2
  go_wp2_with fail
  go_ret
  refine ⟨?_, B2⟩
  first | rfl | exact congrArg (fun b => Ending.returned (.bool b)) (decide_eq_true (by omega)) | exact congrArg (fun b => Ending.returned (.bool b)) (decide_eq_false (by omega)) | exact congrArg (fun b => Ending.returned (.bool b)) (by simp <;> omega)
set_option maxRecDepth 100000 in
set_option maxHeartbeats 4000000 in
theorem rgood_3d (c e n l p pg sl : Int) (wu : Bool) (wd : ByteArray) (iu : Bool) (ix : ByteArray) (nx : Int) (C0 : ∀ w, Calls Try.prog 43 #[.agg #[.int .i64 c, .int .i64 e, .int .i64 n]] w fun r w' => r = .returned (.bool true) ∧ Below w.heap.size w w') (hl1 : 1 ≤ l) (hl2 : l ≤ 1099511627776) (hp0 : 0 ≤ p) (hp : p < l) (z1 : ((pg : Int) == 0) = true) (z2 : ((sl : Int) == 0) = true) (z3 : ((nx : Int) == 0) = true) (E5 : ∀ w, (binOp .eql 62 (.agg #[.bool wu, .string wd]) (.agg #[.bool false, .string ⟨#[]⟩])).run Try.prog w = .ok (.bool false) w) (w : World) :
    Calls Try.prog 45 #[.agg #[.int .i64 3, .int .i64 c, .int .i64 e, .int .i64 n, .int .i64 l, .int .i64 p, .int .i64 pg, .int .i64 sl, .bool wu, .string wd, .bool iu, .string ix, .int .i64 nx]] w fun r w' => r = .returned (.bool false) ∧ Below w.heap.size w w' := by
  have C0 := Lib.hid C0
  go_enter Try.func45, Try.ntmps45
  go_wp2_with fail
  refine (C0.out _).mono ?_
  rintro e w1 ⟨rfl, g1⟩
  have B1 := bup (bnew w _) g1
  have X1 := (Has.new w _).below g1
  obtain ⟨a0, a1, a2, a3, a4, a5, a6, a7, a8, a9, a10, a11, a12⟩ := EntAt.of X1
  clear g1
  go_upto_region 12 with (fail)
  generalize hw2 : World.alloc w1 _ = w2
  have N2 : Has w2 w1.heap.size (.cells #[.bool false, .string ⟨#[]⟩] 62) := by rw [← hw2]; exact Has.new w1 _
  have B2 : Below w.heap.size w w2 := by rw [← hw2]; exact bup B1 (bnew w1 _)
  have X2 := X1.below (show Below w1.heap.size w1 w2 by rw [← hw2]; exact bnew w1 _)
  have n0 := N2.cell 0 _ rfl
  have n1 := N2.cell 1 _ rfl
  clear a0 a1 a2 a3 a4 a5 a6 a7 a8 a9 a10 a11 a12 hw2
  obtain ⟨a0, a1, a2, a3, a4, a5, a6, a7, a8, a9, a10, a11, a12⟩ := EntAt.of X2
  go_wp2_with fail
  go_ret
  refine ⟨?_, B2⟩
  first | rfl | exact congrArg (fun b => Ending.returned (.bool b)) (decide_eq_true (by omega)) | exact congrArg (fun b => Ending.returned (.bool b)) (decide_eq_false (by omega)) | exact congrArg (fun b => Ending.returned (.bool b)) (by simp <;> omega)
set_option maxRecDepth 100000 in
set_option maxHeartbeats 4000000 in
theorem rgood_3e (c e n l p pg sl : Int) (wu : Bool) (wd : ByteArray) (iu : Bool) (ix : ByteArray) (nx : Int) (C0 : ∀ w, Calls Try.prog 43 #[.agg #[.int .i64 c, .int .i64 e, .int .i64 n]] w fun r w' => r = .returned (.bool true) ∧ Below w.heap.size w w') (hl1 : 1 ≤ l) (hl2 : l ≤ 1099511627776) (hp0 : 0 ≤ p) (hp : p < l) (z1 : ((pg : Int) == 0) = true) (z2 : ((sl : Int) == 0) = true) (z3 : ((nx : Int) == 0) = true) (E5 : ∀ w, (binOp .eql 62 (.agg #[.bool wu, .string wd]) (.agg #[.bool false, .string ⟨#[]⟩])).run Try.prog w = .ok (.bool true) w) (E6 : ∀ w, (binOp .eql 62 (.agg #[.bool iu, .string ix]) (.agg #[.bool false, .string ⟨#[]⟩])).run Try.prog w = .ok (.bool false) w) (w : World) :
    Calls Try.prog 45 #[.agg #[.int .i64 3, .int .i64 c, .int .i64 e, .int .i64 n, .int .i64 l, .int .i64 p, .int .i64 pg, .int .i64 sl, .bool wu, .string wd, .bool iu, .string ix, .int .i64 nx]] w fun r w' => r = .returned (.bool false) ∧ Below w.heap.size w w' := by
  have C0 := Lib.hid C0
  go_enter Try.func45, Try.ntmps45
  go_wp2_with fail
  refine (C0.out _).mono ?_
  rintro e w1 ⟨rfl, g1⟩
  have B1 := bup (bnew w _) g1
  have X1 := (Has.new w _).below g1
  obtain ⟨a0, a1, a2, a3, a4, a5, a6, a7, a8, a9, a10, a11, a12⟩ := EntAt.of X1
  clear g1
  go_upto_region 12 with (fail)
  generalize hw2 : World.alloc w1 _ = w2
  have N2 : Has w2 w1.heap.size (.cells #[.bool false, .string ⟨#[]⟩] 62) := by rw [← hw2]; exact Has.new w1 _
  have B2 : Below w.heap.size w w2 := by rw [← hw2]; exact bup B1 (bnew w1 _)
  have X2 := X1.below (show Below w1.heap.size w1 w2 by rw [← hw2]; exact bnew w1 _)
  have n0 := N2.cell 0 _ rfl
  have n1 := N2.cell 1 _ rfl
  clear a0 a1 a2 a3 a4 a5 a6 a7 a8 a9 a10 a11 a12 hw2
  obtain ⟨a0, a1, a2, a3, a4, a5, a6, a7, a8, a9, a10, a11, a12⟩ := EntAt.of X2
  go_wp2_with fail
  go_ret
  refine ⟨?_, B2⟩
  first | rfl | exact congrArg (fun b => Ending.returned (.bool b)) (decide_eq_true (by omega)) | exact congrArg (fun b => Ending.returned (.bool b)) (decide_eq_false (by omega)) | exact congrArg (fun b => Ending.returned (.bool b)) (by simp <;> omega)
set_option maxRecDepth 100000 in
set_option maxHeartbeats 4000000 in
theorem rgood_3f (c e n l p pg sl : Int) (wu : Bool) (wd : ByteArray) (iu : Bool) (ix : ByteArray) (nx : Int) (C0 : ∀ w, Calls Try.prog 43 #[.agg #[.int .i64 c, .int .i64 e, .int .i64 n]] w fun r w' => r = .returned (.bool true) ∧ Below w.heap.size w w') (hl1 : 1 ≤ l) (hl2 : l ≤ 1099511627776) (hp0 : 0 ≤ p) (hp : p < l) (z1 : ((pg : Int) == 0) = true) (z2 : ((sl : Int) == 0) = true) (z3 : ((nx : Int) == 0) = true) (E5 : ∀ w, (binOp .eql 62 (.agg #[.bool wu, .string wd]) (.agg #[.bool false, .string ⟨#[]⟩])).run Try.prog w = .ok (.bool true) w) (E6 : ∀ w, (binOp .eql 62 (.agg #[.bool iu, .string ix]) (.agg #[.bool false, .string ⟨#[]⟩])).run Try.prog w = .ok (.bool true) w) (w : World) :
    Calls Try.prog 45 #[.agg #[.int .i64 3, .int .i64 c, .int .i64 e, .int .i64 n, .int .i64 l, .int .i64 p, .int .i64 pg, .int .i64 sl, .bool wu, .string wd, .bool iu, .string ix, .int .i64 nx]] w fun r w' => r = .returned (.bool true) ∧ Below w.heap.size w w' := by
  have C0 := Lib.hid C0
  go_enter Try.func45, Try.ntmps45
  go_wp2_with fail
  refine (C0.out _).mono ?_
  rintro e w1 ⟨rfl, g1⟩
  have B1 := bup (bnew w _) g1
  have X1 := (Has.new w _).below g1
  obtain ⟨a0, a1, a2, a3, a4, a5, a6, a7, a8, a9, a10, a11, a12⟩ := EntAt.of X1
  clear g1
  go_upto_region 12 with (fail)
  generalize hw2 : World.alloc w1 _ = w2
  have N2 : Has w2 w1.heap.size (.cells #[.bool false, .string ⟨#[]⟩] 62) := by rw [← hw2]; exact Has.new w1 _
  have B2 : Below w.heap.size w w2 := by rw [← hw2]; exact bup B1 (bnew w1 _)
  have X2 := X1.below (show Below w1.heap.size w1 w2 by rw [← hw2]; exact bnew w1 _)
  have n0 := N2.cell 0 _ rfl
  have n1 := N2.cell 1 _ rfl
  clear a0 a1 a2 a3 a4 a5 a6 a7 a8 a9 a10 a11 a12 hw2
  obtain ⟨a0, a1, a2, a3, a4, a5, a6, a7, a8, a9, a10, a11, a12⟩ := EntAt.of X2
  go_wp2_with fail
  go_ret
  refine ⟨?_, B2⟩
  first | rfl | exact congrArg (fun b => Ending.returned (.bool b)) (decide_eq_true (by omega)) | exact congrArg (fun b => Ending.returned (.bool b)) (decide_eq_false (by omega)) | exact congrArg (fun b => Ending.returned (.bool b)) (by simp <;> omega)
set_option maxRecDepth 100000 in
set_option maxHeartbeats 4000000 in
theorem rgood_4a (c e n l p pg sl : Int) (wu : Bool) (wd : ByteArray) (iu : Bool) (ix : ByteArray) (nx : Int) (C0 : ∀ w, Calls Try.prog 43 #[.agg #[.int .i64 c, .int .i64 e, .int .i64 n]] w fun r w' => r = .returned (.bool true) ∧ Below w.heap.size w w') (hl1 : 1 ≤ l) (hl2 : l ≤ 1099511627776) (hp0 : 0 ≤ p) (hp : p < l) (z1 : ((pg : Int) == 0) = false) (w : World) :
    Calls Try.prog 45 #[.agg #[.int .i64 4, .int .i64 c, .int .i64 e, .int .i64 n, .int .i64 l, .int .i64 p, .int .i64 pg, .int .i64 sl, .bool wu, .string wd, .bool iu, .string ix, .int .i64 nx]] w fun r w' => r = .returned (.bool false) ∧ Below w.heap.size w w' := by
  have C0 := Lib.hid C0
  go_enter Try.func45, Try.ntmps45
  go_wp2_with fail
  refine (C0.out _).mono ?_
  rintro e w1 ⟨rfl, g1⟩
  have B1 := bup (bnew w _) g1
  have X1 := (Has.new w _).below g1
  obtain ⟨a0, a1, a2, a3, a4, a5, a6, a7, a8, a9, a10, a11, a12⟩ := EntAt.of X1
  clear g1
  go_upto_region 12 with (fail)
  generalize hw2 : World.alloc w1 _ = w2
  have N2 : Has w2 w1.heap.size (.cells #[.bool false, .string ⟨#[]⟩] 62) := by rw [← hw2]; exact Has.new w1 _
  have B2 : Below w.heap.size w w2 := by rw [← hw2]; exact bup B1 (bnew w1 _)
  have X2 := X1.below (show Below w1.heap.size w1 w2 by rw [← hw2]; exact bnew w1 _)
  have n0 := N2.cell 0 _ rfl
  have n1 := N2.cell 1 _ rfl
  clear a0 a1 a2 a3 a4 a5 a6 a7 a8 a9 a10 a11 a12 hw2
  obtain ⟨a0, a1, a2, a3, a4, a5, a6, a7, a8, a9, a10, a11, a12⟩ := EntAt.of X2
  go_wp2_with fail
  go_ret
  refine ⟨?_, B2⟩
  first | rfl | exact congrArg (fun b => Ending.returned (.bool b)) (decide_eq_true (by omega)) | exact congrArg (fun b => Ending.returned (.bool b)) (decide_eq_false (by omega)) | exact congrArg (fun b => Ending.returned (.bool b)) (by simp <;> omega)
set_option maxRecDepth 100000 in
set_option maxHeartbeats 4000000 in
theorem rgood_4b (c e n l p pg sl : Int) (wu : Bool) (wd : ByteArray) (iu : Bool) (ix : ByteArray) (nx : Int) (C0 : ∀ w, Calls Try.prog 43 #[.agg #[.int .i64 c, .int .i64 e, .int .i64 n]] w fun r w' => r = .returned (.bool true) ∧ Below w.heap.size w w') (hl1 : 1 ≤ l) (hl2 : l ≤ 1099511627776) (hp0 : 0 ≤ p) (hp : p < l) (z1 : ((pg : Int) == 0) = true) (z2 : ((sl : Int) == 0) = false) (w : World) :
    Calls Try.prog 45 #[.agg #[.int .i64 4, .int .i64 c, .int .i64 e, .int .i64 n, .int .i64 l, .int .i64 p, .int .i64 pg, .int .i64 sl, .bool wu, .string wd, .bool iu, .string ix, .int .i64 nx]] w fun r w' => r = .returned (.bool false) ∧ Below w.heap.size w w' := by
  have C0 := Lib.hid C0
  go_enter Try.func45, Try.ntmps45
  go_wp2_with fail
  refine (C0.out _).mono ?_
  rintro e w1 ⟨rfl, g1⟩
  have B1 := bup (bnew w _) g1
  have X1 := (Has.new w _).below g1
  obtain ⟨a0, a1, a2, a3, a4, a5, a6, a7, a8, a9, a10, a11, a12⟩ := EntAt.of X1
  clear g1
  go_upto_region 12 with (fail)
  generalize hw2 : World.alloc w1 _ = w2
  have N2 : Has w2 w1.heap.size (.cells #[.bool false, .string ⟨#[]⟩] 62) := by rw [← hw2]; exact Has.new w1 _
  have B2 : Below w.heap.size w w2 := by rw [← hw2]; exact bup B1 (bnew w1 _)
  have X2 := X1.below (show Below w1.heap.size w1 w2 by rw [← hw2]; exact bnew w1 _)
  have n0 := N2.cell 0 _ rfl
  have n1 := N2.cell 1 _ rfl
  clear a0 a1 a2 a3 a4 a5 a6 a7 a8 a9 a10 a11 a12 hw2
  obtain ⟨a0, a1, a2, a3, a4, a5, a6, a7, a8, a9, a10, a11, a12⟩ := EntAt.of X2
  go_wp2_with fail
  go_ret
  refine ⟨?_, B2⟩
  first | rfl | exact congrArg (fun b => Ending.returned (.bool b)) (decide_eq_true (by omega)) | exact congrArg (fun b => Ending.returned (.bool b)) (decide_eq_false (by omega)) | exact congrArg (fun b => Ending.returned (.bool b)) (by simp <;> omega)
set_option maxRecDepth 100000 in
set_option maxHeartbeats 4000000 in
theorem rgood_4c (c e n l p pg sl : Int) (wu : Bool) (wd : ByteArray) (iu : Bool) (ix : ByteArray) (nx : Int) (C0 : ∀ w, Calls Try.prog 43 #[.agg #[.int .i64 c, .int .i64 e, .int .i64 n]] w fun r w' => r = .returned (.bool true) ∧ Below w.heap.size w w') (hl1 : 1 ≤ l) (hl2 : l ≤ 1099511627776) (hp0 : 0 ≤ p) (hp : p < l) (z1 : ((pg : Int) == 0) = true) (z2 : ((sl : Int) == 0) = true) (z3 : ((nx : Int) == 0) = false) (w : World) :
    Calls Try.prog 45 #[.agg #[.int .i64 4, .int .i64 c, .int .i64 e, .int .i64 n, .int .i64 l, .int .i64 p, .int .i64 pg, .int .i64 sl, .bool wu, .string wd, .bool iu, .string ix, .int .i64 nx]] w fun r w' => r = .returned (.bool false) ∧ Below w.heap.size w w' := by
  have C0 := Lib.hid C0
  go_enter Try.func45, Try.ntmps45
  go_wp2_with fail
  refine (C0.out _).mono ?_
  rintro e w1 ⟨rfl, g1⟩
  have B1 := bup (bnew w _) g1
  have X1 := (Has.new w _).below g1
  obtain ⟨a0, a1, a2, a3, a4, a5, a6, a7, a8, a9, a10, a11, a12⟩ := EntAt.of X1
  clear g1
  go_upto_region 12 with (fail)
  generalize hw2 : World.alloc w1 _ = w2
  have N2 : Has w2 w1.heap.size (.cells #[.bool false, .string ⟨#[]⟩] 62) := by rw [← hw2]; exact Has.new w1 _
  have B2 : Below w.heap.size w w2 := by rw [← hw2]; exact bup B1 (bnew w1 _)
  have X2 := X1.below (show Below w1.heap.size w1 w2 by rw [← hw2]; exact bnew w1 _)
  have n0 := N2.cell 0 _ rfl
  have n1 := N2.cell 1 _ rfl
  clear a0 a1 a2 a3 a4 a5 a6 a7 a8 a9 a10 a11 a12 hw2
  obtain ⟨a0, a1, a2, a3, a4, a5, a6, a7, a8, a9, a10, a11, a12⟩ := EntAt.of X2
  go_wp2_with fail
  go_ret
  refine ⟨?_, B2⟩
  first | rfl | exact congrArg (fun b => Ending.returned (.bool b)) (decide_eq_true (by omega)) | exact congrArg (fun b => Ending.returned (.bool b)) (decide_eq_false (by omega)) | exact congrArg (fun b => Ending.returned (.bool b)) (by simp <;> omega)
set_option maxRecDepth 100000 in
set_option maxHeartbeats 4000000 in
theorem rgood_4d (c e n l p pg sl : Int) (wu : Bool) (wd : ByteArray) (iu : Bool) (ix : ByteArray) (nx : Int) (C0 : ∀ w, Calls Try.prog 43 #[.agg #[.int .i64 c, .int .i64 e, .int .i64 n]] w fun r w' => r = .returned (.bool true) ∧ Below w.heap.size w w') (hl1 : 1 ≤ l) (hl2 : l ≤ 1099511627776) (hp0 : 0 ≤ p) (hp : p < l) (z1 : ((pg : Int) == 0) = true) (z2 : ((sl : Int) == 0) = true) (z3 : ((nx : Int) == 0) = true) (E5 : ∀ w, (binOp .eql 62 (.agg #[.bool wu, .string wd]) (.agg #[.bool false, .string ⟨#[]⟩])).run Try.prog w = .ok (.bool false) w) (w : World) :
    Calls Try.prog 45 #[.agg #[.int .i64 4, .int .i64 c, .int .i64 e, .int .i64 n, .int .i64 l, .int .i64 p, .int .i64 pg, .int .i64 sl, .bool wu, .string wd, .bool iu, .string ix, .int .i64 nx]] w fun r w' => r = .returned (.bool false) ∧ Below w.heap.size w w' := by
  have C0 := Lib.hid C0
  go_enter Try.func45, Try.ntmps45
  go_wp2_with fail
  refine (C0.out _).mono ?_
  rintro e w1 ⟨rfl, g1⟩
  have B1 := bup (bnew w _) g1
  have X1 := (Has.new w _).below g1
  obtain ⟨a0, a1, a2, a3, a4, a5, a6, a7, a8, a9, a10, a11, a12⟩ := EntAt.of X1
  clear g1
  go_upto_region 12 with (fail)
  generalize hw2 : World.alloc w1 _ = w2
  have N2 : Has w2 w1.heap.size (.cells #[.bool false, .string ⟨#[]⟩] 62) := by rw [← hw2]; exact Has.new w1 _
  have B2 : Below w.heap.size w w2 := by rw [← hw2]; exact bup B1 (bnew w1 _)
  have X2 := X1.below (show Below w1.heap.size w1 w2 by rw [← hw2]; exact bnew w1 _)
  have n0 := N2.cell 0 _ rfl
  have n1 := N2.cell 1 _ rfl
  clear a0 a1 a2 a3 a4 a5 a6 a7 a8 a9 a10 a11 a12 hw2
  obtain ⟨a0, a1, a2, a3, a4, a5, a6, a7, a8, a9, a10, a11, a12⟩ := EntAt.of X2
  go_wp2_with fail
  go_ret
  refine ⟨?_, B2⟩
  first | rfl | exact congrArg (fun b => Ending.returned (.bool b)) (decide_eq_true (by omega)) | exact congrArg (fun b => Ending.returned (.bool b)) (decide_eq_false (by omega)) | exact congrArg (fun b => Ending.returned (.bool b)) (by simp <;> omega)
set_option maxRecDepth 100000 in
set_option maxHeartbeats 4000000 in
theorem rgood_4e (c e n l p pg sl : Int) (wu : Bool) (wd : ByteArray) (iu : Bool) (ix : ByteArray) (nx : Int) (C0 : ∀ w, Calls Try.prog 43 #[.agg #[.int .i64 c, .int .i64 e, .int .i64 n]] w fun r w' => r = .returned (.bool true) ∧ Below w.heap.size w w') (hl1 : 1 ≤ l) (hl2 : l ≤ 1099511627776) (hp0 : 0 ≤ p) (hp : p < l) (z1 : ((pg : Int) == 0) = true) (z2 : ((sl : Int) == 0) = true) (z3 : ((nx : Int) == 0) = true) (E5 : ∀ w, (binOp .eql 62 (.agg #[.bool wu, .string wd]) (.agg #[.bool false, .string ⟨#[]⟩])).run Try.prog w = .ok (.bool true) w) (E6 : ∀ w, (binOp .eql 62 (.agg #[.bool iu, .string ix]) (.agg #[.bool false, .string ⟨#[]⟩])).run Try.prog w = .ok (.bool false) w) (w : World) :
    Calls Try.prog 45 #[.agg #[.int .i64 4, .int .i64 c, .int .i64 e, .int .i64 n, .int .i64 l, .int .i64 p, .int .i64 pg, .int .i64 sl, .bool wu, .string wd, .bool iu, .string ix, .int .i64 nx]] w fun r w' => r = .returned (.bool false) ∧ Below w.heap.size w w' := by
  have C0 := Lib.hid C0
  go_enter Try.func45, Try.ntmps45
  go_wp2_with fail
  refine (C0.out _).mono ?_
  rintro e w1 ⟨rfl, g1⟩
  have B1 := bup (bnew w _) g1
  have X1 := (Has.new w _).below g1
  obtain ⟨a0, a1, a2, a3, a4, a5, a6, a7, a8, a9, a10, a11, a12⟩ := EntAt.of X1
  clear g1
  go_upto_region 12 with (fail)
  generalize hw2 : World.alloc w1 _ = w2
  have N2 : Has w2 w1.heap.size (.cells #[.bool false, .string ⟨#[]⟩] 62) := by rw [← hw2]; exact Has.new w1 _
  have B2 : Below w.heap.size w w2 := by rw [← hw2]; exact bup B1 (bnew w1 _)
  have X2 := X1.below (show Below w1.heap.size w1 w2 by rw [← hw2]; exact bnew w1 _)
  have n0 := N2.cell 0 _ rfl
  have n1 := N2.cell 1 _ rfl
  clear a0 a1 a2 a3 a4 a5 a6 a7 a8 a9 a10 a11 a12 hw2
  obtain ⟨a0, a1, a2, a3, a4, a5, a6, a7, a8, a9, a10, a11, a12⟩ := EntAt.of X2
  go_wp2_with fail
  go_ret
  refine ⟨?_, B2⟩
  first | rfl | exact congrArg (fun b => Ending.returned (.bool b)) (decide_eq_true (by omega)) | exact congrArg (fun b => Ending.returned (.bool b)) (decide_eq_false (by omega)) | exact congrArg (fun b => Ending.returned (.bool b)) (by simp <;> omega)
set_option maxRecDepth 100000 in
set_option maxHeartbeats 4000000 in
theorem rgood_4f (c e n l p pg sl : Int) (wu : Bool) (wd : ByteArray) (iu : Bool) (ix : ByteArray) (nx : Int) (C0 : ∀ w, Calls Try.prog 43 #[.agg #[.int .i64 c, .int .i64 e, .int .i64 n]] w fun r w' => r = .returned (.bool true) ∧ Below w.heap.size w w') (hl1 : 1 ≤ l) (hl2 : l ≤ 1099511627776) (hp0 : 0 ≤ p) (hp : p < l) (z1 : ((pg : Int) == 0) = true) (z2 : ((sl : Int) == 0) = true) (z3 : ((nx : Int) == 0) = true) (E5 : ∀ w, (binOp .eql 62 (.agg #[.bool wu, .string wd]) (.agg #[.bool false, .string ⟨#[]⟩])).run Try.prog w = .ok (.bool true) w) (E6 : ∀ w, (binOp .eql 62 (.agg #[.bool iu, .string ix]) (.agg #[.bool false, .string ⟨#[]⟩])).run Try.prog w = .ok (.bool true) w) (w : World) :
    Calls Try.prog 45 #[.agg #[.int .i64 4, .int .i64 c, .int .i64 e, .int .i64 n, .int .i64 l, .int .i64 p, .int .i64 pg, .int .i64 sl, .bool wu, .string wd, .bool iu, .string ix, .int .i64 nx]] w fun r w' => r = .returned (.bool true) ∧ Below w.heap.size w w' := by
  have C0 := Lib.hid C0
  go_enter Try.func45, Try.ntmps45
  go_wp2_with fail
  refine (C0.out _).mono ?_
  rintro e w1 ⟨rfl, g1⟩
  have B1 := bup (bnew w _) g1
  have X1 := (Has.new w _).below g1
  obtain ⟨a0, a1, a2, a3, a4, a5, a6, a7, a8, a9, a10, a11, a12⟩ := EntAt.of X1
  clear g1
  go_upto_region 12 with (fail)
  generalize hw2 : World.alloc w1 _ = w2
  have N2 : Has w2 w1.heap.size (.cells #[.bool false, .string ⟨#[]⟩] 62) := by rw [← hw2]; exact Has.new w1 _
  have B2 : Below w.heap.size w w2 := by rw [← hw2]; exact bup B1 (bnew w1 _)
  have X2 := X1.below (show Below w1.heap.size w1 w2 by rw [← hw2]; exact bnew w1 _)
  have n0 := N2.cell 0 _ rfl
  have n1 := N2.cell 1 _ rfl
  clear a0 a1 a2 a3 a4 a5 a6 a7 a8 a9 a10 a11 a12 hw2
  obtain ⟨a0, a1, a2, a3, a4, a5, a6, a7, a8, a9, a10, a11, a12⟩ := EntAt.of X2
  go_wp2_with fail
  go_ret
  refine ⟨?_, B2⟩
  first | rfl | exact congrArg (fun b => Ending.returned (.bool b)) (decide_eq_true (by omega)) | exact congrArg (fun b => Ending.returned (.bool b)) (decide_eq_false (by omega)) | exact congrArg (fun b => Ending.returned (.bool b)) (by simp <;> omega)
set_option maxRecDepth 100000 in
set_option maxHeartbeats 4000000 in
theorem rgood_z (k : Int) (c e n l p pg sl : Int) (wu : Bool) (wd : ByteArray) (iu : Bool) (ix : ByteArray) (nx : Int) (C0 : ∀ w, Calls Try.prog 43 #[.agg #[.int .i64 c, .int .i64 e, .int .i64 n]] w fun r w' => r = .returned (.bool true) ∧ Below w.heap.size w w') (hl1 : 1 ≤ l) (hl2 : l ≤ 1099511627776) (hp0 : 0 ≤ p) (hp : p < l) (k1 : ((k : Int) == 1) = false) (k2 : ((k : Int) == 2) = false) (k3 : ((k : Int) == 3) = false) (k4 : ((k : Int) == 4) = false) (w : World) :
    Calls Try.prog 45 #[.agg #[.int .i64 k, .int .i64 c, .int .i64 e, .int .i64 n, .int .i64 l, .int .i64 p, .int .i64 pg, .int .i64 sl, .bool wu, .string wd, .bool iu, .string ix, .int .i64 nx]] w fun r w' => r = .returned (.bool false) ∧ Below w.heap.size w w' := by
  have C0 := Lib.hid C0
  go_enter Try.func45, Try.ntmps45
  go_wp2_with fail
  refine (C0.out _).mono ?_
  rintro e w1 ⟨rfl, g1⟩
  have B1 := bup (bnew w _) g1
  have X1 := (Has.new w _).below g1
  obtain ⟨a0, a1, a2, a3, a4, a5, a6, a7, a8, a9, a10, a11, a12⟩ := EntAt.of X1
  clear g1
  go_wp2_with fail
  go_ret
  refine ⟨?_, B1⟩
  first | rfl | exact congrArg (fun b => Ending.returned (.bool b)) (decide_eq_true (by omega)) | exact congrArg (fun b => Ending.returned (.bool b)) (decide_eq_false (by omega)) | exact congrArg (fun b => Ending.returned (.bool b)) (by simp <;> omega)

theorem rgood04_any (x : Ent) (hw : x.wd.size ≤ 9223372036854775807) (hi : x.ix.size ≤ 9223372036854775807) (w : World) :
    Calls Try.prog 45 #[x.val] w fun r w' => r = .returned (.bool x.good) ∧ Below w.heap.size w w' := by
  obtain ⟨k, c, e, n, l, p, pg, sl, wu, wd, iu, ix, nx⟩ := x
  have C0 := refKnown_any c e n
  have C5 := refSlot_any wu wd hw
  have C6 := refSlot_any iu ix hi
  have E5 := fun w => entSlotEqBin wu false wd ⟨#[]⟩ w
  have E6 := fun w => entSlotEqBin iu false ix ⟨#[]⟩ w
  have he : ∀ d : ByteArray, (d.toList == (⟨#[]⟩ : ByteArray).toList) = d.toList.isEmpty := by
    intro d
    have : (⟨#[]⟩ : ByteArray).toList = [] := by decide +kernel
    rw [this]
    cases d.toList <;> rfl
  have hb : ∀ {a b : Int}, a = b → (a == b) = true := fun h => by simp [h]
  have hb' : ∀ {a b : Int}, ¬ a = b → (a == b) = false := fun h => by simp [h]
  have fin : ∀ {b : Bool}, Ent.good ⟨k, c, e, n, l, p, pg, sl, wu, wd, iu, ix, nx⟩ = b → Calls Try.prog 45 #[Ent.val ⟨k, c, e, n, l, p, pg, sl, wu, wd, iu, ix, nx⟩] w (fun r w' => r = .returned (.bool b) ∧ Below w.heap.size w w') → Calls Try.prog 45 #[Ent.val ⟨k, c, e, n, l, p, pg, sl, wu, wd, iu, ix, nx⟩] w (fun r w' => r = .returned (.bool (Ent.good ⟨k, c, e, n, l, p, pg, sl, wu, wd, iu, ix, nx⟩)) ∧ Below w.heap.size w w') := fun h g => by rw [h]; exact g
  cases b0 : knownB c e n
  case false => rw [b0] at C0; exact fin (by simp [Ent.good, Ent.known, b0]) (rgood_e0 k c e n l p pg sl wu wd iu ix nx C0 w)
  rw [b0] at C0
  by_cases h1 : l < 1
  · exact fin (by simp only [Ent.good, Ent.lsnB]; rw [decide_eq_false (by omega)]; simp) (rgood_e1 k c e n l p pg sl wu wd iu ix nx C0 h1 w)
  have h1 : 1 ≤ l := by omega
  by_cases h2 : 1099511627776 < l
  · exact fin (by simp only [Ent.good, Ent.lsnB]; rw [decide_eq_false (by omega)]; simp) (rgood_e2 k c e n l p pg sl wu wd iu ix nx C0 h1 h2 w)
  have h2 : l ≤ 1099511627776 := by omega
  by_cases h3 : p < 0
  · exact fin (by simp only [Ent.good, Ent.prevB]; rw [decide_eq_false (p := 0 ≤ p ∧ p ≤ l - 1) (by omega)]; simp) (rgood_e3 k c e n l p pg sl wu wd iu ix nx C0 h1 h2 h3 w)
  have h3 : 0 ≤ p := by omega
  by_cases h4 : l ≤ p
  · exact fin (by simp only [Ent.good, Ent.prevB]; rw [decide_eq_false (p := 0 ≤ p ∧ p ≤ l - 1) (by omega)]; simp) (rgood_e4 k c e n l p pg sl wu wd iu ix nx C0 h1 h2 h3 h4 w)
  have h4 : p < l := by omega
  have hp : ∀ R : Bool, ((Ent.known ⟨k, c, e, n, l, p, pg, sl, wu, wd, iu, ix, nx⟩ && (Ent.lsnB ⟨k, c, e, n, l, p, pg, sl, wu, wd, iu, ix, nx⟩ && Ent.prevB ⟨k, c, e, n, l, p, pg, sl, wu, wd, iu, ix, nx⟩)) && R) = R := by
    intro R
    simp only [Ent.known, Ent.lsnB, Ent.prevB, b0, decide_eq_true (And.intro h1 h2), decide_eq_true (show 0 ≤ p ∧ p ≤ l - 1 by omega)]
    simp
  by_cases k1 : k = 1
  · subst k1
    by_cases g1 : pg < 0
    · exact fin (by unfold Ent.good; rw [hp]; simp [Ent.changeB, Ent.pageB, show ¬ 0 ≤ pg by omega]) (rgood_1a c e n l p pg sl wu wd iu ix nx C0 h1 h2 h3 h4 g1 w)
    have g1 : 0 ≤ pg := by omega
    by_cases g2 : 1023 < pg
    · exact fin (by unfold Ent.good; rw [hp]; simp [Ent.changeB, Ent.pageB, show ¬ pg ≤ 1023 by omega]) (rgood_1b c e n l p pg sl wu wd iu ix nx C0 h1 h2 h3 h4 g1 g2 w)
    have g2 : pg ≤ 1023 := by omega
    by_cases g3 : sl < 0
    · exact fin (by unfold Ent.good; rw [hp]; simp [Ent.changeB, Ent.placeB, show ¬ 0 ≤ sl by omega]) (rgood_1c c e n l p pg sl wu wd iu ix nx C0 h1 h2 h3 h4 g1 g2 g3 w)
    have g3 : 0 ≤ sl := by omega
    by_cases g4 : 31 < sl
    · exact fin (by unfold Ent.good; rw [hp]; simp [Ent.changeB, Ent.placeB, show ¬ sl ≤ 31 by omega]) (rgood_1d c e n l p pg sl wu wd iu ix nx C0 h1 h2 h3 h4 g1 g2 g3 g4 w)
    have g4 : sl ≤ 31 := by omega
    cases b5 : slotB wu wd
    case false => rw [b5] at C5; exact fin (by unfold Ent.good; rw [hp]; simp [Ent.changeB, b5]) (rgood_1e c e n l p pg sl wu wd iu ix nx C0 h1 h2 h3 h4 g1 g2 g3 g4 C5 w)
    rw [b5] at C5
    cases b6 : slotB iu ix
    case false => rw [b6] at C6; exact fin (by unfold Ent.good; rw [hp]; simp [Ent.changeB, b5, b6]) (rgood_1f c e n l p pg sl wu wd iu ix nx C0 h1 h2 h3 h4 g1 g2 g3 g4 C5 C6 w)
    rw [b6] at C6
    by_cases n0 : nx = 0
    · exact fin (by unfold Ent.good; rw [hp]; simp [Ent.changeB, Ent.pageB, Ent.placeB, Ent.nextB, b5, b6, g1, g2, g3, g4, n0]) (rgood_1g c e n l p pg sl wu wd iu ix nx C0 h1 h2 h3 h4 g1 g2 g3 g4 C5 C6 (hb n0) w)
    · exact fin (by unfold Ent.good; rw [hp]; simp [Ent.changeB, Ent.pageB, Ent.placeB, Ent.nextB, b5, b6, g1, g2, g3, g4, n0]) (rgood_1h c e n l p pg sl wu wd iu ix nx C0 h1 h2 h3 h4 g1 g2 g3 g4 C5 C6 (hb' n0) w)
  by_cases k2 : k = 2
  · subst k2
    by_cases g1 : pg < 0
    · exact fin (by unfold Ent.good; rw [hp]; simp [Ent.changeB, Ent.pageB, show ¬ 0 ≤ pg by omega]) (rgood_2a c e n l p pg sl wu wd iu ix nx C0 h1 h2 h3 h4 g1 w)
    have g1 : 0 ≤ pg := by omega
    by_cases g2 : 1023 < pg
    · exact fin (by unfold Ent.good; rw [hp]; simp [Ent.changeB, Ent.pageB, show ¬ pg ≤ 1023 by omega]) (rgood_2b c e n l p pg sl wu wd iu ix nx C0 h1 h2 h3 h4 g1 g2 w)
    have g2 : pg ≤ 1023 := by omega
    by_cases g3 : sl < 0
    · exact fin (by unfold Ent.good; rw [hp]; simp [Ent.changeB, Ent.placeB, show ¬ 0 ≤ sl by omega]) (rgood_2c c e n l p pg sl wu wd iu ix nx C0 h1 h2 h3 h4 g1 g2 g3 w)
    have g3 : 0 ≤ sl := by omega
    by_cases g4 : 31 < sl
    · exact fin (by unfold Ent.good; rw [hp]; simp [Ent.changeB, Ent.placeB, show ¬ sl ≤ 31 by omega]) (rgood_2d c e n l p pg sl wu wd iu ix nx C0 h1 h2 h3 h4 g1 g2 g3 g4 w)
    have g4 : sl ≤ 31 := by omega
    cases b5 : slotB wu wd
    case false => rw [b5] at C5; exact fin (by unfold Ent.good; rw [hp]; simp [Ent.changeB, b5]) (rgood_2e c e n l p pg sl wu wd iu ix nx C0 h1 h2 h3 h4 g1 g2 g3 g4 C5 w)
    rw [b5] at C5
    cases b6 : slotB iu ix
    case false => rw [b6] at C6; exact fin (by unfold Ent.good; rw [hp]; simp [Ent.changeB, b5, b6]) (rgood_2f c e n l p pg sl wu wd iu ix nx C0 h1 h2 h3 h4 g1 g2 g3 g4 C5 C6 w)
    rw [b6] at C6
    by_cases n0 : nx = 0
    · exact fin (by unfold Ent.good; rw [hp]; simp [Ent.changeB, Ent.pageB, Ent.placeB, Ent.nextB, b5, b6, g1, g2, g3, g4, n0, h3]) (rgood_2g c e n l p pg sl wu wd iu ix nx C0 h1 h2 h3 h4 g1 g2 g3 g4 C5 C6 (hb n0) w)
    by_cases n1 : nx < 0
    · exact fin (by unfold Ent.good; rw [hp]; simp [Ent.changeB, Ent.pageB, Ent.placeB, Ent.nextB, b5, b6, g1, g2, g3, g4, show ¬ 0 ≤ nx by omega]) (rgood_2h c e n l p pg sl wu wd iu ix nx C0 h1 h2 h3 h4 g1 g2 g3 g4 C5 C6 (hb' n0) n1 w)
    by_cases n2 : nx ≤ p
    · exact fin (by unfold Ent.good; rw [hp]; simp [Ent.changeB, Ent.pageB, Ent.placeB, Ent.nextB, b5, b6, g1, g2, g3, g4, n2, show 0 ≤ nx by omega]) (rgood_2i c e n l p pg sl wu wd iu ix nx C0 h1 h2 h3 h4 g1 g2 g3 g4 C5 C6 (hb' n0) (by omega) n2 w)
    · exact fin (by unfold Ent.good; rw [hp]; simp [Ent.changeB, Ent.pageB, Ent.placeB, Ent.nextB, b5, b6, g1, g2, g3, g4, n2]) (rgood_2j c e n l p pg sl wu wd iu ix nx C0 h1 h2 h3 h4 g1 g2 g3 g4 C5 C6 (hb' n0) (by omega) (by omega) w)
  by_cases k3 : k = 3
  · subst k3
    by_cases z1 : pg = 0
    case neg => exact fin (by unfold Ent.good; rw [hp]; simp [Ent.plainB, z1]) (rgood_3a c e n l p pg sl wu wd iu ix nx C0 h1 h2 h3 h4 (hb' z1) w)
    by_cases z2 : sl = 0
    case neg => exact fin (by unfold Ent.good; rw [hp]; simp [Ent.plainB, z1, z2]) (rgood_3b c e n l p pg sl wu wd iu ix nx C0 h1 h2 h3 h4 (hb z1) (hb' z2) w)
    by_cases z3 : nx = 0
    case neg => exact fin (by unfold Ent.good; rw [hp]; simp [Ent.plainB, z1, z2, z3]) (rgood_3c c e n l p pg sl wu wd iu ix nx C0 h1 h2 h3 h4 (hb z1) (hb z2) (hb' z3) w)
    rw [he, Bool.and_true] at E5 E6
    cases b5 : (wu == false && wd.toList.isEmpty)
    case false => rw [b5] at E5; exact fin (by unfold Ent.good; rw [hp]; cases wu <;> simp_all [Ent.plainB]) (rgood_3d c e n l p pg sl wu wd iu ix nx C0 h1 h2 h3 h4 (hb z1) (hb z2) (hb z3) E5 w)
    rw [b5] at E5
    cases b6 : (iu == false && ix.toList.isEmpty)
    case false => rw [b6] at E6; exact fin (by unfold Ent.good; rw [hp]; cases wu <;> cases iu <;> simp_all [Ent.plainB]) (rgood_3e c e n l p pg sl wu wd iu ix nx C0 h1 h2 h3 h4 (hb z1) (hb z2) (hb z3) E5 E6 w)
    rw [b6] at E6
    exact fin (by unfold Ent.good; rw [hp]; cases wu <;> cases iu <;> simp_all [Ent.plainB]) (rgood_3f c e n l p pg sl wu wd iu ix nx C0 h1 h2 h3 h4 (hb z1) (hb z2) (hb z3) E5 E6 w)
  by_cases k4 : k = 4
  · subst k4
    by_cases z1 : pg = 0
    case neg => exact fin (by unfold Ent.good; rw [hp]; simp [Ent.plainB, z1]) (rgood_4a c e n l p pg sl wu wd iu ix nx C0 h1 h2 h3 h4 (hb' z1) w)
    by_cases z2 : sl = 0
    case neg => exact fin (by unfold Ent.good; rw [hp]; simp [Ent.plainB, z1, z2]) (rgood_4b c e n l p pg sl wu wd iu ix nx C0 h1 h2 h3 h4 (hb z1) (hb' z2) w)
    by_cases z3 : nx = 0
    case neg => exact fin (by unfold Ent.good; rw [hp]; simp [Ent.plainB, z1, z2, z3]) (rgood_4c c e n l p pg sl wu wd iu ix nx C0 h1 h2 h3 h4 (hb z1) (hb z2) (hb' z3) w)
    rw [he, Bool.and_true] at E5 E6
    cases b5 : (wu == false && wd.toList.isEmpty)
    case false => rw [b5] at E5; exact fin (by unfold Ent.good; rw [hp]; cases wu <;> simp_all [Ent.plainB]) (rgood_4d c e n l p pg sl wu wd iu ix nx C0 h1 h2 h3 h4 (hb z1) (hb z2) (hb z3) E5 w)
    rw [b5] at E5
    cases b6 : (iu == false && ix.toList.isEmpty)
    case false => rw [b6] at E6; exact fin (by unfold Ent.good; rw [hp]; cases wu <;> cases iu <;> simp_all [Ent.plainB]) (rgood_4e c e n l p pg sl wu wd iu ix nx C0 h1 h2 h3 h4 (hb z1) (hb z2) (hb z3) E5 E6 w)
    rw [b6] at E6
    exact fin (by unfold Ent.good; rw [hp]; cases wu <;> cases iu <;> simp_all [Ent.plainB]) (rgood_4f c e n l p pg sl wu wd iu ix nx C0 h1 h2 h3 h4 (hb z1) (hb z2) (hb z3) E5 E6 w)
  exact fin (by unfold Ent.good; rw [hp]; simp [k1, k2, k3, k4]) (rgood_z k c e n l p pg sl wu wd iu ix nx C0 h1 h2 h3 h4 (hb' k1) (hb' k2) (hb' k3) (hb' k4) w)
end Go.Proofs.Ytakdagmkkelnfaa
