/-
  entry.Good, where it ends early.
-/
import Derived.Test.YtpgeiopknjfdmaaEntGood
namespace Go.Proofs.Ytpgeiopknjfdmaa
open Go.RowKit Go.Sort

set_option maxRecDepth 100000 in
set_option maxHeartbeats 4000000 in
theorem good_early0 (k c e n l p pg sl : Int) (wu : Bool) (wd : ByteArray) (iu : Bool) (ix : ByteArray) (nx : Int) (C0 : ∀ w, Calls Try.prog 32 #[.agg #[.int .i64 c, .int .i64 e, .int .i64 n]] w fun r w' => r = .returned (.bool false) ∧ Below w.heap.size w w') (w : World) :
    Calls Try.prog 21 #[.agg #[.int .i64 k, .int .i64 c, .int .i64 e, .int .i64 n, .int .i64 l, .int .i64 p, .int .i64 pg, .int .i64 sl, .bool wu, .string wd, .bool iu, .string ix, .int .i64 nx]] w fun r w' => r = .returned (.bool false) ∧ Below w.heap.size w w' := by
  have C0 := Lib.hid C0
  go_enter Try.func21, Try.ntmps21
  go_wp2_with fail
  refine (C0.out _).mono ?_
  rintro e w1 ⟨rfl, g1⟩
  go_wp2_with fail
  go_ret
  exact ⟨rfl, bup (bnew _ _) g1⟩
set_option maxRecDepth 100000 in
set_option maxHeartbeats 4000000 in
theorem good_early1 (k c e n l p pg sl : Int) (wu : Bool) (wd : ByteArray) (iu : Bool) (ix : ByteArray) (nx : Int) (C0 : ∀ w, Calls Try.prog 32 #[.agg #[.int .i64 c, .int .i64 e, .int .i64 n]] w fun r w' => r = .returned (.bool true) ∧ Below w.heap.size w w') (C1 : ∀ w, Calls Try.prog 33 #[.int .i64 l, .int .i64 1, .int .i64 1099511627776] w fun e w' => e = .returned (.bool false) ∧ w' = w) (w : World) :
    Calls Try.prog 21 #[.agg #[.int .i64 k, .int .i64 c, .int .i64 e, .int .i64 n, .int .i64 l, .int .i64 p, .int .i64 pg, .int .i64 sl, .bool wu, .string wd, .bool iu, .string ix, .int .i64 nx]] w fun r w' => r = .returned (.bool false) ∧ Below w.heap.size w w' := by
  have C0 := Lib.hid C0
  have C1 := Lib.hid C1
  go_enter Try.func21, Try.ntmps21
  go_wp2_with fail
  refine (C0.out _).mono ?_
  rintro e w1 ⟨rfl, g1⟩
  obtain ⟨a0, a1, a2, a3, a4, a5, a6, a7, a8, a9, a10, a11, a12⟩ := EntAt.of ((Has.new w _).below g1)
  go_wp2_with (go_at_call 33; first | ((with_reducible refine (C1.out _).mono ?_); rintro e w2 ⟨rfl, rfl⟩))
  go_ret
  exact ⟨rfl, bup (bnew _ _) g1⟩
set_option maxRecDepth 100000 in
set_option maxHeartbeats 4000000 in
theorem good_early2 (k c e n l p pg sl : Int) (wu : Bool) (wd : ByteArray) (iu : Bool) (ix : ByteArray) (nx : Int) (C0 : ∀ w, Calls Try.prog 32 #[.agg #[.int .i64 c, .int .i64 e, .int .i64 n]] w fun r w' => r = .returned (.bool true) ∧ Below w.heap.size w w') (C1 : ∀ w, Calls Try.prog 33 #[.int .i64 l, .int .i64 1, .int .i64 1099511627776] w fun e w' => e = .returned (.bool true) ∧ w' = w) (hl : 1 ≤ l ∧ l ≤ 1099511627776) (C2 : ∀ w, Calls Try.prog 33 #[.int .i64 p, .int .i64 0, .int .i64 (l - 1)] w fun e w' => e = .returned (.bool false) ∧ w' = w) (w : World) :
    Calls Try.prog 21 #[.agg #[.int .i64 k, .int .i64 c, .int .i64 e, .int .i64 n, .int .i64 l, .int .i64 p, .int .i64 pg, .int .i64 sl, .bool wu, .string wd, .bool iu, .string ix, .int .i64 nx]] w fun r w' => r = .returned (.bool false) ∧ Below w.heap.size w w' := by
  have C0 := Lib.hid C0
  have C1 := Lib.hid C1
  have C2 := Lib.hid C2
  go_enter Try.func21, Try.ntmps21
  go_wp2_with fail
  refine (C0.out _).mono ?_
  rintro e w1 ⟨rfl, g1⟩
  obtain ⟨a0, a1, a2, a3, a4, a5, a6, a7, a8, a9, a10, a11, a12⟩ := EntAt.of ((Has.new w _).below g1)
  go_wp2_with (go_at_call 33; first | ((with_reducible refine (C1.out _).mono ?_); rintro e w2 ⟨rfl, rfl⟩) | ((with_reducible refine (C2.out _).mono ?_); rintro e w2 ⟨rfl, rfl⟩))
  go_ret
  exact ⟨rfl, bup (bnew _ _) g1⟩
end Go.Proofs.Ytpgeiopknjfdmaa
