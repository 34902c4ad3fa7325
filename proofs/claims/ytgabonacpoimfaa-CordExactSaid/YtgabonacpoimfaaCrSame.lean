/-
  Two lists are the same.
-/
import Derived.Test.YtgabonacpoimfaaCrMem
import Derived.Test.YtgabonacpoimfaaCoAwake
namespace Go.Proofs.Ytgabonacpoimfaa
open Go.RowKit
set_option linter.unusedVariables false
set_option linter.unusedSimpArgs false
set_option maxRecDepth 100000 in
set_option maxHeartbeats 2000000 in
theorem same_any (A B : Option Addr) (n c1 c2 : Nat) (q : List Gr) (w : World) (h1 : RowG 0 w (.slice A n c1) q) (h2 : RowG 0 w (.slice B n c2) q) (hn : n = q.length) (hc : n ≤ 1000000) :
    Calls Try.prog 14 #[.slice A n c1, .slice B n c2] w fun e w' => e = .returned (.bool true) ∧ Below w.heap.size w w' := by
  have HA := Lib.hid (fun (h0 : 0 < n) => RowG.there h1 hn h0)
  have HB2 := Lib.hid (fun (h0 : 0 < n) => RowG.there h2 hn h0)
  have HN := Lib.hid hn
  clear h1 h2 hn
  go_enter Try.func14, Try.ntmps14
  go_wp2_with fail
  go_loopw [5] (fun iv wr => ∃ k : Nat, k ≤ n ∧ iv = .int .i64 k ∧ Hid (Below w.heap.size w wr)) (fun iv _ => n - (intOf iv).toNat)
  case atStart => exact ⟨0, by omega, rfl, Lib.hid (Below.refl _ _)⟩
  case round =>
    obtain ⟨k, hk, rfl, HB⟩ := hrel
    by_cases hlt : k < n
    · obtain ⟨x, hx⟩ : ∃ x, q[k]? = some x := ⟨_, List.getElem?_eq_getElem (by rw [← HN.out]; exact hlt)⟩
      obtain ⟨g, rfl, _, hgl, hg⟩ := HA.out (by omega)
      obtain ⟨g', rfl, _, hgl', hg'⟩ := HB2.out (by omega)
      have G0 := (hg k x hx).below hgl HB.out
      have G1 := (hg' k x hx).below hgl' HB.out
      have d0 := G0.a0
      have d1 := G0.a1
      have d2 := G0.a2
      have d3 := G0.a3
      have d4 := G0.a4
      have d5 := G0.a5
      have f0 := G1.a0
      have f1 := G1.a1
      have f2 := G1.a2
      have f3 := G1.a3
      have f4 := G1.a4
      have f5 := G1.a5
      have CEN : ∀ w, (binOp .neq 29 (.agg #[.int .i64 x.cl, .bool x.up, .int .i64 x.ep, .int .i64 x.sq, .int .i64 x.ak, .string x.bd]) (.agg #[.int .i64 x.cl, .bool x.up, .int .i64 x.ep, .int .i64 x.sq, .int .i64 x.ak, .string x.bd])).run Try.prog w = .ok (.bool false) w := fun w => by
        have := grNeqBin x x w
        rwa [grEq_self] at this
      clear hg hg' hx G0 G1 HA HB2
      go_upto_region 6 with (fail)
      go_quiet (fail)
      go_wp2_with fail
      go_roundw
      case rel => exact ⟨k + 1, by omega, by go_num, Lib.hid (HB.out.trans ((draws_below wr nq).mono HB.out.size))⟩
      case measure => simp [intOf]; omega
    · obtain rfl : k = n := by omega
      clear HA HB2
      go_wp2_with fail
      go_ret
      exact ⟨rfl, HB.out⟩
set_option maxRecDepth 100000 in
set_option maxHeartbeats 2000000 in
theorem texts_any (A B : Option Addr) (n c1 c2 : Nat) (q : List ByteArray) (w : World) (h1 : SRow w (.slice A n c1) q) (h2 : SRow w (.slice B n c2) q) (hn : n = q.length) (hc : n ≤ 9223372036854775807) :
    Calls Try.prog 19 #[.slice A n c1, .slice B n c2] w fun e w' => e = .returned (.bool true) ∧ Below w.heap.size w w' := by
  have HA := Lib.hid (fun k x (hx : q[k]? = some x) => SRow.at h1 hx)
  have HB2 := Lib.hid (fun k x (hx : q[k]? = some x) => SRow.at h2 hx)
  have HN := Lib.hid hn
  clear h1 h2 hn
  go_enter Try.func19, Try.ntmps19
  go_wp2_with fail
  go_loopw [5] (fun iv wr => ∃ k : Nat, k ≤ n ∧ iv = .int .i64 k ∧ Hid (Below w.heap.size w wr)) (fun iv _ => n - (intOf iv).toNat)
  case atStart => exact ⟨0, by omega, rfl, Lib.hid (Below.refl _ _)⟩
  case round =>
    obtain ⟨k, hk, rfl, HB⟩ := hrel
    by_cases hlt : k < n
    · obtain ⟨x, hx⟩ : ∃ x, q[k]? = some x := ⟨_, List.getElem?_eq_getElem (by rw [← HN.out]; exact hlt)⟩
      obtain ⟨g, o, rfl, _, d0, hgl⟩ := HA.out k x hx
      obtain ⟨g', o', rfl, _, f0, hgl'⟩ := HB2.out k x hx
      have d0 := (HB.out.cell (p := ⟨g, o + k, none⟩) hgl).trans d0
      have f0 := (HB.out.cell (p := ⟨g', o' + k, none⟩) hgl').trans f0
      clear hx HA HB2
      go_upto_region 6 with (fail)
      go_quiet (fail)
      go_wp2_with fail
      go_roundw
      case rel => exact ⟨k + 1, by omega, by go_num, Lib.hid (HB.out.trans ((draws_below wr nq).mono HB.out.size))⟩
      case measure => simp [intOf]; omega
    · obtain rfl : k = n := by omega
      clear HA HB2
      go_wp2_with fail
      go_ret
      exact ⟨rfl, HB.out⟩
end Go.Proofs.Ytgabonacpoimfaa
