/-
  The walk of a statement of layer 12: what has come is the beginning of what was given.
-/
import Derived.Test.YtgabonacpoimfaaTkTalk
import Derived.OpenShut
namespace Go.Proofs.Ytgabonacpoimfaa
open Go.RowKit Go.Sort
set_option linter.unusedVariables false
set_option linter.unusedSimpArgs false
theorem mod1000_of (x : Int) : ∃ a : Nat, a < 1000 ∧ wrap64 ((IntKind.u64.wrap x).tmod 1000) = a := by
  have h0 : 0 ≤ IntKind.u64.wrap x := by rw [IntKind.wrap_u64]; omega
  rw [Int.tmod_eq_emod_of_nonneg h0]
  refine ⟨((IntKind.u64.wrap x) % 1000).toNat, by omega, ?_⟩
  rw [IntWalk.wrap64_in _ ⟨by omega, by omega⟩]
  omega
set_option maxRecDepth 100000 in
set_option maxHeartbeats 8000000 in
theorem CordOrder_walk (epoch : Int) (he : (Lit.int .i64 epoch).wf = true) (A : Option Addr) (n c : Nat) (l : List Ev) (w : World) (I : IsRow 3 Ev.row Ev.ok w A n c l) :
    Calls Try.prog 4 #[.int .i64 epoch, .slice A n c] w fun e w' => e = .returned (.bool true) ∧ Below w.heap.size w w' := by
  have CA := Lib.hid (fun w => cordAwake_any w)
  have H := Lib.hid I
  have hcap := I.cap
  have hmost := I.most
  obtain ⟨a, ha, hae⟩ := mod1000_of epoch
  clear I he
  go_enter Try.func4, Try.ntmps4
  go_wp2_with fail
  refine (CA.out _).mono ?_
  rintro e w0 ⟨rfl, b0⟩
  have B0 := Lib.hid b0
  have HI := Lib.hid (H.out.below B0.out)
  clear b0 H CA
  go_wp2_with fail
  clear hae
  go_loop [5] (fun iv => ∃ k : Nat, k ≤ n ∧ k ≤ 120 ∧ iv = .int .i64 k) (fun iv => n - (intOf iv).toNat)
  case atStart => exact ⟨0, by omega, by omega, rfl⟩
  case round =>
    obtain ⟨k, hk, hk2, rfl⟩ := hrel
    by_cases hlt : k < n ∧ k < 120
    · obtain ⟨hlt, hlt2⟩ := hlt
      obtain ⟨b, off, y, rfl, hy, hok, hG⟩ := evs_at HI.out hlt
      have dt := hG.t
      have hbt : y.tx.size ≤ 140737488351232 := hok.2.2
      have hk120 : (k : Int) < 120 := by omega
      clear hy hok hG
      by_cases hbig : 1024 < y.tx.size
      · go_wp2_with fail
        go_ret
        exact ⟨rfl, B0.out⟩
      · have hb2 : y.tx.size ≤ 1024 := by omega
        clear hbig
        go_wp2_with fail
        go_round
        case rel => exact ⟨k + 1, by omega, by omega, by go_num⟩
        case measure => simp [intOf]; omega
    · have CT := Lib.hid (talked_any (1 + (a : Int)) (by omega) (by omega) A n c l w0 HI.out)
      have key : ¬ k < n ∨ (k < n ∧ k = 120) := by omega
      clear hlt HI
      rcases key with h3 | ⟨h3, rfl⟩
      all_goals
        go_wp2_with fail
        refine CT.out.mono ?_
        rintro e w1 ⟨t, V, x, rfl, _, _, _, bT⟩
        go_wp2_with fail
        go_ret
        exact ⟨rfl, B0.out.trans (bT.mono B0.out.size)⟩
end Go.Proofs.Ytgabonacpoimfaa
