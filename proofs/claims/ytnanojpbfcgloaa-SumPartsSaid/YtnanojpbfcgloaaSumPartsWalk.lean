/-
  The walk of SumParts.
-/
import Derived.Test.YtnanojpbfcgloaaSumLaws
import Derived.Deep.RegionHeld3
namespace Go.Proofs.Ytnanojpbfcgloaa
open Go.RowKit SumPure

set_option maxRecDepth 100000 in
set_option maxHeartbeats 40000000 in
theorem SumParts_walk (s : ByteArray) (hs0 : s.size ≤ maxLen) (cut : Int) (_ : (Lit.int .i64 cut).wf = true) (other : Int) (_ : (Lit.int .i64 other).wf = true) (w : World) :
    Calls Try.prog 4 #[.string s, .int .i64 cut, .int .i64 other] w fun e w' => e = .returned (.bool true) ∧ Below w.heap.size w w' := by
  have hs : s.size ≤ 9223372036854775807 := by unfold maxLen at hs0; omega
  by_cases hbig : 65536 < s.size
  · go_enter Try.func4, Try.ntmps4
    go_wp2_with (go_at_call 15; (with_reducible refine (sumAwake_any _).mono ?_); rintro e w1 ⟨rfl, hb1⟩)
    go_ret
    exact ⟨rfl, hb1⟩
  · have hsm : s.size ≤ 65536 := by omega
    clear hbig
    go_enter Try.func4, Try.ntmps4
    obtain ⟨a, ha, hae⟩ := mod_form cut s.size hsm
    obtain ⟨d, hd, hde⟩ := mod_form other (s.size - a) (by omega)
    rw [show ((s.size - a : Nat) : Int) = (s.size : Int) - a by omega] at hde
    go_wp2_with (go_at_call 15; (with_reducible refine (sumAwake_any _).mono ?_); rintro e w1 ⟨rfl, hb1⟩)
    rw [hae, hde]
    clear hae hde
    have hP1 := parts_cut s a d ha (by omega) hs
    rw [show ((a : Int) + (d : Int)).toNat = a + d by omega] at hP1
    have hP2 := parts_whole s hs
    rw [show (a : Int) + (d : Int) = ((a + d : Nat) : Int) by omega]
    have hc1 : a ≤ a + d := by omega
    have hc2 : a + d ≤ s.size := by omega
    generalize a + d = c at hP1 hc1 hc2 ⊢
    have i1 : (a : Int) ≤ (c : Int) := by omega
    have i2 : (c : Int) ≤ (s.size : Int) := by omega
    have i3 : (0 : Int) ≤ (c : Int) := by omega
    have i4 : (a : Int) ≤ (s.size : Int) := by omega
    go_region_held3 (fun _ => True) (trivial) (first
      | (go_at_call 16; (with_reducible refine (of_has1 s _ _ ?_ hs).mono ?_); (repeat (with_reducible (first | exact Has.new _ _ | exact Has.new1 _ _ _ | (refine Has.below ?_ (by assumption)) | refine Has.alloc ?_ _ | refine Has.drew ?_))); rintro e w5 ⟨rfl, hb5⟩)
      | (go_at_call 16; (with_reducible refine (of_parts' s _ _ ?_).mono ?_); apply Exists.intro; apply And.intro; (repeat (with_reducible (first | exact Has.new _ _ | exact Has.new1 _ _ _ | (refine Has.below ?_ (by assumption)) | refine Has.alloc ?_ _ | refine Has.drew ?_))); (first | exact hP1 | exact hP2); rintro e w5 ⟨rfl, hb5⟩))
    all_goals clear hP1 hP2
    all_goals go_wp2
    all_goals go_ret
    all_goals refine ⟨(by first | (simp; done) | rfl), ?_⟩
    all_goals (repeat (first | assumption | exact Below.refl _ _ | (refine bup ?_ (by assumption)) | (refine bup ?_ (bnew _ _)) | refine Below.drew ?_))

end Go.Proofs.Ytnanojpbfcgloaa
