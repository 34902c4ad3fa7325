/-
  The reference's reader: a number and a flag off the beginning of bytes.
-/
import Derived.Test.YtakdagmkkelnfaaNoR1
import Derived.Test.YtakdagmkkelnfaaEntRgood
namespace Go.Proofs.Ytakdagmkkelnfaa
open Go.RowKit Go.Sort NibPure SumPure
set_option linter.unusedVariables false
set_option linter.unusedSimpArgs false
set_option maxRecDepth 100000 in
set_option maxHeartbeats 4000000 in
theorem rcI_any (b : Nat) (r : List UInt8) (bad : Bool) (w : World) (hr : r.length ≤ 9223372036854775807) (h : Has w b (.cells #[.string (bs r), .bool bad] 81)) :
    Calls Try.prog 46 #[.pointer (some ⟨b, 0, none⟩)] w fun e w' => e = .returned (.int .i64 (scI (r, bad)).1) ∧ Has w' b (.cells #[.string (bs (scI (r, bad)).2.1), .bool (scI (r, bad)).2.2] 81) ∧ But b w w' := by
  have CT := fun w => refTakeInt_any (bs r) w (by rw [bs_size]; exact hr)
  rw [bs_data, takeRes_takeI] at CT
  have CT := Lib.hid CT
  have h0 := h.cell 0 _ rfl
  have h1 := h.cell 1 _ rfl
  unfold scI
  obtain ⟨z, hz⟩ : ∃ z, takeI r = z := ⟨_, rfl⟩
  simp only
  rw [hz] at CT ⊢
  clear hz
  obtain ⟨n, r2, ok⟩ := z
  simp only at CT ⊢
  clear h0 h1
  cases bad <;>
  · go_enter Try.func46, Try.ntmps46
    have h0 := h.cell 0 _ rfl
    have H := Lib.hid h
    clear h
    go_wp2_with fail
    refine (CT.out _).mono ?_
    rintro e w1 ⟨rfl, m, rfl⟩
    have H := Lib.hid (H.out.draws m)
    have B := Lib.hid (But.of (b := b) (draws_below w m))
    generalize w.drewN m = w1 at *
    clear h0
    have h0 := H.out.cell 0 _ rfl
    have h1 := H.out.cell 1 _ rfl
    have hfr := H.out.free 0
    have hfr1 := H.out.free 1
    go_wp2_with fail
    go_ret
    exact ⟨rfl, (H.out.set 0 _).set 1 _, (B.out.trans (But.set b 0 _ _)).trans (But.set b 1 _ _)⟩
set_option maxRecDepth 100000 in
set_option maxHeartbeats 4000000 in
theorem rcF_any (b : Nat) (r : List UInt8) (bad : Bool) (w : World) (hr : r.length ≤ 9223372036854775807) (h : Has w b (.cells #[.string (bs r), .bool bad] 81)) :
    Calls Try.prog 47 #[.pointer (some ⟨b, 0, none⟩)] w fun e w' => e = .returned (.bool (scF (r, bad)).1) ∧ Has w' b (.cells #[.string (bs (scF (r, bad)).2.1), .bool (scF (r, bad)).2.2] 81) ∧ But b w w' := by
  have CI := Lib.hid (rcI_any b r bad w hr h)
  unfold scF
  obtain ⟨z, hz⟩ : ∃ z, scI (r, bad) = z := ⟨_, rfl⟩
  rw [hz] at CI
  rw [hz]
  clear hz h
  obtain ⟨n, r2, bad2⟩ := z
  simp only at CI ⊢
  have key : n = 0 ∨ n = 1 ∨ (n ≠ 0 ∧ n ≠ 1) := by omega
  rcases key with rfl | rfl | ⟨hn0, hn1⟩
  · go_enter Try.func47, Try.ntmps47
    go_wp2_with fail
    refine CI.out.mono ?_
    rintro e w1 ⟨rfl, h1, k1⟩
    have H := Lib.hid h1
    have K := Lib.hid k1
    clear h1 k1 CI
    have h1 := H.out.cell 1 _ rfl
    have hfr1 := H.out.free 1
    have hbl := H.out.lt
    cases bad2 <;>
    · go_wp2_with fail
      go_ret
      exact ⟨rfl, H.out.set 1 _, K.out.trans (But.set b 1 _ _)⟩
  · go_enter Try.func47, Try.ntmps47
    go_wp2_with fail
    refine CI.out.mono ?_
    rintro e w1 ⟨rfl, h1, k1⟩
    have H := Lib.hid h1
    have K := Lib.hid k1
    clear h1 k1 CI
    have h1 := H.out.cell 1 _ rfl
    have hfr1 := H.out.free 1
    have hbl := H.out.lt
    cases bad2 <;>
    · go_wp2_with fail
      go_ret
      exact ⟨rfl, H.out.set 1 _, K.out.trans (But.set b 1 _ _)⟩
  · have e1 : (n == 1) = false := by simp [hn1]
    have e2 : (n != 0) = true := by simp [hn0]
    have e3 : (n != 1) = true := by simp [hn1]
    have e4 : decide (0 ≤ n ∧ n ≤ 1) = false := by simp; omega
    rw [e1, e4]
    clear e4
    go_enter Try.func47, Try.ntmps47
    go_wp2_with fail
    refine CI.out.mono ?_
    rintro e w1 ⟨rfl, h1, k1⟩
    have H := Lib.hid h1
    have K := Lib.hid k1
    clear h1 k1 CI
    have h1 := H.out.cell 1 _ rfl
    have hfr1 := H.out.free 1
    have hbl := H.out.lt
    cases bad2 <;>
    · go_wp2_with fail
      go_ret
      exact ⟨rfl, H.out.set 1 _, K.out.trans (But.set b 1 _ _)⟩
end Go.Proofs.Ytakdagmkkelnfaa
