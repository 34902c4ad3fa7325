/-
  The taker's calls: a number off the beginning of bytes.
-/
import Derived.Test.YteknaeemjgpgbaaEntEnc
import Derived.Test.YteknaeemjgpgbaaBut
namespace Go.Proofs.Yteknaeemjgpgbaa
open Go.RowKit Go.Sort NibPure

/-- What a number's taking leaves: the number, the rest, whether there was one. -/
def takeI (r : List UInt8) : Int × List UInt8 × Bool :=
  match dec r with
  | some (n, r') => (n, r', true)
  | none => (0, [], false)
theorem takeRes_takeI (r : List UInt8) : takeRes (dec r) = .tuple #[.int .i64 (takeI r).1, .string (bs (takeI r).2.1), .bool (takeI r).2.2] := by
  unfold takeI
  cases dec r with
  | none => rfl
  | some p => rfl
set_option maxRecDepth 100000 in
set_option maxHeartbeats 4000000 in
theorem takerInt_any (b : Nat) (r : List UInt8) (bad : Bool) (w : World) (hr : r.length ≤ 9223372036854775807) (h : Has w b (.cells #[.string (bs r), .bool bad] 55)) :
    Calls Try.prog 30 #[.pointer (some ⟨b, 0, none⟩)] w fun e w' => e = .returned (.int .i64 (takeI r).1) ∧ Has w' b (.cells #[.string (bs (takeI r).2.1), .bool (bad || !(takeI r).2.2)] 55) ∧ But b w w' := by
  have CT := fun w => takeInt_any (bs r) w (by rw [bs_size]; exact hr)
  rw [bs_data, takeRes_takeI] at CT
  have CT := Lib.hid CT
  have h0 := h.cell 0 _ rfl
  have h1 := h.cell 1 _ rfl
  obtain ⟨z, hz⟩ : ∃ z, takeI r = z := ⟨_, rfl⟩
  rw [hz] at CT ⊢
  clear hz
  obtain ⟨n, r2, ok⟩ := z
  simp only at CT ⊢
  clear h0 h1
  cases bad <;>
  · go_enter Try.func30, Try.ntmps30
    have h0 := h.cell 0 _ rfl
    have H := Lib.hid h
    clear h
    go_wp2_with fail
    refine (CT.out _).mono ?_
    rintro e w1 ⟨rfl, m, rfl⟩
    have H := Lib.hid (H.out.draws m)
    have B := Lib.hid (But.of (b := b) (draws_below w m))
    generalize w.drewN m = w1 at *
    clear h0
    have h0 := H.out.cell 0 _ rfl
    have h1 := H.out.cell 1 _ rfl
    have hfr := H.out.free 0
    have hfr1 := H.out.free 1
    go_wp2_with fail
    go_ret
    exact ⟨rfl, (H.out.set 0 _).set 1 _, (B.out.trans (But.set b 0 _ _)).trans (But.set b 1 _ _)⟩
end Go.Proofs.Yteknaeemjgpgbaa
