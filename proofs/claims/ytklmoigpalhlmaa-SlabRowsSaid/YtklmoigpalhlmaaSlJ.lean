/-
  The answers that the document fixes by number.
-/
import Derived.Test.YtklmoigpalhlmaaSlF
import Derived.Test.YtklmoigpalhlmaaSlH
import Derived.Test.YtklmoigpalhlmaaSlI
namespace Go.Proofs.Ytklmoigpalhlmaa
open Go.RowKit
set_option linter.unusedVariables false
set_option linter.unusedSimpArgs false

def slAb : Sl := ⟨true, ⟨#[97, 98]⟩⟩
theorem aw_put1 : putRes 0 [] 1 slAb = (0, [Sl.none, slAb], 0) := by kernel_rfl
theorem aw_put2 : putRes 0 [Sl.none, slAb] 1 Sl.none = (0, [], 0) := by kernel_rfl
theorem aw_vac : vacRes 0 [Sl.none, slAb] 5 = (0, 0) := by kernel_rfl
theorem aw_size : pgSize 0 [Sl.none, slAb] = 13 := by kernel_rfl
theorem aw_good : slGood 0 [] = true := by kernel_rfl
theorem aw_enc2 : (pgEnc 0 [Sl.none, slAb]).2 = 0 := by kernel_rfl
theorem aw_enc1 : (pgEnc 0 [Sl.none, slAb]).1.length = 240 := by decide +kernel
theorem aw_cut : (bs (pgEnc 0 [Sl.none, slAb]).1).extract 8 13 = ⟨#[2, 255, 2, 97, 98]⟩ := by
  apply ByteArray.ext
  decide +kernel
set_option maxRecDepth 100000 in
set_option maxHeartbeats 8000000 in
theorem slabAwake_any (w : World) : Calls Try.prog 12 #[] w fun e w' => e = .returned (.bool true) ∧ Below w.heap.size w w' := by
  have C1 : ∀ w, Calls Try.prog 20 #[.agg #[.int .i64 0, .slice none 0 0], .int .i64 1, .agg #[.bool true, .string ⟨#[97, 98]⟩]] w (PageOut (0, [Sl.none, slAb], 0) w) := by
    intro w
    have := pput_any 0 none 0 0 [] 1 slAb w (IsSlots.nil _) (by decide)
    rw [aw_put1] at this
    exact this
  have C2 : ∀ A n c w, IsSlots w A n c [Sl.none, slAb] → Calls Try.prog 20 #[.agg #[.int .i64 0, .slice A n c], .int .i64 1, .agg #[.bool false, .string ⟨#[]⟩]] w (PageOut (0, [], 0) w) := by
    intro A n c w h
    have := pput_any 0 A n c [Sl.none, slAb] 1 Sl.none w h (by decide)
    rw [aw_put2] at this
    exact this
  have C3 := fun A n c w h => penc_any 0 A n c [Sl.none, slAb] w h
  have C4 := fun A n c w h => pvac_any 0 A n c [Sl.none, slAb] 5 w h
  have C5 := fun A n c w h => psize_any 0 A n c [Sl.none, slAb] w h
  have C6 := fun A n c w h => pgood_any 0 A n c [] w h
  have hlen := aw_enc1
  have hcut := aw_cut
  rw [aw_enc2] at C3
  rw [aw_vac] at C4
  rw [aw_size] at C5
  rw [aw_good] at C6
  obtain ⟨s, hs⟩ : ∃ s, bs (pgEnc 0 [Sl.none, slAb]).1 = s := ⟨_, rfl⟩
  have hsz : s.size = 240 := by rw [← hs, bs_size, hlen]
  rw [hs] at C3 hcut
  replace C1 := Lib.hid C1
  replace C2 := Lib.hid C2
  replace C3 := Lib.hid C3
  replace C4 := Lib.hid C4
  replace C5 := Lib.hid C5
  replace C6 := Lib.hid C6
  clear hlen hs
  go_enter Try.func12, Try.ntmps12
  go_wp2_with fail
  refine (C1.out _).mono ?_
  rintro e w1 ⟨A, n, c, rfl, I1, b1⟩
  obtain rfl : n = 2 := I1.len.symm
  obtain ⟨b, off, x, rfl, hx, hbl, h1, h2, hs⟩ := I1.at (show 0 < 2 by omega)
  obtain rfl : x = Sl.none := by simpa using hx.symm
  have u1 : w1.cell? ⟨b, off, none⟩ = some (.bool false) := by simpa [Sl.none] using h1
  have U1 := Lib.hid u1
  replace I1 := Lib.hid I1
  replace b1 := Lib.hid b1
  clear h1 h2 hs hx u1
  go_wp2_with fail
  refine (C3.out _ _ _ _ (I1.out.alloc _)).mono ?_
  rintro e w2 ⟨rfl, b2⟩
  have P := ((Has.new w1 _).below b2)
  have p0 := P.cell 0 _ rfl
  have p1 := P.cell 1 _ rfl
  replace P := Lib.hid P
  have I2 := Lib.hid ((I1.out.alloc _).below b2)
  replace b2 := Lib.hid b2
  go_wp2_with fail
  refine (C2.out _ _ _ _ I2.out).mono ?_
  rintro e w3 ⟨A3, n3, c3, rfl, I3, b3⟩
  obtain rfl : n3 = 0 := I3.len.symm
  have P3 := P.out.below b3
  clear p0 p1
  have p0 := (P3.alloc (.cells #[.int .i64 0, .slice A3 0 c3] 24)).cell 0 _ rfl
  have p1 := (P3.alloc (.cells #[.int .i64 0, .slice A3 0 c3] 24)).cell 1 _ rfl
  replace P3 := Lib.hid P3
  replace I3 := Lib.hid I3
  have J3 := Lib.hid (I2.out.below b3)
  replace b3 := Lib.hid b3
  go_wp2_with fail
  refine (C4.out _ _ _ _ (J3.out.alloc _)).mono ?_
  rintro e w4 ⟨rfl, b4⟩
  clear p0 p1
  have Q4 := (Has.new w3 _).below b4
  have q0 := Q4.cell 0 _ rfl
  have q1 := Q4.cell 1 _ rfl
  have P4 := (P3.out.alloc _).below b4
  have p0 := P4.cell 0 _ rfl
  have p1 := P4.cell 1 _ rfl
  have B4 : Below w1.heap.size w1 w4 := bup (bup (bup (bup (bnew w1 _) b2.out) b3.out) (bnew w3 _)) b4
  have u4 := (B4.cell (p := ⟨b, off, none⟩) hbl).trans U1.out
  have I4 := Lib.hid ((I3.out.alloc _).below b4)
  have J4 := Lib.hid ((J3.out.alloc _).below b4)
  replace P4 := Lib.hid P4
  replace Q4 := Lib.hid Q4
  replace B4 := Lib.hid B4
  clear b4
  go_wp2_with fail
  refine (C5.out _ _ _ _ J4.out).mono ?_
  rintro e w5 ⟨rfl, b5⟩
  have q0 := (Q4.out.below b5).cell 0 _ rfl
  have q1 := (Q4.out.below b5).cell 1 _ rfl
  have I5 := Lib.hid (I4.out.below b5)
  have B5 := Lib.hid (bup b1.out (bup B4.out b5))
  clear b5 p0 p1 u4
  have hl2 : (13 : Int) ≤ (s.size : Int) := by omega
  have ht : (⟨#[2, 255, 2, 97, 98]⟩ : ByteArray).toList = [2, 255, 2, 97, 98] := by decide +kernel
  go_wp2_with fail
  refine (C6.out _ _ _ _ I5.out).mono ?_
  rintro e w6 ⟨rfl, b6⟩
  go_wp2_with fail
  go_ret
  exact ⟨rfl, bup B5.out b6⟩
end Go.Proofs.Ytklmoigpalhlmaa
