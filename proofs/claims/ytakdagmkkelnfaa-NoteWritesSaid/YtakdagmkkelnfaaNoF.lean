/-
  A message's bytes, or the error; a number and a flag off the beginning of bytes.
-/
import Derived.Test.YtakdagmkkelnfaaNoE
namespace Go.Proofs.Ytakdagmkkelnfaa
open Go.RowKit Go.Sort NibPure SumPure
set_option linter.unusedVariables false
set_option linter.unusedSimpArgs false
theorem sumOf_one (l : List UInt8) (b : Nat) (w : World) (hl : l.length ≤ 9223372036854775807) (h : Has w b (.cells #[.string (bs l)] 9)) :
    Calls Try.prog 10 #[.slice (some ⟨b, 0, none⟩) 1 1] w fun e w' => e = .returned (.int .u32 (sum l : Nat)) ∧ Below w.heap.size w w' := by
  have hc := h.cell 0 _ rfl
  have := of_some [bs l] b 0 1 w (by simp) (fun i hi => by
    have : i = 0 := by simp at hi; omega
    subst this
    show (bs l).size ≤ _
    rw [bs_size]; exact hl) h.lt (fun i hi => by
    have : i = 0 := by simp at hi; omega
    subst this
    exact hc)
  have e : joined [bs l] = l := by simp [joined, bs_data]
  rw [e] at this
  exact this
set_option maxRecDepth 100000 in
set_option maxHeartbeats 4000000 in
theorem nencode_any (m : Ms) (A : Option Addr) (sn sc : Nat) (B : Option Addr) (en ec : Nat) (w : World) (hS : IsSlots w A sn sc m.sl) (hE : IsEnts w B en ec m.en) :
    Calls Try.prog 15 #[.agg (m.row A sn sc B en ec)] w fun r w' => r = .returned (.tuple #[.string (bs m.encM.1), .int .i64 m.encM.2]) ∧ Below w.heap.size w w' := by
  have HS := Lib.hid hS
  have HE := Lib.hid hE
  have C1 := Lib.hid (fun w hS hE => ngood_any m A sn sc B en ec w hS hE)
  have C2 := Lib.hid (fun w hS hE hg => nbody_any m A sn sc B en ec w hS hE hg)
  clear hS hE
  cases hg : m.good with
  | false =>
    have hr : m.encM = ([], 1) := by unfold Ms.encM; rw [hg]; rfl
    rw [hr]
    rw [hg] at C1
    simp only [Ms.row, msgC] at C1 ⊢
    clear hr hg C2
    go_enter Try.func15, Try.ntmps15
    go_wp2_with fail
    refine (C1.out _ (HS.out.alloc _) (HE.out.below (bnew w _))).mono ?_
    rintro e w1 ⟨rfl, b1⟩
    go_wp2_with fail
    go_ret2
    exact ⟨rfl, bup (bnew w _) b1⟩
  | true =>
    have hr : m.encM = (withSum m.body, 0) := by unfold Ms.encM; rw [hg]; rfl
    rw [hr]
    rw [hg] at C1
    have C2' := Lib.hid (fun w hS hE => C2.out w hS hE hg)
    have hbl := (body_len hg).2
    obtain ⟨L, hL⟩ : ∃ L, m.body = L := ⟨_, rfl⟩
    rw [hL] at C2' hbl
    rw [hL]
    have hsl := sum_lt L
    have CS := Lib.hid (fun b w h => sumOf_one L b w (by omega) h)
    obtain ⟨z, hz⟩ : ∃ z, sum L = z := ⟨_, rfl⟩
    rw [hz] at CS hsl
    have hw : withSum L = highN z 4 ++ L := by unfold withSum; rw [hz]
    rw [hw]
    have CP := Lib.hid (fun w => hput_any z 4 (by omega) (by omega) (by omega) w)
    have hadd : ∀ w, (Op.stringOp .add (bs (highN z 4)) (bs L)).run Try.prog w = .ok (.string (bs (highN z 4 ++ L))) w := fun w => add_lists' (highN z 4) L (by rw [highN_len]; omega) w
    simp only [Ms.row, msgC] at C1 C2' ⊢
    clear hr hg C2 hL hz hw
    go_enter Try.func15, Try.ntmps15
    go_wp2_with fail
    refine (C1.out _ (HS.out.alloc _) (HE.out.below (bnew w _))).mono ?_
    rintro e w1 ⟨rfl, b1⟩
    have X := Lib.hid ((Has.new w _).below b1)
    have BW := Lib.hid (bup (bnew w _) b1)
    clear b1 C1
    have x0 := X.out.cell 0 _ rfl
    have x1 := X.out.cell 1 _ rfl
    have x2 := X.out.cell 2 _ rfl
    have x3 := X.out.cell 3 _ rfl
    have x4 := X.out.cell 4 _ rfl
    have x5 := X.out.cell 5 _ rfl
    have x6 := X.out.cell 6 _ rfl
    have x7 := X.out.cell 7 _ rfl
    have x8 := X.out.cell 8 _ rfl
    have x9 := X.out.cell 9 _ rfl
    have x10 := X.out.cell 10 _ rfl
    go_wp2_with fail
    refine (C2'.out _ (HS.out.below BW.out) (HE.out.below BW.out)).mono ?_
    rintro e w2 ⟨rfl, b1⟩
    replace BW := Lib.hid (bup BW.out b1)
    clear x0 x1 x2 x3 x4 x5 x6 x7 x8 x9 x10 C2' X b1
    go_wp2_with fail
    refine (CS.out _ _ (Has.new w2 _)).mono ?_
    rintro e w3 ⟨rfl, b1⟩
    have BW := Lib.hid (bup BW.out (bup (bnew w2 _) b1))
    clear b1 CS
    have hz64 : (z : Int) < 18446744073709551616 := by omega
    go_wp2_with fail
    refine (CP.out _).mono ?_
    rintro e w4 ⟨rfl, b1⟩
    go_wp2_with fail
    go_ret2
    exact ⟨rfl, bup BW.out b1⟩
set_option maxRecDepth 100000 in
set_option maxHeartbeats 4000000 in
theorem nscI_any (b : Nat) (r : List UInt8) (bad : Bool) (w : World) (hr : r.length ≤ 9223372036854775807) (h : Has w b (.cells #[.string (bs r), .bool bad] 52)) :
    Calls Try.prog 21 #[.pointer (some ⟨b, 0, none⟩)] w fun e w' => e = .returned (.int .i64 (scI (r, bad)).1) ∧ Has w' b (.cells #[.string (bs (scI (r, bad)).2.1), .bool (scI (r, bad)).2.2] 52) ∧ But b w w' := by
  have CT := fun w => takeInt_any (bs r) w (by rw [bs_size]; exact hr)
  rw [bs_data, takeRes_takeI] at CT
  have CT := Lib.hid CT
  have h0 := h.cell 0 _ rfl
  have h1 := h.cell 1 _ rfl
  unfold scI
  obtain ⟨z, hz⟩ : ∃ z, takeI r = z := ⟨_, rfl⟩
  simp only
  rw [hz] at CT ⊢
  clear hz
  obtain ⟨n, r2, ok⟩ := z
  simp only at CT ⊢
  clear h0 h1
  cases bad <;>
  · go_enter Try.func21, Try.ntmps21
    have h0 := h.cell 0 _ rfl
    have H := Lib.hid h
    clear h
    go_wp2_with fail
    refine (CT.out _).mono ?_
    rintro e w1 ⟨rfl, m, rfl⟩
    have H := Lib.hid (H.out.draws m)
    have B := Lib.hid (But.of (b := b) (draws_below w m))
    generalize w.drewN m = w1 at *
    clear h0
    have h0 := H.out.cell 0 _ rfl
    have h1 := H.out.cell 1 _ rfl
    have hfr := H.out.free 0
    have hfr1 := H.out.free 1
    go_wp2_with fail
    go_ret
    exact ⟨rfl, (H.out.set 0 _).set 1 _, (B.out.trans (But.set b 0 _ _)).trans (But.set b 1 _ _)⟩
set_option maxRecDepth 100000 in
set_option maxHeartbeats 4000000 in
theorem nscF_any (b : Nat) (r : List UInt8) (bad : Bool) (w : World) (hr : r.length ≤ 9223372036854775807) (h : Has w b (.cells #[.string (bs r), .bool bad] 52)) :
    Calls Try.prog 23 #[.pointer (some ⟨b, 0, none⟩)] w fun e w' => e = .returned (.bool (scF (r, bad)).1) ∧ Has w' b (.cells #[.string (bs (scF (r, bad)).2.1), .bool (scF (r, bad)).2.2] 52) ∧ But b w w' := by
  have CI := Lib.hid (nscI_any b r bad w hr h)
  unfold scF
  obtain ⟨z, hz⟩ : ∃ z, scI (r, bad) = z := ⟨_, rfl⟩
  rw [hz] at CI
  rw [hz]
  clear hz h
  obtain ⟨n, r2, bad2⟩ := z
  simp only at CI ⊢
  have CW := Lib.hid (fun w => nwithin_is (n := n) (a := 0) (b := 1) rfl w)
  obtain ⟨wi, hwi⟩ : ∃ b, decide (0 ≤ n ∧ n ≤ 1) = b := ⟨_, rfl⟩
  rw [hwi] at CW ⊢
  clear hwi
  go_enter Try.func23, Try.ntmps23
  go_wp2_with fail
  refine CI.out.mono ?_
  rintro e w1 ⟨rfl, h1, k1⟩
  have H := Lib.hid h1
  have K := Lib.hid k1
  clear h1 k1 CI
  have h1 := H.out.cell 1 _ rfl
  have hfr1 := H.out.free 1
  have hbl := H.out.lt
  cases bad2 with
  | true =>
    go_wp2_with fail
    go_ret
    exact ⟨rfl, H.out.set 1 _, K.out.trans (But.set b 1 _ _)⟩
  | false =>
    cases wi <;>
    · go_wp2_with fail
      refine (CW.out _).mono ?_
      rintro e wq ⟨rfl, rfl⟩
      go_wp2_with fail
      go_ret
      exact ⟨rfl, H.out.set 1 _, K.out.trans (But.set b 1 _ _)⟩
end Go.Proofs.Ytakdagmkkelnfaa
