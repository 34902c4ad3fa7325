/-
  The taker's calls: a slot off the beginning of bytes.
-/
import Derived.Test.YteknaeemjgpgbaaEntTaker
namespace Go.Proofs.Yteknaeemjgpgbaa
open Go.RowKit Go.Sort NibPure

/-- What a text's taking leaves: the text, the rest, whether there was one. -/
def takeS (r : List UInt8) : List UInt8 × List UInt8 × Bool :=
  match decS 200 r with
  | some (t, r') => (t, r', true)
  | none => ([], [], false)
theorem takeStrRes_takeS (r : List UInt8) : takeStrRes (decS 200 r) = .tuple #[.string (bs (takeS r).1), .string (bs (takeS r).2.1), .bool (takeS r).2.2] := by
  unfold takeS
  cases decS 200 r with
  | none => rfl
  | some p => rfl
/-- What a slot's taking leaves: used, the data, the rest, whether something was wrong. -/
def takeSlot (r : List UInt8) (bad : Bool) : Bool × List UInt8 × List UInt8 × Bool :=
  if (takeI r).1 = 0 then (false, [], (takeI r).2.1, bad || !(takeI r).2.2)
  else if (takeI r).1 = 1 then (true, (takeS (takeI r).2.1).1, (takeS (takeI r).2.1).2.1, (bad || !(takeI r).2.2) || !(takeS (takeI r).2.1).2.2)
  else (false, [], (takeI r).2.1, true)
theorem takeI_rest (r : List UInt8) : (takeI r).2.1.length ≤ r.length := by
  unfold takeI
  cases h : dec r with
  | none => simp
  | some p =>
    obtain ⟨n, r'⟩ := p
    have := dec_len h
    simp only
    omega
set_option maxRecDepth 100000 in
set_option maxHeartbeats 4000000 in
theorem takerSlot_any (b : Nat) (r : List UInt8) (bad : Bool) (w : World) (hr : r.length ≤ 9223372036854775807) (h : Has w b (.cells #[.string (bs r), .bool bad] 55)) :
    Calls Try.prog 31 #[.pointer (some ⟨b, 0, none⟩)] w fun e w' => e = .returned (.agg #[.bool (takeSlot r bad).1, .string (bs (takeSlot r bad).2.1)]) ∧ Has w' b (.cells #[.string (bs (takeSlot r bad).2.2.1), .bool (takeSlot r bad).2.2.2] 55) ∧ But b w w' := by
  have hlt := h.lt
  have CI := fun w h => takerInt_any b r bad w hr h
  have CS := fun w => takeStr_any (bs (takeI r).2.1) 200 w (by rw [bs_size]; have := takeI_rest r; omega)
  rw [bs_data, takeStrRes_takeS] at CS
  obtain ⟨z, hz⟩ : ∃ z, takeSlot r bad = z := ⟨_, rfl⟩
  have hz' := hz
  rw [hz]
  unfold takeSlot at hz
  obtain ⟨y, hy⟩ : ∃ y, takeI r = y := ⟨_, rfl⟩
  rw [hy] at hz CI CS
  clear hy hz'
  obtain ⟨n, r1, ok⟩ := y
  simp only at hz CI CS
  obtain ⟨y, hy⟩ : ∃ y, takeS r1 = y := ⟨_, rfl⟩
  rw [hy] at hz CS
  clear hy
  obtain ⟨t, r2, ok2⟩ := y
  simp only at hz CS
  obtain ⟨bad1, hb1⟩ : ∃ c, (bad || !ok) = c := ⟨_, rfl⟩
  rw [hb1] at hz CI
  clear hb1
  have CI := Lib.hid CI
  have CS := Lib.hid CS
  obtain ⟨fs, hu⟩ := slotUnd
  have Hu := Lib.hid hu
  clear hu
  by_cases k0 : n = 0
  · rw [if_pos k0] at hz
    subst k0 hz
    have H := Lib.hid h
    clear h
    go_enter Try.func31, Try.ntmps31
    go_wp2_with fail
    refine (CI.out _ (H.out.alloc _)).mono ?_
    rintro e w1 ⟨rfl, G, B⟩
    have S := (Has.new w _).but B (by omega)
    have B := (But.of (bnew w _)).trans B
    have h0 := S.cell 0 _ rfl
    have h1 := S.cell 1 _ rfl
    have f0 := S.free 0
    have f1 := S.free 1
    go_wp2_with fail
    (try simp only [Exit.inBlock, Exit.then])
    refine bodyPost_ret (v := .agg #[.bool false, .string (bs [])]) ?_ rfl ⟨rfl, ?_, ?_⟩
    · exact results_cell_row rfl _ _ w.heap.size _ _ _ _ rfl ((S.set 0 _).set 1 _) Hu.out rfl (by kernel_rfl)
    · exact (G.setOther (by omega) 0 _).setOther (by omega) 1 _
    · exact (B.setNew (Nat.le_refl _) 0 _).setNew (Nat.le_refl _) 1 _
  by_cases k1 : n = 1
  · rw [if_neg k0, if_pos k1] at hz
    clear k0
    subst k1 hz
    have H := Lib.hid h
    clear h
    cases bad1 <;>
    · go_enter Try.func31, Try.ntmps31
      go_wp2_with fail
      refine (CI.out _ (H.out.alloc _)).mono ?_
      rintro e w1 ⟨rfl, G, B⟩
      have S := (Has.new w _).but B (by omega)
      have B := (But.of (bnew w _)).trans B
      have q0 := G.cell 0 _ rfl
      go_wp2_with fail
      refine (CS.out _).mono ?_
      rintro e w2 ⟨rfl, m, rfl⟩
      have G := Lib.hid (G.draws m)
      have S := Lib.hid (S.draws m)
      have B := Lib.hid (B.trans (But.of (b := b) (draws_below w1 m)))
      generalize w1.drewN m = w2 at *
      clear q0
      have q0 := G.out.cell 0 _ rfl
      have q1 := G.out.cell 1 _ rfl
      have qf0 := G.out.free 0
      have qf1 := G.out.free 1
      have h0 := S.out.cell 0 _ rfl
      have h1 := S.out.cell 1 _ rfl
      have f0 := S.out.free 0
      have f1 := S.out.free 1
      have hne : w.heap.size ≠ b := by omega
      have hne' : b ≠ w.heap.size := by omega
      go_wp2_with fail
      (try simp only [Exit.inBlock, Exit.then])
      refine bodyPost_ret (v := .agg #[.bool true, .string (bs t)]) ?_ rfl ⟨rfl, ?_, ?_⟩
      · exact results_cell_row rfl _ _ w.heap.size _ _ _ _ rfl ((((S.out.setOther hne 0 _).setOther hne 1 _).set 0 _).set 1 _) Hu.out rfl (by kernel_rfl)
      · exact (((G.out.set 0 _).set 1 _).setOther hne' 0 _).setOther hne' 1 _
      · exact (((B.out.trans (But.set b 0 _ _)).trans (But.set b 1 _ _)).setNew (Nat.le_refl _) 0 _).setNew (Nat.le_refl _) 1 _
  rw [if_neg k0, if_neg k1] at hz
  subst hz
  have H := Lib.hid h
  have n0 : (n == 0) = false := by simpa using k0
  have n1 : (n == 1) = false := by simpa using k1
  clear h k0 k1
  go_enter Try.func31, Try.ntmps31
  go_wp2_with fail
  refine (CI.out _ (H.out.alloc _)).mono ?_
  rintro e w1 ⟨rfl, G, B⟩
  have S := (Has.new w _).but B (by omega)
  have B := (But.of (bnew w _)).trans B
  have h0 := S.cell 0 _ rfl
  have h1 := S.cell 1 _ rfl
  have f0 := S.free 0
  have f1 := S.free 1
  have q1 := G.cell 1 _ rfl
  have qf1 := G.free 1
  have hne : w.heap.size ≠ b := by omega
  have hne' : b ≠ w.heap.size := by omega
  go_wp2_with fail
  (try simp only [Exit.inBlock, Exit.then])
  refine bodyPost_ret (v := .agg #[.bool false, .string (bs [])]) ?_ rfl ⟨rfl, ?_, ?_⟩
  · exact results_cell_row rfl _ _ w.heap.size _ _ _ _ rfl (((S.setOther hne 1 _).set 0 _).set 1 _) Hu.out rfl (by kernel_rfl)
  · exact ((G.set 1 _).setOther hne' 0 _).setOther hne' 1 _
  · exact ((B.trans (But.set b 1 _ _)).setNew (Nat.le_refl _) 0 _).setNew (Nat.le_refl _) 1 _
end Go.Proofs.Yteknaeemjgpgbaa
