/-
  The reference's take: the slot that bytes begin with.
-/
import Derived.Test.YteknaeemjgpgbaaEntRefLaw
import Derived.Test.YteknaeemjgpgbaaEntTakeSlot
namespace Go.Proofs.Yteknaeemjgpgbaa
open Go.RowKit Go.Sort NibPure
set_option linter.unusedVariables false
set_option linter.unusedSimpArgs false

def rTakeRes (z : Bool × List UInt8 × List UInt8 × Bool) : Value := .tuple #[.agg #[.bool z.1, .string (bs z.2.1)], .string (bs z.2.2.1), .bool z.2.2.2]
theorem rTake_len (r : List UInt8) : (rTake r).2.1.length ≤ r.length ∧ (rTake r).2.2.1.length ≤ r.length := by
  have h1 := takeI_rest r
  have h2 : (takeS (takeI r).2.1).1.length ≤ (takeI r).2.1.length ∧ (takeS (takeI r).2.1).2.1.length ≤ (takeI r).2.1.length := by
    generalize (takeI r).2.1 = u
    unfold takeS
    cases h : decS 200 u with
    | none => simp
    | some p =>
      obtain ⟨t, r'⟩ := p
      simp only
      unfold decS at h
      cases hd : dec u with
      | none => rw [hd] at h; cases h
      | some q =>
        obtain ⟨n, v⟩ := q
        rw [hd] at h
        simp only at h
        have := dec_len hd
        split at h
        · simp at h; obtain ⟨rfl, rfl⟩ := h; simp; omega
        · cases h
  unfold rTake
  split
  · simp only [List.length_nil]; omega
  · simp only; omega
set_option maxRecDepth 100000 in
set_option maxHeartbeats 4000000 in
theorem rtake04_any (r : List UInt8) (w : World) (hr : r.length ≤ 9223372036854775807) :
    Calls Try.prog 33 #[.string (bs r)] w fun e w' => e = .returned (rTakeRes (rTake r)) ∧ Below w.heap.size w w' := by
  have CI := fun w => refTakeInt_any (bs r) w (by rw [bs_size]; exact hr)
  rw [bs_data, takeRes_takeI] at CI
  have CS := fun w => refTakeStr_any (bs (takeI r).2.1) 200 w (by rw [bs_size]; have := takeI_rest r; omega)
  rw [bs_data, takeStrRes_takeS] at CS
  obtain ⟨z, hz⟩ : ∃ z, rTake r = z := ⟨_, rfl⟩
  rw [hz]
  unfold rTake at hz
  obtain ⟨y, hy⟩ : ∃ y, takeI r = y := ⟨_, rfl⟩
  rw [hy] at hz CI CS
  clear hy
  obtain ⟨n, r1, ok⟩ := y
  simp only at hz CI CS
  obtain ⟨y, hy⟩ : ∃ y, takeS r1 = y := ⟨_, rfl⟩
  rw [hy] at hz CS
  clear hy
  obtain ⟨t, r2, ok2⟩ := y
  simp only at hz CS
  have CI := Lib.hid CI
  have CS := Lib.hid CS
  obtain ⟨fs, hu⟩ := slotUnd
  have Hu := Lib.hid hu
  clear hu
  by_cases k0 : ok = false ∨ n = 0
  · rw [if_pos k0] at hz
    subst hz
    have k0 : ok = false ∨ (ok = true ∧ (n == 0) = true) := by
      rcases k0 with h | h
      · exact .inl h
      · cases ok
        · exact .inl rfl
        · exact .inr ⟨rfl, by simp [h]⟩
    rcases k0 with rfl | ⟨rfl, hn⟩ <;>
    · go_enter Try.func33, Try.ntmps33
      go_wp2_with fail
      refine (CI.out _).mono ?_
      rintro e w1 ⟨rfl, m, rfl⟩
      have S := Lib.hid ((Has.new w (.cells #[.bool false, .string ⟨#[]⟩] 25)).draws m)
      have B := Lib.hid (bup (bnew w (.cells #[.bool false, .string ⟨#[]⟩] 25)) (draws_below _ m))
      generalize hw1 : World.drewN _ m = w1 at *
      clear hw1
      have h0 := S.out.cell 0 _ rfl
      have h1 := S.out.cell 1 _ rfl
      have f0 := S.out.free 0
      have f1 := S.out.free 1
      go_wp2_with fail
      (try simp only [Exit.inBlock, Exit.then])
      refine bodyPost_ret (v := .tuple #[.agg #[.bool false, .string (bs [])], _, _]) ?_ rfl ⟨rfl, ?_⟩
      · refine Eq.trans (results_cell_two (p := 2) (u := 3) (v := 4) ?_ _ _ w.heap.size _ _ _ fs ?_ ((S.out.set 0 _).set 1 _) Hu.out (by kernel_rfl)) ?_
        all_goals rfl
      · exact (B.out.setCell (p := ⟨w.heap.size, 0, none⟩) (Nat.le_refl _) _).setCell (p := ⟨w.heap.size, 1, none⟩) (Nat.le_refl _) _
  · rw [if_neg k0] at hz
    subst hz
    obtain rfl : ok = true := by
      cases ok
      · exact absurd (.inl rfl) k0
      · rfl
    have hn : (n == 0) = false := by
      have : ¬ n = 0 := fun e => k0 (.inr e)
      simp [this]
    clear k0
    obtain ⟨z1, hz1⟩ : ∃ z : Bool, (n == 1) = z := ⟨_, rfl⟩
    have hzd : decide (n = 1) = z1 := by rw [← hz1]; rfl
    rw [hzd]
    clear hzd
    cases ok2 <;> cases z1 <;>
    · go_enter Try.func33, Try.ntmps33
      go_wp2_with fail
      refine (CI.out _).mono ?_
      rintro e w1 ⟨rfl, m, rfl⟩
      have S := Lib.hid ((Has.new w (.cells #[.bool false, .string ⟨#[]⟩] 25)).draws m)
      have B := Lib.hid (bup (bnew w (.cells #[.bool false, .string ⟨#[]⟩] 25)) (draws_below _ m))
      generalize hw1 : World.drewN _ m = w1 at *
      clear hw1
      go_wp2_with fail
      refine (CS.out _).mono ?_
      rintro e w2 ⟨rfl, m2, rfl⟩
      have S := Lib.hid (S.out.draws m2)
      have B := Lib.hid (bup B.out (draws_below _ m2))
      generalize hw1 : World.drewN _ m2 = w2 at *
      clear hw1
      have h0 := S.out.cell 0 _ rfl
      have h1 := S.out.cell 1 _ rfl
      have f0 := S.out.free 0
      have f1 := S.out.free 1
      go_wp2_with fail
      (try simp only [Exit.inBlock, Exit.then])
      refine bodyPost_ret (v := .tuple #[.agg #[.bool true, .string (bs t)], _, _]) ?_ rfl ⟨rfl, ?_⟩
      · refine Eq.trans (results_cell_two (p := 2) (u := 3) (v := 4) ?_ _ _ w.heap.size _ _ _ fs ?_ ((S.out.set 0 _).set 1 _) Hu.out (by kernel_rfl)) ?_
        all_goals rfl
      · exact (B.out.setCell (p := ⟨w.heap.size, 0, none⟩) (Nat.le_refl _) _).setCell (p := ⟨w.heap.size, 1, none⟩) (Nat.le_refl _) _
end Go.Proofs.Yteknaeemjgpgbaa
