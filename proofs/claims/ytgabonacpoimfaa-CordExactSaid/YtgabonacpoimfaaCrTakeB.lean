/-
  A datagram that the reference end refuses.
-/
import Derived.Test.YtgabonacpoimfaaCrPure
namespace Go.Proofs.Ytgabonacpoimfaa
open Go.RowKit
set_option linter.unusedVariables false
set_option linter.unusedSimpArgs false
/-- What the reference's Take hands back. -/
def RTakePost (u : Nat) (rl re : Option Nat) (R : En × List ByteArray × Int) (w : World) (e : Ending) (w' : World) : Prop :=
  ∃ A cap, e = .returned (.tuple #[.slice A R.2.1.length cap, .int .i64 R.2.2]) ∧ SRow w' (.slice A R.2.1.length cap) R.2.1 ∧ RefOut u rl re (rfOf R.1) w w'
section
variable {u : Nat} {rl re : Option Nat} {E : En} {w : World}
set_option maxRecDepth 100000 in
set_option maxHeartbeats 4000000 in
theorem rtake_bad (h : RefAt w u rl re (rfOf E)) (x : Gr) (hg : E.gv ≤ 1000000) (ht : E.gt ≤ 1000000) (hb : rightE E x ≠ 0) :
    Calls Try.prog 18 #[.pointer (some ⟨u, 0, none⟩), x.val] w (RTakePost u rl re (takeE E x) w) := by
  have hT : takeE E x = (E, [], rightE E x) := by unfold takeE; rw [if_pos hb]
  rw [hT]
  have HE := Lib.hid h
  have HC : Hid (∀ R w', rightE E x = R → Below w.heap.size w w' → RTakePost u rl re (E, [], rightE E x) w (.returned (.tuple #[.slice none 0 0, .int .i64 R])) w') := Lib.hid (fun R w' e b => by rw [← e]; exact ⟨none, 0, rfl, SRow.nil _, RefOut.same HE.out b⟩)
  obtain ⟨A, cap, B, cbp, hp, _, _, _, _, _, _, _, _⟩ := h.open
  obtain ⟨R, hR⟩ : ∃ R, rightE E x = R := ⟨_, rfl⟩
  rw [hR] at HC hb ⊢
  unfold rightE at hR
  have hp : Has w u (.cells #[.int .i64 E.ep, .slice A (rfOf E).L.length cap, .int .i64 (E.gv : Int), .int .i64 (E.gt : Int), .slice B (rfOf E).E.length cbp, .bool E.ow] 36) := hp
  obtain ⟨gv, hgv⟩ : ∃ n, E.gv = n := ⟨_, rfl⟩
  obtain ⟨gt, hgt⟩ : ∃ n, E.gt = n := ⟨_, rfl⟩
  obtain ⟨ep0, hep⟩ : ∃ n, E.ep = n := ⟨_, rfl⟩
  rw [hgv, hgt, hep] at hp hR
  rw [hgv] at hg
  rw [hgt] at ht
  obtain ⟨c, up, ep, sq, ak, bd⟩ := x
  simp only at hR
  simp only [Gr.val]
  have P1 := Lib.hid (hp.alloc (.cells #[.int .i64 c, .bool up, .int .i64 ep, .int .i64 sq, .int .i64 ak, .string bd] 29))
  have Z1 := Lib.hid (Has.new w (.cells #[.int .i64 c, .bool up, .int .i64 ep, .int .i64 sq, .int .i64 ak, .string bd] 29))
  have B1 := Lib.hid (bnew w (.cells #[.int .i64 c, .bool up, .int .i64 ep, .int .i64 sq, .int .i64 ak, .string bd] 29))
  have hpl := hp.lt
  clear hp hgv hgt hep h hT
  obtain ⟨G, hG⟩ : ∃ G : Nat, G = gt + 32 := ⟨_, rfl⟩
  have HW : Hid (IntKind.i64.wrap ((gt : Int) + 32) = (G : Int)) := Lib.hid (by
    have h : IntKind.i64.wrap ((gt : Int) + 32) = (gt : Int) + 32 := IntWalk.i64_in _ (by omega)
    rw [h]; omega)
  have hes := empty_size bd
  have he := fun d => empty_eq d
  have HC' : Hid (∀ w', Below w.heap.size w w' → RTakePost u rl re (E, [], R) w (.returned (.tuple #[.slice none 0 0, .int .i64 R])) w') := Lib.hid (fun w' b => HC.out R w' rfl b)
  clear HC
  go_enter Try.func18, Try.ntmps18
  go_upto_region 3 with (fail)
  generalize World.alloc w _ = w1 at P1 Z1 B1 ⊢
  have p0 := P1.out.cell 0 _ rfl
  have p2 := P1.out.cell 2 _ rfl
  have p3 := P1.out.cell 3 _ rfl
  have x2 := Z1.out.cell 2 _ rfl
  have x3 := Z1.out.cell 3 _ rfl
  have x4 := Z1.out.cell 4 _ rfl
  have x5 := Z1.out.cell 5 _ rfl
  by_cases c1 : (ep != ep0) = true
  · have hR' : (23 : Int) = R := by rw [if_pos (by simpa using c1)] at hR; exact hR
    subst hR'
    clear hR hes he
    go_quiet (fail)
    go_wp2_with fail
    go_ret2
    exact HC'.out _ (bup B1.out (draws_below _ _))
  have c1' : (ep != ep0) = false := by simpa using c1
  rw [if_neg (by simpa using c1)] at hR
  clear c1
  go_quiet (fail)
  go_upto_region 5 with (fail)
  have B2 := Lib.hid (bup B1.out (draws_below w1 nq))
  have hw := HW.out
  by_cases a3 : sq < 0
  · have hR' : (4 : Int) = R := by rw [if_pos (.inl (.inr (.inr (.inl a3))))] at hR; exact hR
    have f3 : decide (sq < 0) = true := by simpa using a3
    subst hR'
    clear hR a3
    go_quiet (fail)
    go_wp2_with fail
    go_ret2
    first | exact HC'.out _ (bup B1.out (draws_below _ _)) | exact HC'.out _ (bup B2.out (draws_below _ _))
  have f3 : decide (sq < 0) = false := by simpa using a3
  by_cases a1 : ak < 0
  · have hR' : (4 : Int) = R := by rw [if_pos (.inl (.inl a1))] at hR; exact hR
    have f1 : decide (ak < 0) = true := by simpa using a1
    subst hR'
    clear hR a1 a3
    go_quiet (fail)
    go_wp2_with fail
    go_ret2
    first | exact HC'.out _ (bup B1.out (draws_below _ _)) | exact HC'.out _ (bup B2.out (draws_below _ _))
  have f1 : decide (ak < 0) = false := by simpa using a1
  by_cases a2 : (gv : Int) < ak
  · have hR' : (4 : Int) = R := by rw [if_pos (.inl (.inr (.inl a2)))] at hR; exact hR
    have f2 : decide ((gv : Int) < ak) = true := by simpa using a2
    subst hR'
    clear hR a1 a2 a3
    go_quiet (fail)
    go_wp2_with fail
    go_ret2
    first | exact HC'.out _ (bup B1.out (draws_below _ _)) | exact HC'.out _ (bup B2.out (draws_below _ _))
  have f2 : decide ((gv : Int) < ak) = false := by simpa using a2
  by_cases a4 : (G : Int) < sq
  · have hR' : (4 : Int) = R := by rw [if_pos (.inl (.inr (.inr (.inr (by omega)))))] at hR; exact hR
    have f4 : decide ((G : Int) < sq) = true := by simpa using a4
    subst hR'
    clear hR a1 a2 a3 a4 hG
    go_quiet (fail)
    go_wp2_with fail
    go_ret2
    first | exact HC'.out _ (bup B1.out (draws_below _ _)) | exact HC'.out _ (bup B2.out (draws_below _ _))
  have f4 : decide ((G : Int) < sq) = false := by simpa using a4
  have hno : ¬ (ak < 0 ∨ (gv : Int) < ak ∨ sq < 0 ∨ (gt : Int) + 32 < sq) := by omega
  by_cases a5 : sq = 0
  · have f5 : (sq == 0) = true := by simpa using a5
    by_cases a6 : 0 < bd.size
    · have hR' : (4 : Int) = R := by rw [if_pos (.inr ⟨a5, a6⟩)] at hR; exact hR
      have f6 : bd.toList.isEmpty = false := by rw [hes]; exact decide_eq_false (by omega)
      have f7 : ¬ bd.toList = [] := by intro h; rw [h] at f6; cases f6
      subst hR'
      clear hR a1 a2 a3 a4 a5 hG hno hes
      go_quiet (fail)
      go_wp2_with fail
      go_ret2
      first | exact HC'.out _ (bup B1.out (draws_below _ _)) | exact HC'.out _ (bup B2.out (draws_below _ _))
    · have hR' : (0 : Int) = R := by rw [if_neg (by rintro (h | h); exact hno h; exact a6 h.2), if_neg (by omega)] at hR; exact hR
      exact absurd hR'.symm hb
  have f5 : (sq == 0) = false := by simpa using a5
  by_cases a7 : 16384 < bd.size
  · have hR' : (5 : Int) = R := by rw [if_neg (by rintro (h | h); exact hno h; exact a5 h.1), if_pos a7] at hR; exact hR
    subst hR'
    clear hR a1 a2 a3 a4 a5 hG hno hes
    go_quiet (fail)
    go_wp2_with fail
    go_ret2
    first | exact HC'.out _ (bup B1.out (draws_below _ _)) | exact HC'.out _ (bup B2.out (draws_below _ _))
  · have hR' : (0 : Int) = R := by rw [if_neg (by rintro (h | h); exact hno h; exact a5 h.1), if_neg a7] at hR; exact hR
    exact absurd hR'.symm hb
end
end Go.Proofs.Ytgabonacpoimfaa
