/-
  Whether a datagram can be of a session.
-/
import Derived.Test.YtgabonacpoimfaaCoC
namespace Go.Proofs.Ytgabonacpoimfaa
open Go.RowKit
set_option linter.unusedVariables false
set_option linter.unusedSimpArgs false
theorem empty_eq (d : ByteArray) : (d.toList == (⟨#[]⟩ : ByteArray).toList) = d.toList.isEmpty := by
  rw [show (⟨#[]⟩ : ByteArray).toList = [] by rw [ByteArray.toList_eq]]
  cases d.toList <;> rfl
theorem empty_size (d : ByteArray) : d.toList.isEmpty = decide (d.size = 0) := by
  rw [ByteArray.toList_eq]
  have e : d.data.toList.length = d.size := Array.length_toList
  cases h : d.data.toList with
  | nil => rw [h] at e; simp only [List.length_nil] at e; rw [← e]; rfl
  | cons a l => rw [h] at e; simp only [List.length_cons] at e; rw [← e]; rfl
section
variable {p : Nat} {r : Option Nat} {mb : Nat} {E : En} {w : World}
set_option maxRecDepth 100000 in
set_option maxHeartbeats 4000000 in
theorem cright_any (h : EndAt w p r mb E) (x : Gr) (hg : E.gv ≤ 1000000) (ht : E.gt ≤ 1000000) :
    Calls Try.prog 27 #[.pointer (some ⟨p, 0, none⟩), x.val] w fun e w' => e = .returned (.int .i64 (rightE E x)) ∧ Below w.heap.size w w' := by
  obtain ⟨A, cap, hp, hrow, hv, h1, h2⟩ := h.open
  obtain ⟨R, hR⟩ : ∃ R, rightE E x = R := ⟨_, rfl⟩
  rw [hR]
  unfold rightE at hR
  obtain ⟨gv, hgv⟩ : ∃ n, E.gv = n := ⟨_, rfl⟩
  obtain ⟨gt, hgt⟩ : ∃ n, E.gt = n := ⟨_, rfl⟩
  obtain ⟨ep0, hep⟩ : ∃ n, E.ep = n := ⟨_, rfl⟩
  rw [hgv, hgt, hep] at hp hR
  rw [hgv] at hg
  rw [hgt] at ht
  obtain ⟨c, u, ep, sq, ak, bd⟩ := x
  simp only at hR
  simp only [Gr.val]
  have P1 := Lib.hid (hp.alloc (.cells #[.int .i64 c, .bool u, .int .i64 ep, .int .i64 sq, .int .i64 ak, .string bd] 29))
  have Z1 := Lib.hid (Has.new w (.cells #[.int .i64 c, .bool u, .int .i64 ep, .int .i64 sq, .int .i64 ak, .string bd] 29))
  have B1 := Lib.hid (bnew w (.cells #[.int .i64 c, .bool u, .int .i64 ep, .int .i64 sq, .int .i64 ak, .string bd] 29))
  have hpl := hp.lt
  clear hp hrow hv hgv hgt hep h
  obtain ⟨G, hG⟩ : ∃ G : Nat, G = gt + 32 := ⟨_, rfl⟩
  have HW : Hid (IntKind.i64.wrap ((gt : Int) + 32) = (G : Int)) := Lib.hid (by
    have h : IntKind.i64.wrap ((gt : Int) + 32) = (gt : Int) + 32 := IntWalk.i64_in _ (by omega)
    rw [h]; omega)
  have hes := empty_size bd
  have he := fun d => empty_eq d
  go_enter Try.func27, Try.ntmps27
  go_upto_region 3 with (fail)
  generalize World.alloc w _ = w1 at P1 Z1 B1 ⊢
  have p0 := P1.out.cell 0 _ rfl
  have p2 := P1.out.cell 2 _ rfl
  have p3 := P1.out.cell 3 _ rfl
  have x2 := Z1.out.cell 2 _ rfl
  have x3 := Z1.out.cell 3 _ rfl
  have x4 := Z1.out.cell 4 _ rfl
  have x5 := Z1.out.cell 5 _ rfl
  by_cases c1 : (ep != ep0) = true
  · have hR' : (23 : Int) = R := by rw [if_pos (by simpa using c1)] at hR; exact hR
    subst hR'
    clear hR hes he
    go_quiet (fail)
    go_wp2_with fail
    go_ret
    exact ⟨rfl, bup B1.out (draws_below _ _)⟩
  have c1' : (ep != ep0) = false := by simpa using c1
  rw [if_neg (by simpa using c1)] at hR
  clear c1
  go_quiet (fail)
  go_upto_region 5 with (fail)
  have B2 := Lib.hid (bup B1.out (draws_below w1 nq))
  have hw := HW.out
  by_cases a1 : ak < 0
  · have hR' : (4 : Int) = R := by rw [if_pos (.inl (.inl a1))] at hR; exact hR
    have f1 : decide (ak < 0) = true := by simpa using a1
    subst hR'
    clear hR a1
    go_quiet (fail)
    go_wp2_with fail
    go_ret
    first | exact ⟨rfl, bup B1.out (draws_below _ _)⟩ | exact ⟨rfl, bup B2.out (draws_below _ _)⟩
  have f1 : decide (ak < 0) = false := by simpa using a1
  by_cases a2 : (gv : Int) < ak
  · have hR' : (4 : Int) = R := by rw [if_pos (.inl (.inr (.inl a2)))] at hR; exact hR
    have f2 : decide ((gv : Int) < ak) = true := by simpa using a2
    subst hR'
    clear hR a1 a2
    go_quiet (fail)
    go_wp2_with fail
    go_ret
    first | exact ⟨rfl, bup B1.out (draws_below _ _)⟩ | exact ⟨rfl, bup B2.out (draws_below _ _)⟩
  have f2 : decide ((gv : Int) < ak) = false := by simpa using a2
  by_cases a3 : sq < 0
  · have hR' : (4 : Int) = R := by rw [if_pos (.inl (.inr (.inr (.inl a3))))] at hR; exact hR
    have f3 : decide (sq < 0) = true := by simpa using a3
    subst hR'
    clear hR a1 a2 a3
    go_quiet (fail)
    go_wp2_with fail
    go_ret
    first | exact ⟨rfl, bup B1.out (draws_below _ _)⟩ | exact ⟨rfl, bup B2.out (draws_below _ _)⟩
  have f3 : decide (sq < 0) = false := by simpa using a3
  by_cases a4 : (G : Int) < sq
  · have hR' : (4 : Int) = R := by rw [if_pos (.inl (.inr (.inr (.inr (by omega)))))] at hR; exact hR
    have f4 : decide ((G : Int) < sq) = true := by simpa using a4
    subst hR'
    clear hR a1 a2 a3 a4 hG
    go_quiet (fail)
    go_wp2_with fail
    go_ret
    first | exact ⟨rfl, bup B1.out (draws_below _ _)⟩ | exact ⟨rfl, bup B2.out (draws_below _ _)⟩
  have f4 : decide ((G : Int) < sq) = false := by simpa using a4
  have hno : ¬ (ak < 0 ∨ (gv : Int) < ak ∨ sq < 0 ∨ (gt : Int) + 32 < sq) := by omega
  by_cases a5 : sq = 0
  · have f5 : (sq == 0) = true := by simpa using a5
    by_cases a6 : 0 < bd.size
    · have hR' : (4 : Int) = R := by rw [if_pos (.inr ⟨a5, a6⟩)] at hR; exact hR
      have f6 : bd.toList.isEmpty = false := by rw [hes]; exact decide_eq_false (by omega)
      have f7 : ¬ bd.toList = [] := by intro h; rw [h] at f6; cases f6
      subst hR'
      clear hR a1 a2 a3 a4 a5 hG hno hes
      go_quiet (fail)
      go_wp2_with fail
      go_ret
      first | exact ⟨rfl, bup B1.out (draws_below _ _)⟩ | exact ⟨rfl, bup B2.out (draws_below _ _)⟩
    · have hR' : (0 : Int) = R := by rw [if_neg (by rintro (h | h); exact hno h; exact a6 h.2), if_neg (by omega)] at hR; exact hR
      have f6 : bd.toList.isEmpty = true := by rw [hes]; exact decide_eq_true (by omega)
      have f7 : bd.toList = [] := by simpa using f6
      have f8 : bd.size = 0 := by omega
      have f9 : ¬ (16384 < bd.size) := by omega
      subst hR'
      clear hR a1 a2 a3 a4 a5 hG hno hes
      go_quiet (fail)
      clear f8
      go_wp2_with fail
      go_ret
      first | exact ⟨rfl, bup B1.out (draws_below _ _)⟩ | exact ⟨rfl, bup B2.out (draws_below _ _)⟩
  have f5 : (sq == 0) = false := by simpa using a5
  by_cases a7 : 16384 < bd.size
  · have hR' : (5 : Int) = R := by rw [if_neg (by rintro (h | h); exact hno h; exact a5 h.1), if_pos a7] at hR; exact hR
    subst hR'
    clear hR a1 a2 a3 a4 a5 hG hno hes
    go_quiet (fail)
    go_wp2_with fail
    go_ret
    first | exact ⟨rfl, bup B1.out (draws_below _ _)⟩ | exact ⟨rfl, bup B2.out (draws_below _ _)⟩
  · have hR' : (0 : Int) = R := by rw [if_neg (by rintro (h | h); exact hno h; exact a5 h.1), if_neg a7] at hR; exact hR
    have a8 : bd.size ≤ 16384 := by omega
    subst hR'
    clear hR a1 a2 a3 a4 a5 hG hno hes a7
    go_quiet (fail)
    go_wp2_with fail
    go_ret
    first | exact ⟨rfl, bup B1.out (draws_below _ _)⟩ | exact ⟨rfl, bup B2.out (draws_below _ _)⟩
end
end Go.Proofs.Ytgabonacpoimfaa
