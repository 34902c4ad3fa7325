/-
  An end is given a text.
-/
import Derived.Test.YtgabonacpoimfaaCoA
namespace Go.Proofs.Ytgabonacpoimfaa
open Go.RowKit
set_option linter.unusedVariables false
set_option linter.unusedSimpArgs false
section
variable {p : Nat} {r : Option Nat} {mb : Nat} {E : En} {w : World}
set_option maxRecDepth 100000 in
set_option maxHeartbeats 2000000 in
theorem csend_any (h : EndAt w p r mb E) (s : ByteArray) (hg : E.gv ≤ 1000000) (hl : E.op.length ≤ 1000000) :
    Calls Try.prog 11 #[.pointer (some ⟨p, 0, none⟩), .string s] w fun e w' => e = .returned (.int .i64 (sendE E s).2) ∧ EndOut p r mb (sendE E s).1 w w' := by
  obtain ⟨A, cap, hp, hrow, hv, h1, h2⟩ := h.open
  have HE := Lib.hid h
  have hne := h.ne
  obtain ⟨R, hR⟩ : ∃ R, sendE E s = R := ⟨_, rfl⟩
  have hR' := hR
  unfold sendE at hR'
  rw [hR]
  obtain ⟨n, hn⟩ : ∃ n, E.op.length = n := ⟨_, rfl⟩
  obtain ⟨gv, hgv⟩ : ∃ n, E.gv = n := ⟨_, rfl⟩
  rw [hn] at hp h1 hR' hl
  rw [hgv] at hp hg
  have HN := Lib.hid hn
  have HGV := Lib.hid hgv
  have p1 := hp.cell 1 _ rfl
  have p2 := hp.cell 2 _ rfl
  have pf1 := hp.free 1
  have pf2 := hp.free 2
  have hpl := hp.lt
  have HP := Lib.hid hp
  have HRow := Lib.hid hrow
  have HV := Lib.hid hv
  clear h hp hR hn hgv hrow hv
  by_cases hs : 16384 < s.size
  · rw [if_pos hs] at hR'
    subst hR'
    go_enter Try.func11, Try.ntmps11
    go_wp2_with fail
    go_ret
    exact ⟨rfl, EndOut.same HE.out (Below.refl _ _)⟩
  · rw [if_neg hs] at hR'
    have hs' : s.size ≤ 16384 := by omega
    clear hs
    by_cases h32 : 32 ≤ n
    · rw [if_pos h32] at hR'
      subst hR'
      go_enter Try.func11, Try.ntmps11
      go_wp2_with fail
      go_ret
      exact ⟨rfl, EndOut.same HE.out (Below.refl _ _)⟩
    · rw [if_neg h32] at hR'
      subst hR'
      have h32' : n < 32 := by omega
      clear h32
      have HRow1 := Lib.hid (show SRow (w.alloc (.cells #[.string s] 9)) (.slice A n cap) E.op by rw [← HN.out]; exact HRow.out.below (bnew w _))
      have HNew := Lib.hid (Src.one (Has.new w (.cells #[.string s] 9)) 1)
      have HPP : Hid (∀ w6, World.grownBy (w.alloc (.cells #[.string s] 9)) w6 (Value.slice A n cap).ownBlock → Has w6 p (.cells #[.int .i64 E.ep, .slice A n cap, .int .i64 (gv : Int), .int .i64 (E.gt : Int), .map (some mb), .bool E.ow] 66)) := Lib.hid (fun w6 g => (HP.out.alloc _).held (S := fun k => r = some k) (Kept.grown g (fun j e => by rw [← HV.out, HN.out]; exact e)) (fun e => hne.2.1 e))
      go_enter Try.func11, Try.ntmps11
      go_wp2_with (at_builtin; refine wpList_srow_append rfl (.tmp 23) (.tmp 25) rfl _ (.slice A n cap) E.op rfl HRow1.out _ rfl [s] HNew.out (by rw [HN.out]; simp only [List.length_cons, List.length_nil]; omega) ?_; intro v6 w6 R6 g6 f6; have P6 := HPP.out w6 g6; have p61 := P6.cell 1 _ rfl; have p62 := P6.cell 2 _ rfl; have pf61 := P6.free 1; have pf62 := P6.free 2; have hpl6 := P6.lt; obtain ⟨A6, cap6, rfl, h61, h62⟩ := R6.form; have R6' := Lib.hid R6; have g6' := Lib.hid g6; have f6' := Lib.hid f6; have PP6 := Lib.hid P6; clear R6 g6 f6 P6)
      go_ret
      have hop : (E.op ++ [s]).length = E.op.length + 1 := by rw [List.length_append]; rfl
      rw [hop] at R6'
      refine ⟨rfl, HE.out.turn (v6 := .slice A6 (E.op.length + 1) cap6) (q6 := E.op ++ [s]) ((Kept.of (bnew w _)).trans (Kept.grown g6'.out (fun j e => by rw [← HV.out, HN.out]; exact e))) R6'.out (fun g e => ?_) ((But.set p 1 w6 _).trans (But.set p 2 _ _)) ?_ rfl rfl (Nat.le_refl _)⟩
      · rcases f6'.out g (by rw [hop]; exact e) with h3 | h3
        · exact .inl (by rw [← HV.out, HN.out]; exact h3)
        · exact .inr (by simp at h3; omega)
      · have := (PP6.out.set 1 (.slice A6 (E.op.length + 1) cap6)).set 2 (.int .i64 ((gv : Int) + 1))
        rw [show (gv : Int) + 1 = ((E.gv + 1 : Nat) : Int) by rw [HGV.out]; rfl] at this ⊢
        exact this
end
end Go.Proofs.Ytgabonacpoimfaa
