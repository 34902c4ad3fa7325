/-
  The reference: which fields a kind has, as letters.
-/
import Derived.Test.YtakdagmkkelnfaaNoR1
namespace Go.Proofs.Ytakdagmkkelnfaa
open Go.RowKit Go.Sort NibPure SumPure
set_option linter.unusedVariables false
set_option linter.unusedSimpArgs false
/-- The letters of a kind. -/
def hasL (k : Int) (need : Bool) : List UInt8 :=
  if k < 1 ∨ 13 < k then [63] else if k = 9 ∧ need = true then [112, 120, 110, 105] else
  if k = 1 then [112, 120, 110] else if k = 2 then [112, 120] else if k = 3 then [112] else if k = 4 then [101] else if k = 5 then [112, 105] else if k = 6 then [116] else if k = 7 then [107] else
  if k = 8 then [107] else if k = 9 then [112, 120, 110] else if k = 10 then [112, 120] else if k = 11 then [116] else if k = 12 then [] else [107]
def isIn (c : UInt8) (l : List UInt8) : Bool := l.any (fun x => x.toNat == c.toNat)
theorem hasL_in (k : Int) (need : Bool) : isIn 112 (hasL k need) = kP k ∧ isIn 120 (hasL k need) = kX k ∧ isIn 110 (hasL k need) = kN k ∧ isIn 116 (hasL k need) = kT k ∧ isIn 107 (hasL k need) = kC k ∧ isIn 105 (hasL k need) = kI k need ∧ isIn 101 (hasL k need) = kE k ∧ (hasL k need == [63]) = (!kIs k) := by
  have key : k = 1 ∨ k = 2 ∨ k = 3 ∨ k = 4 ∨ k = 5 ∨ k = 6 ∨ k = 7 ∨ k = 8 ∨ k = 9 ∨ k = 10 ∨ k = 11 ∨ k = 12 ∨ k = 13 ∨ (k < 1 ∨ 13 < k) := by omega
  rcases key with rfl | rfl | rfl | rfl | rfl | rfl | rfl | rfl | rfl | rfl | rfl | rfl | rfl | hk
  iterate 13 (cases need <;> decide)
  have h1 : (k == 1) = false := by simp; omega
  have h2 : (k == 2) = false := by simp; omega
  have h3 : (k == 3) = false := by simp; omega
  have h4 : (k == 4) = false := by simp; omega
  have h5 : (k == 5) = false := by simp; omega
  have h6 : (k == 6) = false := by simp; omega
  have h7 : (k == 7) = false := by simp; omega
  have h8 : (k == 8) = false := by simp; omega
  have h9 : (k == 9) = false := by simp; omega
  have h10 : (k == 10) = false := by simp; omega
  have h11 : (k == 11) = false := by simp; omega
  have h13 : (k == 13) = false := by simp; omega
  have hi : kIs k = false := by unfold kIs; simp; omega
  have hL : hasL k need = [63] := by unfold hasL; rw [if_pos hk]
  rw [hL, hi]
  unfold kP kX kN kT kC kI kE
  simp only [h1, h2, h3, h4, h5, h6, h7, h8, h9, h10, h11, h13]
  cases need <;> decide
set_option maxRecDepth 100000 in
set_option maxHeartbeats 16000000 in
theorem rhas_any (k pg : Int) (x need : Bool) (n tc te tn lsn : Int) (A : Option Addr) (sn sc : Nat) (B : Option Addr) (en ec : Nat) (w : World) :
    Calls Try.prog 36 #[.agg #[.int .i64 k, .int .i64 pg, .bool x, .bool need, .int .i64 n, .int .i64 tc, .int .i64 te, .int .i64 tn, .int .i64 lsn, .slice A sn sc, .slice B en ec]] w fun e w' => e = .returned (.string (bs (hasL k need))) ∧ Below w.heap.size w w' := by
  have key : k = 1 ∨ k = 2 ∨ k = 3 ∨ k = 4 ∨ k = 5 ∨ k = 6 ∨ k = 7 ∨ k = 8 ∨ k = 9 ∨ k = 10 ∨ k = 11 ∨ k = 12 ∨ k = 13 ∨ (k < 1 ∨ 13 < k) := by omega
  rcases key with rfl | rfl | rfl | rfl | rfl | rfl | rfl | rfl | rfl | rfl | rfl | rfl | rfl | hk
  case inr.inr.inr.inr.inr.inr.inr.inr.inr.inr.inr.inr.inr =>
    rw [show hasL k need = [63] by unfold hasL; rw [if_pos hk]]
    rcases hk with hk | hk
    all_goals
      go_enter Try.func36, Try.ntmps36
      go_wp2_with fail
      go_ret
      exact ⟨rfl, bup (bnew _ _) (bnew _ _)⟩
  all_goals cases need
  all_goals
    go_enter Try.func36, Try.ntmps36
    go_wp2_with fail
    go_ret
    exact ⟨rfl, bup (bnew _ _) (bnew _ _)⟩
theorem rletter_any (c : UInt8) (k : Int) (need : Bool) (b : Bool) (h : isIn c (hasL k need) = b) (w : World) :
    Calls Try.prog 38 #[.string (bs (hasL k need)), .int .u8 (c.toNat : Int)] w fun e w' => e = .returned (.bool b) ∧ Below w.heap.size w w' := by
  have hl : (hasL k need).length ≤ 4 := by
    clear h
    have key : k = 1 ∨ k = 2 ∨ k = 3 ∨ k = 4 ∨ k = 5 ∨ k = 6 ∨ k = 7 ∨ k = 8 ∨ k = 9 ∨ k = 10 ∨ k = 11 ∨ k = 12 ∨ k = 13 ∨ (k < 1 ∨ 13 < k) := by omega
    rcases key with rfl | rfl | rfl | rfl | rfl | rfl | rfl | rfl | rfl | rfl | rfl | rfl | rfl | hk
    iterate 13 (cases need <;> decide)
    rw [show hasL k need = [63] by unfold hasL; rw [if_pos hk]]
    decide
  have := rin_any (bs (hasL k need)) c w (by rw [bs_size]; omega)
  rw [bs_data] at this
  have e : ((hasL k need).any (fun x => x.toNat == c.toNat)) = b := h
  rw [e] at this
  exact this
end Go.Proofs.Ytakdagmkkelnfaa
