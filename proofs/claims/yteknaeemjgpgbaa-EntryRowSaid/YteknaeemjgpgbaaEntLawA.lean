/-
  What entries cost, and the undoing of a change, in plain words.
-/
import Derived.Test.YteknaeemjgpgbaaEntLaw
import Derived.Test.YteknaeemjgpgbaaEntCost
namespace Go.Proofs.Yteknaeemjgpgbaa
open Go.RowKit Go.Sort NibPure

theorem cost_bounds (x : Ent) (h : x.good = true) : 2 ≤ x.cost ∧ x.cost ≤ 3 := by
  have h1 := bytes_len' x h
  have h2 := bytes_pos x
  unfold Ent.cost
  rw [if_pos h]
  omega
/-- The undoing of a change. -/
def Ent.undo (x : Ent) : Ent := ⟨2, x.cl, x.ep, x.n, x.lsn + 1, x.lsn, x.page, x.slot, x.iu, x.ix, x.wu, x.wd, x.prev⟩
theorem undo_good (x : Ent) (h : x.good = true) (hk : x.kind = 1) (hl : x.lsn ≠ 1099511627776) : x.undo.good = true := by
  simp only [Ent.good, hk, if_true, Bool.and_eq_true, Ent.lsnB, Ent.prevB, Ent.changeB, Ent.pageB, Ent.placeB, decide_eq_true_eq] at h
  obtain ⟨⟨h1, ⟨h2, h3⟩, h4, h5⟩, ⟨⟨h6, h7⟩, ⟨h8, h9⟩, h10, h11⟩, h12⟩ := h
  have e : x.undo.known = true := h1
  simp only [Ent.good, e]
  simp only [Ent.undo]
  rw [if_neg (by omega), if_pos trivial]
  simp only [Ent.lsnB, Ent.prevB, Ent.changeB, Ent.nextB, Ent.pageB, Ent.placeB, h10, h11, Bool.and_eq_true, decide_eq_true_eq, true_and, and_true]
  omega
end Go.Proofs.Yteknaeemjgpgbaa
