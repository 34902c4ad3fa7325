/-
  What stands of an end that is called, in plain words.
-/
import Derived.Test.YtgabonacpoimfaaCoRes
namespace Go.Proofs.Ytgabonacpoimfaa
open Go.RowKit
set_option linter.unusedVariables false
set_option linter.unusedSimpArgs false
theorem En.new_ok (ep : Int) : (En.new ep).ok := ⟨Nat.le_refl _, by simp [En.new], (fun x h => by cases h), Nat.le_refl _⟩
theorem sendE_gv (e : En) (s : ByteArray) : (sendE e s).1.gv ≤ e.gv + 1 ∧ e.gv ≤ (sendE e s).1.gv := by unfold sendE; split; simp; split <;> simp
theorem sendE_tk (e : En) (s : ByteArray) : (sendE e s).1.tk = e.tk := by unfold sendE; split; simp; split <;> simp
theorem sendE_ep (e : En) (s : ByteArray) : (sendE e s).1.ep = e.ep := by unfold sendE; split; simp; split <;> simp
theorem sendE_ok {e : En} (h : e.ok) (s : ByteArray) : (sendE e s).1.ok := by
  unfold sendE
  split
  · exact h
  · split
    · exact h
    · have h1 := h.op
      have h2 := h.most
      exact ⟨by simp only [List.length_append, List.length_cons, List.length_nil]; omega, by simp only [List.length_append, List.length_cons, List.length_nil]; omega, h.ea, h.tk⟩
theorem outE_ok {e : En} (h : e.ok) : (outE e).ok := ⟨h.op, h.most, h.ea, h.tk⟩
theorem takeE_gv (e : En) (g : Gr) : (takeE e g).1.gv = e.gv := by unfold takeE; split; simp; split <;> simp
theorem takeE_tk (e : En) (g : Gr) : (takeE e g).1.tk ≤ e.tk + 1 := by unfold takeE; split; simp; split <;> simp
theorem takeE_ep (e : En) (g : Gr) : (takeE e g).1.ep = e.ep := by unfold takeE; split; simp; split <;> simp
theorem early_bound {e : En} (h : e.ok) (g : Gr) (hr : rightE e g = 0) : (∀ x ∈ earlyE e g, e.gt < x.1 ∧ x.1 ≤ e.gt + 32) ∧ e.gt + (earlyE e g).length ≤ e.tk + 1 := by
  obtain ⟨_, _, _, h4, h5, _, _⟩ := right_ok hr
  have ht := h.tk
  unfold earlyE
  split
  · rename_i hc
    refine ⟨fun x hx => ?_, by rw [List.length_append]; simp only [List.length_cons, List.length_nil]; omega⟩
    rcases List.mem_append.1 hx with h1 | h1
    · exact h.ea x h1
    · simp at h1; subst h1; have := hc.2; exact ⟨by show e.gt < g.sq.toNat; omega, by show g.sq.toNat ≤ _; omega⟩
  · exact ⟨h.ea, by omega⟩
theorem takeE_ok {e : En} (h : e.ok) (g : Gr) : (takeE e g).1.ok := by
  unfold takeE
  split
  · exact h
  · rename_i hr
    have hr : rightE e g = 0 := by simpa using hr
    have h1 := h.op
    have h2 := h.most
    have ha : (ackE e g).length ≤ e.op.length := by unfold ackE; rw [List.length_drop]; omega
    split
    · exact ⟨by simp only; omega, by simp only; omega, h.ea, h.tk⟩
    · obtain ⟨hb1, hb2⟩ := early_bound h g hr
      obtain ⟨hd1, hd2⟩ := drain_len (earlyE e g) e.gt
      obtain ⟨ha1, ha2, ha3⟩ := drain_above (earlyE e g) e.gt (fun x hx => (hb1 x hx).1)
      refine ⟨by simp only; omega, by simp only; omega, fun x hx => ⟨ha1 x hx, ?_⟩, by simp only; omega⟩
      have := (hb1 x (ha3 x hx)).2
      simp only; omega
end Go.Proofs.Ytgabonacpoimfaa
