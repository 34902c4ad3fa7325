/-
  What comes in its turn, over a list that isn't shortened on the way.
-/
import Derived.Test.YtgabonacpoimfaaCrMem
namespace Go.Proofs.Ytgabonacpoimfaa
open Go.RowKit
set_option linter.unusedVariables false
set_option linter.unusedSimpArgs false
def Drn (l : List Tx) (g : Nat) (o : List ByteArray) (g' : Nat) : Prop :=
  g ≤ g' ∧ (drain l g).1 = o ++ (drain (l.filter (fun x => decide (g' < x.1))) g').1 ∧ (drain l g).2 = (drain (l.filter (fun x => decide (g' < x.1))) g').2
theorem Drn.start {l : List Tx} {g : Nat} (h : ∀ x ∈ l, g < x.1) : Drn l g [] g := by
  have e : l.filter (fun x => decide (g < x.1)) = l := List.filter_eq_self.2 (fun x hx => by simpa using h x hx)
  exact ⟨Nat.le_refl _, by rw [e]; rfl, by rw [e]⟩
theorem Drn.step {l : List Tx} {g g' : Nat} {o : List ByteArray} {s : ByteArray} (h : Drn l g o g') (hs : look l (g' + 1) = some s) : Drn l g (o ++ [s]) (g' + 1) := by
  obtain ⟨h0, h1, h2⟩ := h
  have hs' : look (l.filter (fun x => decide (g' < x.1))) (g' + 1) = some s := by rw [look_filter l g' (g' + 1) (by omega)]; exact hs
  have hd := drain_some hs'
  have hf : (l.filter (fun x => decide (g' < x.1))).filter (fun x => decide (g' + 1 < x.1)) = l.filter (fun x => decide (g' + 1 < x.1)) := by
    rw [List.filter_filter]
    refine List.filter_congr fun x _ => ?_
    by_cases e : g' + 1 < x.1
    · have : g' < x.1 := by omega
      simp [e, this]
    · simp [e]
  rw [hf] at hd
  rw [hd] at h1 h2
  exact ⟨by omega, by rw [h1]; simp, h2⟩
theorem Drn.stop {l : List Tx} {g g' : Nat} {o : List ByteArray} (h : Drn l g o g') (hs : look l (g' + 1) = none) : (drain l g).1 = o ∧ (drain l g).2.1 = aboveT l (g' : Int) ∧ (drain l g).2.2 = g' := by
  obtain ⟨h0, h1, h2⟩ := h
  have hs' : look (l.filter (fun x => decide (g' < x.1))) (g' + 1) = none := by rw [look_filter l g' (g' + 1) (by omega)]; exact hs
  rw [drain_none hs'] at h1 h2
  refine ⟨by rw [h1]; simp, ?_, by rw [h2]⟩
  rw [h2]
  unfold aboveT
  refine List.filter_congr fun x _ => ?_
  simp
/-- The reference's row behind an acknowledgement. -/
theorem ack_above {e : En} {x : Gr} (h : e.ok) (hr : rightE e x = 0) : aboveT (rfOf e).L x.ak = numF (e.gv - (ackE e x).length + 1) (ackE e x) := by
  obtain ⟨_, h1, h2, _⟩ := right_ok hr
  obtain ⟨a, ha⟩ : ∃ a : Nat, x.ak = a := ⟨x.ak.toNat, by omega⟩
  have hop := h.op
  show aboveT (numF (e.gv - e.op.length + 1) e.op) x.ak = _
  rw [ha, numF_above]
  unfold ackE
  rw [ha, Int.toNat_natCast]
  have e1 : a + 1 - (e.gv - e.op.length + 1) = e.op.length - (e.gv - a) := by omega
  rw [e1, List.length_drop]
  congr 1
  omega
end Go.Proofs.Ytgabonacpoimfaa
