/-
  A slice of numbers that came in.
-/
import Derived.Test.YtgabonacpoimfaaMem
namespace Go.Proofs.Ytgabonacpoimfaa
open Go.RowKit

/-- A slice of numbers that came in: nil, or a row of them. -/
def IsInts (w : World) (a : Option Addr) (len cap : Nat) (zs : List Int) : Prop :=
  (a = none ∧ len = 0 ∧ cap = 0 ∧ zs = []) ∨
  ∃ x, a = some x ∧ len ≤ cap ∧ cap ≤ maxLen ∧ zs.length = cap ∧ (∀ i, i < zs.length → w.cell? (x.add i) = some (.int .i64 (zs.getD i 0))) ∧ ∀ n ∈ zs, (Lit.int .i64 n).wf = true
theorem lt_of_cell {w : World} {b o : Nat} {s : Option Nat} {v : Value} (h : w.cell? ⟨b, o, s⟩ = some v) : b < w.heap.size := by
  rcases Nat.lt_or_ge b w.heap.size with h1 | h1
  · exact h1
  · simp [World.cell?, Array.getElem?_eq_none h1] at h
theorem IsInts.cells {w : World} {a : Option Addr} {len cap : Nat} {zs : List Int} (h : IsInts w a len cap zs) (hpos : 0 < len) :
    ∃ b off, a = some ⟨b, off, none⟩ ∧ b < w.heap.size ∧ len ≤ zs.length ∧ (∀ i, i < len → w.cell? ⟨b, off + i, none⟩ = some (.int .i64 (zs.getD i 0))) ∧ ∀ i, i < len → (Lit.int .i64 (zs.getD i 0)).wf = true := by
  rcases h with ⟨_, h, _⟩ | ⟨⟨b, off, sp⟩, rfl, hl, hm, hz, hc, hw⟩
  · omega
  · have h0 := hc 0 (by omega)
    have hsp : sp = none := by simpa [Addr.add] using World.cell?_spot h0
    subst hsp
    refine ⟨b, off, rfl, lt_of_cell (by simpa [Addr.add] using h0), by omega, fun i hi => ?_, fun i hi => ?_⟩
    · have h2 := hc i (by omega)
      have e : (⟨b, off, none⟩ : Addr).add i = ⟨b, off + i, none⟩ := by unfold Addr.add; split <;> simp_all
      rw [e] at h2; exact h2
    · apply hw
      rw [List.getD_eq_getElem?_getD, List.getElem?_eq_getElem (by omega)]
      exact List.getElem_mem _
end Go.Proofs.Ytgabonacpoimfaa
