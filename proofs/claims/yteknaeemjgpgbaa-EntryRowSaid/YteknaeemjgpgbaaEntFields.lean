/-
  The places of an entry's numbers.
-/
import Derived.Test.YteknaeemjgpgbaaEntC
import Derived.StillTailTactics
import Derived.Deep.Cut
namespace Go.Proofs.Yteknaeemjgpgbaa
open Go.RowKit Go.Sort

/-- The places of an entry's numbers, of an entry that begins a block. -/
def ptrs (b : Nat) : Array Value := #[.pointer (some ⟨b, 0, none⟩), .pointer (some ⟨b, 1, none⟩), .pointer (some ⟨b, 2, none⟩), .pointer (some ⟨b, 3, none⟩), .pointer (some ⟨b, 4, none⟩), .pointer (some ⟨b, 5, none⟩), .pointer (some ⟨b, 6, none⟩), .pointer (some ⟨b, 7, none⟩), .pointer (some ⟨b, 12, none⟩)]
set_option maxRecDepth 100000 in
set_option maxHeartbeats 4000000 in
theorem fields_in (b : Nat) (k : Int) (len : Int) (w : World) (h0 : w.cell? ⟨b, 0, none⟩ = some (.int .i64 k)) (hk : ((k != 1) = false ∧ (k != 2) = true ∧ len = 9) ∨ ((k != 1) = true ∧ (k != 2) = false ∧ len = 9) ∨ ((k != 1) = true ∧ (k != 2) = true ∧ len = 6)) :
    Calls Try.prog 21 #[.pointer (some ⟨b, 0, none⟩)] w fun r w' => r = .returned (.slice (some ⟨w.heap.size, 0, none⟩) len.toNat 9) ∧ Has w' w.heap.size (.cells (ptrs b) 46) ∧ Below w.heap.size w w' := by
  have H0 := Lib.hid h0
  rcases hk with ⟨k1, k2, rfl⟩ | ⟨k1, k2, rfl⟩ | ⟨k1, k2, rfl⟩ <;>
  · go_enter Try.func21, Try.ntmps21
    go_wp2_with fail
    go_still_tail 30, (by kernel_rfl)
    change wpList _ _ _ _ _ w.drew
    clear h0
    go_upto_region 2 with (fail)
    generalize hw3 : World.drew _ = w3
    have hH : Has w3 w.heap.size (.cells (ptrs b) 46) := by rw [← hw3]; exact (Has.new w _).drew
    have hB : Below w.heap.size w w3 := by rw [← hw3]; exact ((Below.refl w.heap.size w).alloc (Nat.le_refl _) _).drew
    clear hw3
    have h0 : w3.cell? ⟨b, 0, none⟩ = some (.int .i64 k) := by rw [hB.cell (block_lt_of_cell H0.out)]; exact H0.out
    go_wp2_with fail
    go_ret
    exact ⟨rfl, hH, hB⟩
theorem fields_any (b : Nat) (k : Int) (w : World) (h0 : w.cell? ⟨b, 0, none⟩ = some (.int .i64 k)) :
    Calls Try.prog 21 #[.pointer (some ⟨b, 0, none⟩)] w fun r w' => r = .returned (.slice (some ⟨w.heap.size, 0, none⟩) (if k = 1 ∨ k = 2 then 9 else 6) 9) ∧ Has w' w.heap.size (.cells (ptrs b) 46) ∧ Below w.heap.size w w' := by
  by_cases k1 : k = 1
  · subst k1; exact fields_in b 1 9 w h0 (.inl ⟨rfl, rfl, rfl⟩)
  by_cases k2 : k = 2
  · subst k2; exact fields_in b 2 9 w h0 (.inr (.inl ⟨rfl, rfl, rfl⟩))
  rw [if_neg (by simp [k1, k2])]
  exact fields_in b k 6 w h0 (.inr (.inr ⟨by simpa using k1, by simpa using k2, rfl⟩))
end Go.Proofs.Yteknaeemjgpgbaa
