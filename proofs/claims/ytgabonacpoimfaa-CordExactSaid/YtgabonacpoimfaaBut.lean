/-
  A world in which one block was written and others were laid.
-/
import Derived.Test.YtgabonacpoimfaaMem
import Derived.Laws.Rows
namespace Go.Proofs.Ytgabonacpoimfaa
open Go.RowKit

/-- All old blocks but one are as they were. -/
structure But (b : Nat) (w w' : World) : Prop where
  os : w'.os = w.os
  tape : w'.tape = w.tape
  output : w'.output = w.output
  size : w.heap.size ≤ w'.heap.size
  block : ∀ k, k < w.heap.size → k ≠ b → w'.heap[k]? = w.heap[k]?
theorem But.refl (b : Nat) (w : World) : But b w w := ⟨rfl, rfl, rfl, Nat.le_refl _, fun _ _ _ => rfl⟩
theorem But.of {b : Nat} {w w' : World} (h : Below w.heap.size w w') : But b w w' := ⟨h.os, h.tape, h.output, h.size, fun k hk _ => h.block k hk⟩
theorem But.trans {b : Nat} {w w1 w2 : World} (h : But b w w1) (g : But b w1 w2) : But b w w2 :=
  ⟨g.os.trans h.os, g.tape.trans h.tape, g.output.trans h.output, Nat.le_trans h.size g.size, fun k hk hb => (g.block k (Nat.lt_of_lt_of_le hk h.size) hb).trans (h.block k hk hb)⟩
theorem But.set (b o : Nat) (w : World) (v : Value) : But b w (w.setCell ⟨b, o, none⟩ v) :=
  ⟨rfl, rfl, rfl, by simp, fun k _ hk => Below.heap_setCell w ⟨b, o, none⟩ v k hk⟩
theorem But.below {b B : Nat} {w w' : World} (h : But b w w') (hB : B ≤ b) (hw : B ≤ w.heap.size) : Below B w w' :=
  ⟨h.os, h.tape, h.output, h.size, fun k hk => h.block k (by omega) (by omega)⟩
theorem Has.but {b k : Nat} {w w' : World} {o : Obj} (h : Has w k o) (g : But b w w') (hk : k ≠ b) : Has w' k o := by
  have := h.lt
  unfold Has at *
  rw [g.block k this hk]; exact h
theorem Has.set {w : World} {b : Nat} {C : Array Value} {t : TypeId} {fr : Nat × Nat} (h : Has w b (.cells C t fr)) (o : Nat) (v : Value) : Has (w.setCell ⟨b, o, none⟩ v) b (.cells (C.setIfInBounds o v) t fr) := by
  unfold Has at *
  simp only [World.setCell, Array.getElem?_modify, if_true, h, Option.map_some]
  rfl
theorem But.setNew {b : Nat} {w w1 : World} (h : But b w w1) {g : Nat} (hg : w.heap.size ≤ g) (o : Nat) (v : Value) : But b w (w1.setCell ⟨g, o, none⟩ v) :=
  ⟨h.os, h.tape, h.output, by simpa using h.size, fun k hk hb => (Below.heap_setCell w1 ⟨g, o, none⟩ v k (by simp; omega)).trans (h.block k hk hb)⟩
theorem Has.setOther {w : World} {b : Nat} {O : Obj} (h : Has w b O) {g : Nat} (hg : b ≠ g) (o : Nat) (v : Value) : Has (w.setCell ⟨g, o, none⟩ v) b O := h.but (But.set g o w v) hg
theorem Has.draws {w : World} {b : Nat} {o : Obj} (h : Has w b o) (m : Nat) : Has (w.drewN m) b o := h
theorem draws_below (w : World) (m : Nat) : Below w.heap.size w (w.drewN m) := ⟨rfl, rfl, rfl, Nat.le_refl _, fun _ _ => rfl⟩
end Go.Proofs.Ytgabonacpoimfaa
