/-
  Small facts on memory: what a conversion of a text to bytes lays.
-/
import Derived.Test.YtgabonacpoimfaaRows
import Derived.WalkKit
import Derived.WalkSpells
import Derived.WalkLawsBesides
import Derived.Lib.Hide
namespace Go.Proofs.Ytgabonacpoimfaa
open Go.RowKit

/-- The world behind a conversion of a text to a slice of bytes. -/
def strWorld (e : TypeId) (w : World) (s : ByteArray) : World :=
  w.drew.alloc (.cells (bytesRow s (grownCap w s.size 0 e)) e ((bytesRow s (grownCap w s.size 0 e)).size, (bytesRow s (grownCap w s.size 0 e)).size + 1))
theorem strWorld_conv {P : Program} {src dst e : TypeId} (hs : P.underlying src = some .string) (hd : P.underlying dst = some (.slice e)) (he : P.underlying e = some (.int .u8)) (w : World) (s : ByteArray) :
    (convert src dst (.string s)).run P w = .ok (.slice (some ⟨w.heap.size, 0, none⟩) s.size (grownCap w s.size 0 e)) (strWorld e w s) :=
  run_bytes_of_string w src dst e s hs hd he
theorem strWorld_below (e : TypeId) (w : World) (s : ByteArray) {B : Nat} (hB : B ≤ w.heap.size) : Below B w (strWorld e w s) :=
  (Below.refl _ _).drew.alloc (by simpa using hB) _
theorem strWorld_size (e : TypeId) (w : World) (s : ByteArray) : (strWorld e w s).heap.size = w.heap.size + 1 := by
  simp [strWorld]
theorem strWorld_cell (e : TypeId) (w : World) (s : ByteArray) (j : Nat) (hj : j < s.size) :
    (strWorld e w s).cell? ⟨w.heap.size, j, none⟩ = some (.int .u8 (s[j].toNat : Int)) := by
  have : (strWorld e w s).heap[w.heap.size]? = some (.cells (bytesRow s (grownCap w s.size 0 e)) e ((bytesRow s (grownCap w s.size 0 e)).size, (bytesRow s (grownCap w s.size 0 e)).size + 1)) := by
    show (w.heap.push _)[w.heap.size]? = _
    simp
  simp only [World.cell?, this]
  simp [bytesRow, Array.getElem?_append, hj]
  rfl

/-- The walk stands still here. -/
def Stop (p : Prop) : Prop := p
theorem stop_here {p : Prop} (h : Stop p) : p := h
/-- Block b of the world holds this. -/
def Has (w : World) (b : Nat) (o : Obj) : Prop := w.heap[b]? = some o
theorem Has.new (w : World) (o : Obj) : Has (w.alloc o) w.heap.size o := by
  show (w.heap.push o)[w.heap.size]? = some o
  simp
theorem Has.at (w : World) (o : Obj) {b : Nat} (h : b = w.heap.size) : Has (w.alloc o) b o := h ▸ Has.new w o
theorem Has.new1 (w : World) (x o : Obj) : Has ((w.alloc x).alloc o) (w.heap.size + 1) o := Has.at _ _ (by simp)
theorem Has.new2 (w : World) (y x o : Obj) : Has (((w.alloc y).alloc x).alloc o) (w.heap.size + 1 + 1) o := Has.at _ _ (by simp)
theorem Has.lt {w : World} {b : Nat} {o : Obj} (h : Has w b o) : b < w.heap.size := by
  unfold Has at h
  exact (Array.getElem?_eq_some_iff.1 h).1
theorem Has.alloc {w : World} {b : Nat} {o : Obj} (h : Has w b o) (x : Obj) : Has (w.alloc x) b o := by
  have := h.lt
  unfold Has at *
  rw [Below.heap_alloc _ _ _ this]; exact h
theorem Has.drew {w : World} {b : Nat} {o : Obj} (h : Has w b o) : Has w.drew b o := h
theorem Has.below {w w' : World} {b : Nat} {o : Obj} (h : Has w b o) (hb : Below w.heap.size w w') : Has w' b o := by
  have := h.lt
  unfold Has at *
  rw [hb.block _ this]; exact h
theorem Has.cell {w : World} {b : Nat} {C : Array Value} {e : TypeId} {m : Nat × Nat} (h : Has w b (.cells C e m)) (i : Nat) (v : Value) (hv : C[i]? = some v) : w.cell? ⟨b, i, none⟩ = some v := by
  unfold Has at h
  simp only [World.cell?, h]
  simpa using hv
theorem Has.free {w : World} {b : Nat} {C : Array Value} {e : TypeId} (h : Has w b (.cells C e)) (i : Nat) : w.frozen? ⟨b, i, none⟩ = false := by
  unfold Has at h
  simp [World.frozen?, h]
/-- What stands above an older world. -/
theorem bup {w w1 w2 : World} (h : Below w.heap.size w w1) (k : Below w1.heap.size w1 w2) : Below w.heap.size w w2 := h.trans (k.mono h.size)
theorem bnew (w : World) (o : Obj) : Below w.heap.size w (w.alloc o) := (Below.refl _ _).alloc (Nat.le_refl _) _
end Go.Proofs.Ytgabonacpoimfaa
