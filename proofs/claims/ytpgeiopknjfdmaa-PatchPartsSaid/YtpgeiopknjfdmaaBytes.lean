/-
  Bytes that a call gathers in a slice of its own: what an append of one byte leaves, and what the slice is as a text.
-/
import Derived.Test.YtpgeiopknjfdmaaMem
namespace Go.Proofs.Ytpgeiopknjfdmaa
open Go.RowKit

/-- A text of these bytes. -/
def bs (l : List UInt8) : ByteArray := ⟨l.toArray⟩
theorem bs_data (l : List UInt8) : (bs l).data.toList = l := rfl
theorem bs_size (l : List UInt8) : (bs l).size = l.length := by show l.toArray.size = _; simp
theorem bs_self (s : ByteArray) : bs s.data.toList = s := rfl
theorem bs_append (a b : List UInt8) : bs a ++ bs b = bs (a ++ b) := ByteArray.mk_append_mk a b
theorem bs_inj {a b : List UInt8} : bs a = bs b ↔ a = b := ⟨fun h => by have := congrArg (fun x => x.data.toList) h; simpa [bs_data] using this, fun h => h ▸ rfl⟩
def byteVals (l : List UInt8) : List Value := l.map fun b => .int .u8 (b.toNat : Int)
/-- The slice value v is the call's own row of these bytes. -/
def RowB (base : Nat) (w : World) (v : Value) (l : List UInt8) : Prop := w.ownsRow base 5 1 v l.length (byteVals l)
theorem RowB.nil (base : Nat) (w : World) : RowB base w (.slice none 0 0) [] := World.ownsRow_nil _ _ _ _
theorem RowB.empty (base : Nat) (w : World) (hb : base ≤ w.heap.size) : RowB base (w.alloc (.cells #[] 5)) (.slice (some ⟨w.heap.size, 0, none⟩) 0 0) [] :=
  World.ownsRow_lit w #[] 0 hb (by unfold maxLen; omega) rfl
theorem RowB.alloc {base : Nat} {w : World} {v : Value} {l : List UInt8} (h : RowB base w v l) (o : Obj) : RowB base (w.alloc o) v l := World.ownsRow.alloc h o
theorem info8 : (Try.prog.info? 5).map (fun i => (i.zero, i.size, i.bytes)) = some (some (.int .u8 0), 1, 1) := by kernel_rfl

end Go.Proofs.Ytpgeiopknjfdmaa
