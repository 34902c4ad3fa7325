/-
  Bytes that a call gathers in a slice of its own: what an append of one byte leaves, and what the slice is as a text.
-/
import Derived.Test.YtklmoigpalhlmaaMem
namespace Go.Proofs.Ytklmoigpalhlmaa
open Go.RowKit

/-- A text of these bytes. -/
def bs (l : List UInt8) : ByteArray := ⟨l.toArray⟩
theorem bs_data (l : List UInt8) : (bs l).data.toList = l := rfl
theorem bs_size (l : List UInt8) : (bs l).size = l.length := by show l.toArray.size = _; simp
theorem bs_self (s : ByteArray) : bs s.data.toList = s := rfl
theorem bs_append (a b : List UInt8) : bs a ++ bs b = bs (a ++ b) := ByteArray.mk_append_mk a b
theorem bs_inj {a b : List UInt8} : bs a = bs b ↔ a = b := ⟨fun h => by have := congrArg (fun x => x.data.toList) h; simpa [bs_data] using this, fun h => h ▸ rfl⟩
def byteVals (l : List UInt8) : List Value := l.map fun b => .int .u8 (b.toNat : Int)
/-- The slice value v is the call's own row of these bytes. -/
def RowB (base : Nat) (w : World) (v : Value) (l : List UInt8) : Prop := w.ownsRow base 5 1 v l.length (byteVals l)
theorem RowB.nil (base : Nat) (w : World) : RowB base w (.slice none 0 0) [] := World.ownsRow_nil _ _ _ _
theorem RowB.empty (base : Nat) (w : World) (hb : base ≤ w.heap.size) : RowB base (w.alloc (.cells #[] 5)) (.slice (some ⟨w.heap.size, 0, none⟩) 0 0) [] :=
  World.ownsRow_lit w #[] 0 hb (by unfold maxLen; omega) rfl
theorem RowB.alloc {base : Nat} {w : World} {v : Value} {l : List UInt8} (h : RowB base w v l) (o : Obj) : RowB base (w.alloc o) v l := World.ownsRow.alloc h o
theorem info8 : (Try.prog.info? 5).map (fun i => (i.zero, i.size, i.bytes)) = some (some (.int .u8 0), 1, 1) := by kernel_rfl

theorem append_byte {ops : Array Oper} {rest : List Oper} {o : Oper} {a : Act} {Q : Exit → Act → World → Prop} (hgd : o.guard = none) (s x : Operand)
    (ho : o.op = .call { callee := .builtin .append, args := #[s, x], argTypes := #[36, 36] }) (base : Nat) (w : World) (v : Value) (l : List UInt8) (c : UInt8) (k : Int)
    (hs : a.eval s = v) (hx : a.eval x = .slice (some ⟨w.heap.size, 0, none⟩) 1 1) (hrow : RowB base w v l) (hk : k = (c.toNat : Int)) (hlen : l.length < 140737488355328) (hbase : base ≤ w.heap.size)
    (h : ∀ v' w', RowB base w' v' (l ++ [c]) → Below base w w' → wpList Try.prog ops Q rest (a.put o.dst v') w') :
    wpList Try.prog ops Q (o :: rest) a (w.alloc (.cells #[.int .u8 k] 5)) := by
  obtain ⟨i0, hi, hz0, hz1, hz2⟩ := info_parts info8
  subst hk
  refine wpList_append_own _ hgd s x 36 ho base 5 i0 (.int .u8 0) 1 1 Try.underlying36 hi hz0 hz1 hz2 rfl (by decide) v l.length (byteVals l) hs (hrow.alloc _) ⟨w.heap.size, 0, none⟩ 1 1 (byteVals [c]) hx rfl ?_ ?_ ?_ ?_ ?_ ?_
  · intro j u hj
    match j, hj with
    | 0, hj =>
      simp [byteVals] at hj
      subst hj
      exact (Has.new w _).cell 0 _ rfl
  · intro u hu
    simp [byteVals] at hu
    subst hu; rfl
  · unfold maxLen; omega
  · omega
  · simp; omega
  · intro v' w' hown hgrow _
    refine h v' w' ?_ ?_
    · unfold RowB byteVals at *
      simpa using hown
    · refine (((Below.refl base w).alloc hbase _).grown hgrow (by simp; omega) ?_)
      intro g hg
      exact (World.ownsRow.lt hrow g hg).1

theorem row_string {base : Nat} {w : World} {v : Value} {l : List UInt8} (h : RowB base w v l) : (convert 36 9 v).run Try.prog w = .ok (.string (bs l)) w := by
  rcases h.2 with ⟨rfl, h0⟩ | ⟨g, cap, cur, rfl, hb, hg, hn, hc, hs, ht⟩
  · have : l = [] := by simpa using h0
    subst this
    exact run_convert_bytes_nil w 36 5 Try.underlying36 Try.underlying5 0 0 9 Try.underlying9
  · refine run_convert_bytes_back w 36 9 5 ⟨g, 0, none⟩ cap l Try.underlying36 Try.underlying5 Try.underlying9 ?_
    intro j hj
    have h1 := World.ownsRow.cellAt h j (by omega)
    rw [show (⟨g, 0, none⟩ : Addr).add j = ⟨g, j, none⟩ by simp [Addr.add]; omega, h1]
    simp [byteVals, List.getElem?_eq_getElem hj]
end Go.Proofs.Ytklmoigpalhlmaa
