/-
  Small facts on memory: what a conversion of a text to bytes lays.
-/
import Derived.Test.YtakdagmkkelnfaaRows
import Derived.WalkKit
import Derived.WalkSpells
import Derived.WalkLawsBesides
import Derived.Lib.Hide
import Derived.Laws.Rows
import Derived.Laws.Tables
import Derived.Laws.CopyRow
import Derived.Laws.IdiomCopy
import Derived.Deep.RegionLaw
import Derived.Laws.AppendOwn
import Derived.Laws.OwnMore
import Derived.Laws.MakeOwn
import Derived.Laws.BitsAllLaws
import Derived.Laws.BitsLemmas
/-! Small facts on memory: what a conversion of a text to bytes lays. -/
namespace Go.Proofs.Ytakdagmkkelnfaa
open Go.RowKit

/-- The world behind a conversion of a text to a slice of bytes. -/
def strWorld (e : TypeId) (w : World) (s : ByteArray) : World :=
  w.drew.alloc (.cells (bytesRow s (grownCap w s.size 0 e)) e ((bytesRow s (grownCap w s.size 0 e)).size, (bytesRow s (grownCap w s.size 0 e)).size + 1))
theorem strWorld_conv {P : Program} {src dst e : TypeId} (hs : P.underlying src = some .string) (hd : P.underlying dst = some (.slice e)) (he : P.underlying e = some (.int .u8)) (w : World) (s : ByteArray) :
    (convert src dst (.string s)).run P w = .ok (.slice (some ⟨w.heap.size, 0, none⟩) s.size (grownCap w s.size 0 e)) (strWorld e w s) :=
  run_bytes_of_string w src dst e s hs hd he
theorem strWorld_below (e : TypeId) (w : World) (s : ByteArray) {B : Nat} (hB : B ≤ w.heap.size) : Below B w (strWorld e w s) :=
  (Below.refl _ _).drew.alloc (by simpa using hB) _
theorem strWorld_size (e : TypeId) (w : World) (s : ByteArray) : (strWorld e w s).heap.size = w.heap.size + 1 := by
  simp [strWorld]
theorem strWorld_cell (e : TypeId) (w : World) (s : ByteArray) (j : Nat) (hj : j < s.size) :
    (strWorld e w s).cell? ⟨w.heap.size, j, none⟩ = some (.int .u8 (s[j].toNat : Int)) := by
  have : (strWorld e w s).heap[w.heap.size]? = some (.cells (bytesRow s (grownCap w s.size 0 e)) e ((bytesRow s (grownCap w s.size 0 e)).size, (bytesRow s (grownCap w s.size 0 e)).size + 1)) := by
    show (w.heap.push _)[w.heap.size]? = _
    simp
  simp only [World.cell?, this]
  simp [bytesRow, Array.getElem?_append, hj]
  rfl

/-- The walk stands still here. -/
def Stop (p : Prop) : Prop := p
theorem stop_here {p : Prop} (h : Stop p) : p := h
/-- Block b of the world holds this. -/
def Has (w : World) (b : Nat) (o : Obj) : Prop := w.heap[b]? = some o
theorem Has.new (w : World) (o : Obj) : Has (w.alloc o) w.heap.size o := by
  show (w.heap.push o)[w.heap.size]? = some o
  simp
theorem Has.at (w : World) (o : Obj) {b : Nat} (h : b = w.heap.size) : Has (w.alloc o) b o := h ▸ Has.new w o
theorem Has.new1 (w : World) (x o : Obj) : Has ((w.alloc x).alloc o) (w.heap.size + 1) o := Has.at _ _ (by simp)
theorem Has.new2 (w : World) (y x o : Obj) : Has (((w.alloc y).alloc x).alloc o) (w.heap.size + 1 + 1) o := Has.at _ _ (by simp)
theorem Has.lt {w : World} {b : Nat} {o : Obj} (h : Has w b o) : b < w.heap.size := by
  unfold Has at h
  exact (Array.getElem?_eq_some_iff.1 h).1
theorem Has.alloc {w : World} {b : Nat} {o : Obj} (h : Has w b o) (x : Obj) : Has (w.alloc x) b o := by
  have := h.lt
  unfold Has at *
  rw [Below.heap_alloc _ _ _ this]; exact h
theorem Has.drew {w : World} {b : Nat} {o : Obj} (h : Has w b o) : Has w.drew b o := h
theorem Has.below {w w' : World} {b : Nat} {o : Obj} (h : Has w b o) (hb : Below w.heap.size w w') : Has w' b o := by
  have := h.lt
  unfold Has at *
  rw [hb.block _ this]; exact h
theorem Has.cell {w : World} {b : Nat} {C : Array Value} {e : TypeId} {m : Nat × Nat} (h : Has w b (.cells C e m)) (i : Nat) (v : Value) (hv : C[i]? = some v) : w.cell? ⟨b, i, none⟩ = some v := by
  unfold Has at h
  simp only [World.cell?, h]
  simpa using hv
theorem Has.free {w : World} {b : Nat} {C : Array Value} {e : TypeId} (h : Has w b (.cells C e)) (i : Nat) : w.frozen? ⟨b, i, none⟩ = false := by
  unfold Has at h
  simp [World.frozen?, h]
/-- What stands above an older world. -/
theorem bup {w w1 w2 : World} (h : Below w.heap.size w w1) (k : Below w1.heap.size w1 w2) : Below w.heap.size w w2 := h.trans (k.mono h.size)
theorem bnew (w : World) (o : Obj) : Below w.heap.size w (w.alloc o) := (Below.refl _ _).alloc (Nat.le_refl _) _
end Go.Proofs.Ytakdagmkkelnfaa

/-! Bytes that a call gathers in a slice of its own: what an append of one byte leaves, and what the slice is as a text. -/
namespace Go.Proofs.Ytakdagmkkelnfaa
open Go.RowKit

/-- A text of these bytes. -/
def bs (l : List UInt8) : ByteArray := ⟨l.toArray⟩
theorem bs_data (l : List UInt8) : (bs l).data.toList = l := rfl
theorem bs_size (l : List UInt8) : (bs l).size = l.length := by show l.toArray.size = _; simp
theorem bs_self (s : ByteArray) : bs s.data.toList = s := rfl
theorem bs_append (a b : List UInt8) : bs a ++ bs b = bs (a ++ b) := ByteArray.mk_append_mk a b
theorem bs_inj {a b : List UInt8} : bs a = bs b ↔ a = b := ⟨fun h => by have := congrArg (fun x => x.data.toList) h; simpa [bs_data] using this, fun h => h ▸ rfl⟩
def byteVals (l : List UInt8) : List Value := l.map fun b => .int .u8 (b.toNat : Int)
/-- The slice value v is the call's own row of these bytes. -/
def RowB (base : Nat) (w : World) (v : Value) (l : List UInt8) : Prop := w.ownsRow base 5 1 v l.length (byteVals l)
theorem RowB.nil (base : Nat) (w : World) : RowB base w (.slice none 0 0) [] := World.ownsRow_nil _ _ _ _
theorem RowB.empty (base : Nat) (w : World) (hb : base ≤ w.heap.size) : RowB base (w.alloc (.cells #[] 5)) (.slice (some ⟨w.heap.size, 0, none⟩) 0 0) [] :=
  World.ownsRow_lit w #[] 0 hb (by unfold maxLen; omega) rfl
theorem RowB.alloc {base : Nat} {w : World} {v : Value} {l : List UInt8} (h : RowB base w v l) (o : Obj) : RowB base (w.alloc o) v l := World.ownsRow.alloc h o
theorem info8 : (Try.prog.info? 5).map (fun i => (i.zero, i.size, i.bytes)) = some (some (.int .u8 0), 1, 1) := by kernel_rfl

theorem append_byte {ops : Array Oper} {rest : List Oper} {o : Oper} {a : Act} {Q : Exit → Act → World → Prop} (hgd : o.guard = none) (s x : Operand)
    (ho : o.op = .call { callee := .builtin .append, args := #[s, x], argTypes := #[37, 37] }) (base : Nat) (w : World) (v : Value) (l : List UInt8) (c : UInt8) (k : Int)
    (hs : a.eval s = v) (hx : a.eval x = .slice (some ⟨w.heap.size, 0, none⟩) 1 1) (hrow : RowB base w v l) (hk : k = (c.toNat : Int)) (hlen : l.length < 140737488355328) (hbase : base ≤ w.heap.size)
    (h : ∀ v' w', RowB base w' v' (l ++ [c]) → Below base w w' → wpList Try.prog ops Q rest (a.put o.dst v') w') :
    wpList Try.prog ops Q (o :: rest) a (w.alloc (.cells #[.int .u8 k] 5)) := by
  obtain ⟨i0, hi, hz0, hz1, hz2⟩ := info_parts info8
  subst hk
  refine wpList_append_own _ hgd s x 37 ho base 5 i0 (.int .u8 0) 1 1 Try.underlying37 hi hz0 hz1 hz2 rfl (by decide) v l.length (byteVals l) hs (hrow.alloc _) ⟨w.heap.size, 0, none⟩ 1 1 (byteVals [c]) hx rfl ?_ ?_ ?_ ?_ ?_ ?_
  · intro j u hj
    match j, hj with
    | 0, hj =>
      simp [byteVals] at hj
      subst hj
      exact (Has.new w _).cell 0 _ rfl
  · intro u hu
    simp [byteVals] at hu
    subst hu; rfl
  · unfold maxLen; omega
  · omega
  · simp; omega
  · intro v' w' hown hgrow _
    refine h v' w' ?_ ?_
    · unfold RowB byteVals at *
      simpa using hown
    · refine (((Below.refl base w).alloc hbase _).grown hgrow (by simp; omega) ?_)
      intro g hg
      exact (World.ownsRow.lt hrow g hg).1

theorem row_string {base : Nat} {w : World} {v : Value} {l : List UInt8} (h : RowB base w v l) : (convert 37 9 v).run Try.prog w = .ok (.string (bs l)) w := by
  rcases h.2 with ⟨rfl, h0⟩ | ⟨g, cap, cur, rfl, hb, hg, hn, hc, hs, ht⟩
  · have : l = [] := by simpa using h0
    subst this
    exact run_convert_bytes_nil w 37 5 Try.underlying37 Try.underlying5 0 0 9 Try.underlying9
  · refine run_convert_bytes_back w 37 9 5 ⟨g, 0, none⟩ cap l Try.underlying37 Try.underlying5 Try.underlying9 ?_
    intro j hj
    have h1 := World.ownsRow.cellAt h j (by omega)
    rw [show (⟨g, 0, none⟩ : Addr).add j = ⟨g, j, none⟩ by simp [Addr.add]; omega, h1]
    simp [byteVals, List.getElem?_eq_getElem hj]
end Go.Proofs.Ytakdagmkkelnfaa

/-! A world in which one block was written and others were laid. -/
namespace Go.Proofs.Ytakdagmkkelnfaa
open Go.RowKit

/-- All old blocks but one are as they were. -/
structure But (b : Nat) (w w' : World) : Prop where
  os : w'.os = w.os
  tape : w'.tape = w.tape
  output : w'.output = w.output
  size : w.heap.size ≤ w'.heap.size
  block : ∀ k, k < w.heap.size → k ≠ b → w'.heap[k]? = w.heap[k]?
theorem But.refl (b : Nat) (w : World) : But b w w := ⟨rfl, rfl, rfl, Nat.le_refl _, fun _ _ _ => rfl⟩
theorem But.of {b : Nat} {w w' : World} (h : Below w.heap.size w w') : But b w w' := ⟨h.os, h.tape, h.output, h.size, fun k hk _ => h.block k hk⟩
theorem But.trans {b : Nat} {w w1 w2 : World} (h : But b w w1) (g : But b w1 w2) : But b w w2 :=
  ⟨g.os.trans h.os, g.tape.trans h.tape, g.output.trans h.output, Nat.le_trans h.size g.size, fun k hk hb => (g.block k (Nat.lt_of_lt_of_le hk h.size) hb).trans (h.block k hk hb)⟩
theorem But.set (b o : Nat) (w : World) (v : Value) : But b w (w.setCell ⟨b, o, none⟩ v) :=
  ⟨rfl, rfl, rfl, by simp, fun k _ hk => Below.heap_setCell w ⟨b, o, none⟩ v k hk⟩
theorem But.below {b B : Nat} {w w' : World} (h : But b w w') (hB : B ≤ b) (hw : B ≤ w.heap.size) : Below B w w' :=
  ⟨h.os, h.tape, h.output, h.size, fun k hk => h.block k (by omega) (by omega)⟩
theorem Has.but {b k : Nat} {w w' : World} {o : Obj} (h : Has w k o) (g : But b w w') (hk : k ≠ b) : Has w' k o := by
  have := h.lt
  unfold Has at *
  rw [g.block k this hk]; exact h
theorem Has.set {w : World} {b : Nat} {C : Array Value} {t : TypeId} {fr : Nat × Nat} (h : Has w b (.cells C t fr)) (o : Nat) (v : Value) : Has (w.setCell ⟨b, o, none⟩ v) b (.cells (C.setIfInBounds o v) t fr) := by
  unfold Has at *
  simp only [World.setCell, Array.getElem?_modify, if_true, h, Option.map_some]
  rfl
theorem But.setNew {b : Nat} {w w1 : World} (h : But b w w1) {g : Nat} (hg : w.heap.size ≤ g) (o : Nat) (v : Value) : But b w (w1.setCell ⟨g, o, none⟩ v) :=
  ⟨h.os, h.tape, h.output, by simpa using h.size, fun k hk hb => (Below.heap_setCell w1 ⟨g, o, none⟩ v k (by simp; omega)).trans (h.block k hk hb)⟩
theorem Has.setOther {w : World} {b : Nat} {O : Obj} (h : Has w b O) {g : Nat} (hg : b ≠ g) (o : Nat) (v : Value) : Has (w.setCell ⟨g, o, none⟩ v) b O := h.but (But.set g o w v) hg
theorem Has.draws {w : World} {b : Nat} {o : Obj} (h : Has w b o) (m : Nat) : Has (w.drewN m) b o := h
theorem draws_below (w : World) (m : Nat) : Below w.heap.size w (w.drewN m) := ⟨rfl, rfl, rfl, Nat.le_refl _, fun _ _ => rfl⟩
end Go.Proofs.Ytakdagmkkelnfaa

/-! Stores of whole rows and copies of rows, the world behind them a letter. -/
namespace Go.Proofs.Ytakdagmkkelnfaa
open Go.RowKit
set_option linter.unusedVariables false

theorem But.setRow (g : Nat) (w : World) (cs : Array Value) : But g w (w.setRow g cs) :=
  ⟨rfl, rfl, rfl, by simp [World.setRow], fun k _ hne => setRow_other w g k cs hne⟩
theorem Has.setRow {w : World} {g : Nat} {old : Array Value} {t : TypeId} {fr : Nat × Nat} (h : Has w g (.cells old t fr)) (cs : Array Value) : Has (w.setRow g cs) g (.cells cs t fr) := setRow_heap w g old cs t fr h
theorem wpList_put_row {P : Program} {ops : Array Oper} {rest : List Oper} {o : Oper} {a : Act} {w : World} {Q : Exit → Act → World → Prop} (hgd : o.guard = none) (ty : TypeId) (x y : Operand) (ho : o.op = .store ty x y)
    (hd : o.dst = none) (g : Nat) (cells : Array Value) (hx : a.eval x = .pointer (some ⟨g, 0, none⟩)) (hy : a.eval y = .agg cells)
    (t : TypeId) (old : Array Value) (hg : Has w g (.cells old t)) (hi : (P.info? ty).map (·.size) = some cells.size)
    (hold : old.size = cells.size) (h1 : cells.all (·.oneCell') = true)
    (h : ∀ w', Has w' g (.cells cells t) → But g w w' → wpList P ops Q rest a w') : wpList P ops Q (o :: rest) a w :=
  wpList_store_row hgd ty x y ho g cells hx hy t old hg hi hold h1 (by rw [hd]; exact h _ (Has.setRow hg cells) (But.setRow g w cells))
/-- The walk stands at a store. -/
theorem at_store {P : Program} {ops : Array Oper} {rest : List Oper} {o : Oper} {a : Act} {w : World} {Q : Exit → Act → World → Prop} {ty : TypeId} {x y : Operand} (_ : o.op = .store ty x y)
    (h : wpList P ops Q (o :: rest) a w) : wpList P ops Q (o :: rest) a w := h
/-- Cells stored one behind the other, from a place on. -/
def setList (g : Nat) : Nat → List Value → World → World
  | _, [], w => w
  | i, v :: vs, w => setList g (i + 1) vs (w.setCell ⟨g, i, none⟩ v)
theorem setList_has (g : Nat) (t : TypeId) (fr : Nat × Nat) : ∀ (vs : List Value) (i : Nat) (w : World) (cs : Array Value), Has w g (.cells cs t fr) → i + vs.length = cs.size → Has (setList g i vs w) g (.cells (cs.toList.take i ++ vs).toArray t fr)
  | [], i, w, cs, h, hl => by
    have e : (cs.toList.take i ++ []).toArray = cs := by
      rw [List.append_nil, List.take_of_length_le (by simp at hl ⊢; omega)]
    rw [e]; exact h
  | v :: vs, i, w, cs, h, hl => by
    have h2 := setList_has g t fr vs (i + 1) (w.setCell ⟨g, i, none⟩ v) (cs.setIfInBounds i v) (h.set i v) (by simp at hl ⊢; omega)
    have e : ((cs.setIfInBounds i v).toList.take (i + 1) ++ vs).toArray = (cs.toList.take i ++ v :: vs).toArray := by
      congr 1
      rw [Array.toList_setIfInBounds, List.take_add_one, List.getElem?_set]
      have hi : i < cs.toList.length := by simp at hl ⊢; omega
      rw [if_pos rfl, if_pos hi, List.take_set_of_le (Nat.le_refl _)]
      simp
    rw [e] at h2; exact h2
theorem setList_below {B g : Nat} {w0 : World} (hg : B ≤ g) : ∀ (vs : List Value) (i : Nat) (w : World), Below B w0 w → Below B w0 (setList g i vs w)
  | [], _, _, h => h
  | v :: vs, i, w, h => setList_below hg vs (i + 1) _ (h.setCell (p := ⟨g, i, none⟩) hg v)
theorem setList_but (g : Nat) : ∀ (vs : List Value) (i : Nat) (w : World), But g w (setList g i vs w)
  | [], _, _ => But.refl g _
  | v :: vs, i, w => (But.set g i w v).trans (setList_but g vs (i + 1) _)
theorem setList_row {g : Nat} {t : TypeId} {fr : Nat × Nat} {vs : List Value} {w : World} {cs : Array Value} (h : Has w g (.cells cs t fr)) (hl : vs.length = cs.size) : Has (setList g 0 vs w) g (.cells vs.toArray t fr) := by
  have := setList_has g t fr vs 0 w cs h (by omega)
  simpa using this
end Go.Proofs.Ytakdagmkkelnfaa

/-! Rows that a call gathers in a slice of its own: what an append leaves, whatever the elements are. -/
namespace Go.Proofs.Ytakdagmkkelnfaa
open Go.RowKit
set_option linter.unusedVariables false
set_option linter.unusedSimpArgs false

/-- A slice's type, its elements' type, how many cells and bytes one takes, and the zero. -/
structure Elem (P : Program) (T e : TypeId) (size bytes : Nat) (z : Value) : Prop where
  und : P.underlying T = some (.slice e)
  info : (P.info? e).map (fun i => (i.zero, i.size, i.bytes)) = some (some z, size, bytes)
  zs : z.cells.size = size
  pos : 0 < size

theorem grown_of {w w' : World} (h : Below w.heap.size w w') (row : Option Nat) : w.grownBy w' row := ⟨h.os, h.tape, h.output, h.size, fun k hk _ => h.block k hk⟩
theorem ownsRow_below {w w' : World} {base : Nat} {e : TypeId} {size : Nat} {v : Value} {n : Nat} {xs : List Value} (h : w.ownsRow base e size v n xs) (hb : Below w.heap.size w w') : w'.ownsRow base e size v n xs :=
  World.ownsRow.kept h (grown_of hb none) (by cases v.ownBlock <;> simp)
theorem ownsRow_form {w : World} {base : Nat} {e : TypeId} {size : Nat} {v : Value} {n : Nat} {xs : List Value} (h : w.ownsRow base e size v n xs) : ∃ A cap, v = .slice A n cap ∧ n ≤ cap ∧ cap ≤ 9223372036854775807 := by
  rcases h.2 with ⟨rfl, rfl⟩ | ⟨g, cap, cur, rfl, _, _, h1, h2, _⟩
  · exact ⟨none, 0, rfl, by omega, by omega⟩
  · exact ⟨_, cap, rfl, h1, by unfold maxLen at h2; omega⟩
theorem ownsRow_at {w : World} {base : Nat} {e : TypeId} {size : Nat} {v : Value} {n : Nat} {xs : List Value} (h : w.ownsRow base e size v n xs) (hn : 0 < n) :
    ∃ g cap cur, v = .slice (some ⟨g, 0, none⟩) n cap ∧ base ≤ g ∧ g < w.heap.size ∧ Has w g (.cells cur e) ∧ n ≤ cap ∧ cap ≤ 9223372036854775807 ∧ cur.size = cap * size ∧ cur.toList.take (n * size) = xs := by
  rcases h.2 with ⟨rfl, rfl⟩ | ⟨g, cap, cur, rfl, h1, h2, h3, h4, h5, h6⟩
  · omega
  · exact ⟨g, cap, cur, rfl, h1, Has.lt h2, h2, h3, by unfold maxLen at h4; omega, h5, h6⟩
theorem ownsRow_other {w w' : World} {base : Nat} {e : TypeId} {size : Nat} {v : Value} {n : Nat} {xs : List Value} (h : w.ownsRow base e size v n xs) {row : Option Nat} (hg : w.grownBy w' row) (hr : ∀ g, v.ownBlock = some g → some g ≠ row) : w'.ownsRow base e size v n xs :=
  World.ownsRow.kept h hg (by
    cases hv : v.ownBlock with
    | none => exact .inl rfl
    | some g => exact .inr (by intro e; exact hr g hv e))
theorem run_append_void {P : Program} {w : World} {base : Nat} {t ty e : TypeId} {i : TypeInfo} {size : Nat} (ht : P.underlying t = some (.slice e)) (hi : P.info? e = some i)
    {v : Value} {n : Nat} {xs : List Value} (h : w.ownsRow base e size v n xs) (c : Nat) : (Builtin.append_ #[t, t] ty #[v, .slice none 0 c]).run P w = .ok v w := by
  rcases h.2 with ⟨rfl, rfl⟩ | ⟨g, cap, cur, rfl, _, _, hnc, _⟩
  · simp [Builtin.append_, run_underlying ht, sizeOf, typeInfo, hi, Builtin.lenOf, Builtin.firstCells]
  · simp [Builtin.append_, run_underlying ht, sizeOf, typeInfo, hi, Builtin.lenOf, Builtin.firstCells, hnc, storeCells]

variable {P : Program} {T e : TypeId} {size bytes : Nat} {z : Value}
/-- What an append of a slice that lies there leaves. -/
theorem grow_old (E : Elem P T e size bytes z) {ops : Array Oper} {rest : List Oper} {o : Oper} {a : Act} {Q : Exit → Act → World → Prop} (hgd : o.guard = none) (s x : Operand)
    (ho : o.op = .call { callee := .builtin .append, args := #[s, x], argTypes := #[T, T] }) (base : Nat) (w : World) (v : Value) (n : Nat) (xs : List Value) (hs : a.eval s = v) (hrow : w.ownsRow base e size v n xs)
    (A : Option Addr) (m c : Nat) (news : List Value) (hx : a.eval x = .slice A m c) (hl : news.length = m * size) (hn : (A = none ∧ m = 0) ∨ ∃ ad, A = some ad ∧ ∀ j u, news[j]? = some u → w.cell? (ad.add j) = some u) (h1 : ∀ u ∈ news, u.oneCell' = true)
    (h63 : n + m ≤ 9223372036854775807) (hb : (n + m) * bytes ≤ 140737488355328) (hbase : base ≤ w.heap.size)
    (h : ∀ v' w', w'.ownsRow base e size v' (n + m) (xs ++ news) → w.grownBy w' v.ownBlock → Below base w w' → wpList P ops Q rest (a.put o.dst v') w') : wpList P ops Q (o :: rest) a w := by
  obtain ⟨i0, hi, hz0, hz1, hz2⟩ := info_parts E.info
  rcases hn with ⟨rfl, rfl⟩ | ⟨ad, rfl, hcells⟩
  · have hnil : news = [] := List.eq_nil_of_length_eq_zero (by simpa using hl)
    subst hnil
    refine wpList_plain hgd fun K hK => ?_
    have hrun := run_append_void (P := P) (w := w) (ty := o.type) E.und hi hrow c
    unfold Oper.wp
    simp [execOp, ho, resolve, invoke, builtin, hs, hx, hrun, Result.andThen]
    exact hK _ _ (h v w (by simpa using hrow) (World.grownBy.refl w _) (Below.refl _ _))
  · refine wpList_append_own _ hgd s x T ho base e i0 z size bytes E.und hi hz0 hz1 hz2 E.zs E.pos v n xs hs hrow ad m c news hx hl hcells h1 (by unfold maxLen; omega) hb hbase ?_
    intro v' w' hown hgrow _
    exact h v' w' hown hgrow ((Below.refl base w).grown hgrow hbase (fun g hg => (World.ownsRow.lt hrow g hg).1))
theorem run_grow_old (E : Elem P T e size bytes z) (ty : TypeId) (base : Nat) (w : World) (v : Value) (n : Nat) (xs : List Value) (hrow : w.ownsRow base e size v n xs)
    (A : Option Addr) (m c : Nat) (news : List Value) (hl : news.length = m * size) (hn : (A = none ∧ m = 0) ∨ ∃ ad, A = some ad ∧ ∀ j u, news[j]? = some u → w.cell? (ad.add j) = some u) (h1 : ∀ u ∈ news, u.oneCell' = true)
    (h63 : n + m ≤ 9223372036854775807) (hb : (n + m) * bytes ≤ 140737488355328) (hbase : base ≤ w.heap.size) :
    ∃ v' w', (Builtin.append_ #[T, T] ty #[v, .slice A m c]).run P w = .ok v' w' ∧ w'.ownsRow base e size v' (n + m) (xs ++ news) ∧ w.grownBy w' v.ownBlock ∧ Below base w w' := by
  obtain ⟨i0, hi, hz0, hz1, hz2⟩ := info_parts E.info
  rcases hn with ⟨rfl, rfl⟩ | ⟨ad, rfl, hcells⟩
  · have hnil : news = [] := List.eq_nil_of_length_eq_zero (by simpa using hl)
    subst hnil
    exact ⟨v, w, run_append_void (P := P) (w := w) (ty := ty) E.und hi hrow c, by simpa using hrow, World.grownBy.refl w _, Below.refl _ _⟩
  · obtain ⟨v', w', hr, hown, hgrow, _⟩ := run_append_own (P := P) w base T ty e i0 z size bytes E.und hi hz0 hz1 hz2 E.zs E.pos v n xs hrow ad m c news hl hcells h1 (by unfold maxLen; omega) hb hbase
    exact ⟨v', w', hr, hown, hgrow, (Below.refl base w).grown hgrow hbase (fun g hg => (World.ownsRow.lt hrow g hg).1)⟩
/-- The same at a step of a region that draws its order. -/
theorem step_grow_old (E : Elem P T e size bytes z) {ops : Array Oper} {o : Oper} {a : Act} {w : World} {K : Act → World → Prop} {Q : Exit → Act → World → Prop} {F : Prop} (hgd : o.guard = none) (s x : Operand)
    (ho : o.op = .call { callee := .builtin .append, args := #[s, x], argTypes := #[T, T] }) (base : Nat) (v : Value) (n : Nat) (xs : List Value) (hs : a.eval s = v) (hrow : w.ownsRow base e size v n xs)
    (A : Option Addr) (m c : Nat) (news : List Value) (hx : a.eval x = .slice A m c) (hl : news.length = m * size) (hn : (A = none ∧ m = 0) ∨ ∃ ad, A = some ad ∧ ∀ j u, news[j]? = some u → w.cell? (ad.add j) = some u) (h1 : ∀ u ∈ news, u.oneCell' = true)
    (h63 : n + m ≤ 9223372036854775807) (hb : (n + m) * bytes ≤ 140737488355328) (hbase : base ≤ w.heap.size)
    (h : ∀ v' w', w'.ownsRow base e size v' (n + m) (xs ++ news) → w.grownBy w' v.ownBlock → Below base w w' → K (a.put o.dst v') w') : if Region.wanted o (yielded ops a.tmps) = true then Oper.wp P o a w K Q else F := by
  have hw : Region.wanted o (yielded ops a.tmps) = true := by simp [Region.wanted, hgd]
  rw [if_pos hw]
  obtain ⟨v', w', hrun, h2, h3, h4⟩ := run_grow_old E o.type base w v n xs hrow A m c news hl hn h1 h63 hb hbase
  unfold Oper.wp execOp
  simp only [ho, resolve, invoke, builtin, Sem.run_bind, Sem.run_pure, Result.andThen_ok, List.map_toArray, List.map_cons, List.map_nil, hs, hx, hrun]
  exact h v' w' h2 h3 h4
/-- The cells of a block that was just laid, at its head. -/
theorem news_at {w : World} {g : Nat} {cs : Array Value} {te : TypeId} {fr : Nat × Nat} (h : Has w g (.cells cs te fr)) : ∀ j u, cs.toList[j]? = some u → w.cell? ((⟨g, 0, none⟩ : Addr).add j) = some u := by
  intro j u hu
  rw [show (⟨g, 0, none⟩ : Addr).add j = ⟨g, j, none⟩ by simp [Addr.add]; omega]
  exact h.cell j u (by simpa using hu)
/-- What an append of elements that were just laid down leaves. -/
theorem grow_new (E : Elem P T e size bytes z) {ops : Array Oper} {rest : List Oper} {o : Oper} {a : Act} {Q : Exit → Act → World → Prop} (hgd : o.guard = none) (s x : Operand)
    (ho : o.op = .call { callee := .builtin .append, args := #[s, x], argTypes := #[T, T] }) (base : Nat) (w : World) (v : Value) (n : Nat) (xs : List Value) (hs : a.eval s = v) (hrow : w.ownsRow base e size v n xs)
    (m : Nat) (cs : Array Value) (hx : a.eval x = .slice (some ⟨w.heap.size, 0, none⟩) m m) (hl : cs.size = m * size) (h1 : ∀ u ∈ cs.toList, u.oneCell' = true)
    (h63 : n + m ≤ 9223372036854775807) (hb : (n + m) * bytes ≤ 140737488355328) (hbase : base ≤ w.heap.size)
    (h : ∀ v' w', w'.ownsRow base e size v' (n + m) (xs ++ cs.toList) → w.grownBy w' v.ownBlock → Below base w w' → wpList P ops Q rest (a.put o.dst v') w') : wpList P ops Q (o :: rest) a (w.alloc (.cells cs e)) := by
  refine grow_old E hgd s x ho base _ v n xs hs (hrow.alloc _) (some ⟨w.heap.size, 0, none⟩) m m cs.toList hx (by simpa using hl) (.inr ⟨_, rfl, ?_⟩) h1 h63 hb (by simp; omega) ?_
  · intro j u hu
    have := (Has.new w (.cells cs e)).cell j u (by simpa using hu)
    rw [show (⟨w.heap.size, 0, none⟩ : Addr).add j = ⟨w.heap.size, j, none⟩ by simp [Addr.add]; omega]
    exact this
  · intro v' w' hown hgrow hbel
    refine h v' w' hown ?_ (((Below.refl base w).alloc hbase _).trans hbel)
    have hg := World.grownBy_alloc w (.cells cs e) v.ownBlock
    exact ⟨hgrow.os.trans hg.os, hgrow.tape.trans hg.tape, hgrow.output.trans hg.output, Nat.le_trans hg.size hgrow.size, fun k hk hne => (hgrow.block k (Nat.lt_of_lt_of_le hk hg.size) hne).trans (hg.block k hk hne)⟩
end Go.Proofs.Ytakdagmkkelnfaa

/-! Numbers as so many bytes, the highest first: high.Put, high.Get. -/
namespace Go.Proofs.Ytakdagmkkelnfaa
open Go.RowKit
set_option linter.unusedVariables false
set_option linter.unusedSimpArgs false

/-- The lowest bytes of a number in a row of so many, the others nothing. -/
def hiK (n sz k : Nat) : List UInt8 := (List.range sz).map fun j => if sz - 1 - j < k then UInt8.ofNat (n / 256 ^ (sz - 1 - j) % 256) else 0
/-- A number in so many bytes. -/
def highN (n sz : Nat) : List UInt8 := hiK n sz sz
theorem hiK_len (n sz k : Nat) : (hiK n sz k).length = sz := by simp [hiK]
theorem highN_len (n sz : Nat) : (highN n sz).length = sz := hiK_len n sz sz
theorem byteVals_len (l : List UInt8) : (byteVals l).length = l.length := by simp [byteVals]
theorem hiK_zero (n sz : Nat) : byteVals (hiK n sz 0) = List.replicate sz (.int .u8 0) := by
  apply List.ext_getElem?
  intro i
  simp [byteVals, hiK, List.getElem?_replicate]
  by_cases hi : i < sz
  · simp [hi]
  · simp [hi]
theorem hiK_get (n sz k j : Nat) (hj : j < sz) : (byteVals (hiK n sz k))[j]? = some (.int .u8 (if sz - 1 - j < k then ((n / 256 ^ (sz - 1 - j) % 256 : Nat) : Int) else 0)) := by
  have hx : (hiK n sz k)[j]? = some (if sz - 1 - j < k then UInt8.ofNat (n / 256 ^ (sz - 1 - j) % 256) else 0) := by simp [hiK, hj]
  unfold byteVals
  rw [List.getElem?_map, hx]
  simp only [Option.map_some, Option.some.injEq, Value.int.injEq, true_and]
  split
  · have : n / 256 ^ (sz - 1 - j) % 256 < 256 := Nat.mod_lt _ (by omega)
    rw [UInt8.toNat_ofNat', Nat.mod_eq_of_lt this]
  · rfl
theorem hiK_step (n sz k : Nat) (hk : k < sz) (v : Int) (hv : v = ((n / 256 ^ k % 256 : Nat) : Int)) : (byteVals (hiK n sz k)).set (sz - 1 - k) (.int .u8 v) = byteVals (hiK n sz (k + 1)) := by
  subst hv
  apply List.ext_getElem?
  intro j
  rw [List.getElem?_set]
  by_cases hj : j < sz
  · rw [hiK_get n sz (k + 1) j hj, byteVals_len, hiK_len]
    by_cases e : sz - 1 - k = j
    · rw [if_pos e, if_pos (by omega), if_pos (by omega), show sz - 1 - j = k by omega]
    · rw [if_neg e, hiK_get n sz k j hj]
      by_cases h1 : sz - 1 - j < k
      · rw [if_pos h1, if_pos (by omega)]
      · rw [if_neg h1, if_neg (by omega)]
  · rw [if_neg (by omega), List.getElem?_eq_none (by rw [byteVals_len, hiK_len]; omega), List.getElem?_eq_none (by rw [byteVals_len, hiK_len]; omega)]
set_option maxRecDepth 100000 in
theorem makeBytes (m : Nat) (hm : m ≤ 140737488355328) (c : Nat) (hc : m ≤ c) (hc2 : c ≤ 140737488355328) (w : World) :
    (Instr.makeSlice 37 (.int .i64 (m : Int)) (.int .i64 (c : Int))).run Try.prog w = .ok (.slice (some ⟨w.heap.size, 0, none⟩) m c) (w.alloc (.cells (List.replicate c (.int .u8 0)).toArray 5)) := by
  obtain ⟨i, hi, hz0, hz1, hz2⟩ := info_parts info8
  have hb : (i.bytes : Int) * (c : Int) ≤ 281474976710656 := by rw [hz2]; omega
  have hr := run_make (P := Try.prog) w 37 5 i _ Try.underlying37 hi hz0 .i64 .i64 (m : Int) (c : Int) (by omega) (by omega) hb (by omega)
  simp only [Int.toNat_natCast] at hr
  rw [hr, hz1]
  congr 3
  apply Array.ext
  · simp [madeCells]
  · intro i h1 h2
    simp [madeCells, Value.cells, Nat.mod_one]
theorem bytes_back {w : World} {g cap : Nat} {l : List UInt8} {more : List Value} {fr : Nat × Nat} (h : Has w g (.cells (byteVals l ++ more).toArray 5 fr)) :
    (convert 37 9 (.slice (some ⟨g, 0, none⟩) l.length cap)).run Try.prog w = .ok (.string (bs l)) w := by
  refine run_convert_bytes_back w 37 9 5 ⟨g, 0, none⟩ cap l Try.underlying37 Try.underlying5 Try.underlying9 ?_
  intro j hj
  rw [show (⟨g, 0, none⟩ : Addr).add j = ⟨g, j, none⟩ by simp [Addr.add]; omega]
  refine h.cell j _ ?_
  simp [byteVals, List.getElem?_append, hj]
theorem pow_form (n k : Nat) : (n : Int) / 2 ^ (8 * k) % 256 = ((n / 256 ^ k % 256 : Nat) : Int) := by
  have e : (2 : Nat) ^ (8 * k) = 256 ^ k := by rw [Nat.pow_mul]
  rw [← e, Int.natCast_emod, Int.natCast_ediv, Int.natCast_pow]
  rfl
set_option maxRecDepth 100000 in
set_option maxHeartbeats 2000000 in
theorem hput_any (n sz : Nat) (hn : n < 18446744073709551616) (h1 : 1 ≤ sz) (h8 : sz ≤ 8) (w : World) :
    Calls Try.prog 35 #[.int .u64 n, .int .i64 sz] w fun e w' => e = .returned (.string (bs (highN n sz))) ∧ Below w.heap.size w w' := by
  have hmk := fun w => makeBytes sz (by omega) sz (Nat.le_refl _) (by omega) w
  rw [← hiK_zero n] at hmk
  obtain ⟨F0, hF0⟩ : ∃ F, (byteVals (hiK n sz 0)).toArray = F := ⟨_, rfl⟩
  rw [hF0] at hmk
  have HF := Lib.hid hF0
  clear hF0
  go_enter Try.func35, Try.ntmps35
  go_wp2_with fail
  go_loopw [10] (fun i wr => ∃ k : Nat, k ≤ sz ∧ i = .int .i64 k ∧ Has wr w.heap.size (.cells (byteVals (hiK n sz k)).toArray 5) ∧ Below w.heap.size w wr) (fun i _ => sz - (intOf i).toNat)
  case atStart => exact ⟨0, by omega, rfl, by rw [HF.out]; exact Has.new _ _, bnew _ _⟩
  case round =>
    obtain ⟨k, hk, rfl, G, B⟩ := hrel
    by_cases hlt : k < sz
    · have g0 := G.cell (sz - 1 - k) _ (by rw [List.getElem?_toArray]; exact hiK_get n sz k (sz - 1 - k) (by omega))
      have f0 := G.free (sz - 1 - k)
      replace G := Lib.hid G
      replace B := Lib.hid B
      go_wp2_with fail
      go_roundw
      case rel =>
        refine ⟨k + 1, by omega, by go_num, ?_, B.out.setCell (p := ⟨w.heap.size, sz - 1 - k, none⟩) (Nat.le_refl _) _⟩
        have h2 := G.out.set (sz - 1 - k) (.int .u8 ((n : Int) / 2 ^ (8 * k) % 256))
        rw [List.setIfInBounds_toArray, hiK_step n sz k hlt _ (pow_form n k)] at h2
        exact h2
      case measure => simp [intOf]; omega
    · have hkn : k = sz := by omega
      subst hkn
      have hcv := bytes_back (l := highN n k) (more := []) (cap := k) (by rw [List.append_nil]; exact G)
      rw [highN_len] at hcv
      replace G := Lib.hid G
      go_wp2_with fail
      go_ret
      exact ⟨rfl, B⟩
/-- The number that bytes are. -/
def getN (l : List UInt8) : Nat := l.foldl (fun a b => a * 256 + b.toNat) 0
theorem getN_snoc (l : List UInt8) (b : UInt8) : getN (l ++ [b]) = getN l * 256 + b.toNat := by simp [getN]
theorem getN_from (l : List UInt8) : ∀ a : Nat, l.foldl (fun a b => a * 256 + b.toNat) a < (a + 1) * 256 ^ l.length := by
  induction l with
  | nil => intro a; simp
  | cons b l ih =>
    intro a
    have h := ih (a * 256 + b.toNat)
    have hb : b.toNat < 256 := b.toNat_lt
    rw [List.foldl_cons, List.length_cons, Nat.pow_succ]
    have h2 : (a * 256 + b.toNat + 1) * 256 ^ l.length ≤ ((a + 1) * 256) * 256 ^ l.length := Nat.mul_le_mul_right _ (by omega)
    have h3 : (a + 1) * 256 * 256 ^ l.length = (a + 1) * (256 ^ l.length * 256) := by rw [Nat.mul_assoc, Nat.mul_comm 256]
    omega
theorem getN_lt (l : List UInt8) : getN l < 256 ^ l.length := by
  have := getN_from l 0
  simpa [getN] using this
set_option maxRecDepth 100000 in
theorem or_low (a b : Nat) (ha : a * 256 + b < 18446744073709551616) (hb : b < 256) : bits BinOp.or IntKind.u64 ((a : Int) * 256) (b : Int) = ((a * 256 + b : Nat) : Int) := by
  have h1 := u64_or_nat (a * 256) b (by omega) (by omega)
  rw [show ((a : Int) * 256) = ((a * 256 : Nat) : Int) by omega, h1]
  congr 1
  have h2 := Nat.two_pow_add_eq_or_of_lt (i := 8) (b := b) (by omega) a
  rw [show a * 256 = 2 ^ 8 * a by omega]
  exact h2.symm
set_option maxRecDepth 100000 in
set_option maxHeartbeats 2000000 in
theorem hget_any (s : ByteArray) (hs : s.size ≤ 8) (w : World) :
    Calls Try.prog 20 #[.string s] w fun e w' => e = .returned (.int .u64 (getN s.data.toList : Nat)) ∧ Below w.heap.size w w' := by
  have hcv := fun w s => strWorld_conv (P := Try.prog) (src := 9) (dst := 37) (e := 5) Try.underlying9 Try.underlying37 Try.underlying5 w s
  go_enter Try.func20, Try.ntmps20
  go_wp2_with fail
  generalize hw1 : strWorld _ _ _ = w1
  have B1 : Below w.heap.size w w1 := by rw [← hw1]; exact strWorld_below _ _ _ (Nat.le_refl _)
  have C1 := Lib.hid (by rw [← hw1]; exact strWorld_cell _ _ _ : ∀ j (hj : j < s.size), w1.cell? ⟨w.heap.size, j, none⟩ = some (.int .u8 (s[j].toNat : Int)))
  clear hw1
  go_loop [3, 9] (fun v i => ∃ k m : Nat, k ≤ s.size ∧ i = .int .i64 k ∧ v = .int .u64 m ∧ Hid (m = getN (s.data.toList.take k))) (fun _ i => s.size - (intOf i).toNat)
  case atStart => exact ⟨0, 0, by omega, rfl, rfl, Lib.hid rfl⟩
  case round =>
    obtain ⟨k, m, hk, rfl, rfl, Hm⟩ := hrel
    by_cases hlt : k < s.size
    · have hc := C1.out k hlt
      have hb := s[k].toNat_lt
      have hm1 := getN_lt (s.data.toList.take k)
      rw [← Hm.out, List.length_take] at hm1
      have hp : 256 ^ min k s.data.toList.length ≤ 256 ^ 7 := Nat.pow_le_pow_right (by omega) (by omega)
      have hm2 : m < 72057594037927936 := Nat.lt_of_lt_of_le hm1 hp
      have ho := or_low m s[k].toNat (by omega) hb
      have HX : Hid (m * 256 + s[k].toNat = getN (s.data.toList.take (k + 1))) := Lib.hid (by
        have e : s.data.toList.take (k + 1) = s.data.toList.take k ++ [s[k]] := by
          rw [List.take_succ_eq_append_getElem (by simpa using hlt)]; rfl
        rw [e, getN_snoc, ← Hm.out])
      clear hm1 hp
      go_wp2_with fail
      go_round
      case rel => exact ⟨k + 1, m * 256 + s[k].toNat, by omega, by go_num, by go_num, HX⟩
      case measure => simp [intOf]; omega
    · have hkn : s.data.toList.take k = s.data.toList := List.take_of_length_le (by simp; exact Nat.le_of_not_lt hlt)
      rw [hkn] at Hm
      clear hkn
      go_wp2_with fail
      go_ret
      exact ⟨by rw [← Hm.out]; rfl, B1⟩
end Go.Proofs.Ytakdagmkkelnfaa
