/-
  Stores of whole rows and copies of rows, the world behind them a letter.
-/
import Derived.Test.YtgabonacpoimfaaBut
import Derived.Laws.Tables
import Derived.Laws.CopyRow
import Derived.Laws.IdiomCopy
import Derived.Laws.Rows
import Derived.Deep.RegionLaw
namespace Go.Proofs.Ytgabonacpoimfaa
open Go.RowKit
set_option linter.unusedVariables false

theorem But.setRow (g : Nat) (w : World) (cs : Array Value) : But g w (w.setRow g cs) :=
  ⟨rfl, rfl, rfl, by simp [World.setRow], fun k _ hne => setRow_other w g k cs hne⟩
theorem Has.setRow {w : World} {g : Nat} {old : Array Value} {t : TypeId} {fr : Nat × Nat} (h : Has w g (.cells old t fr)) (cs : Array Value) : Has (w.setRow g cs) g (.cells cs t fr) := setRow_heap w g old cs t fr h
theorem wpList_put_row {P : Program} {ops : Array Oper} {rest : List Oper} {o : Oper} {a : Act} {w : World} {Q : Exit → Act → World → Prop} (hgd : o.guard = none) (ty : TypeId) (x y : Operand) (ho : o.op = .store ty x y)
    (hd : o.dst = none) (g : Nat) (cells : Array Value) (hx : a.eval x = .pointer (some ⟨g, 0, none⟩)) (hy : a.eval y = .agg cells)
    (t : TypeId) (old : Array Value) (hg : Has w g (.cells old t)) (hi : (P.info? ty).map (·.size) = some cells.size)
    (hold : old.size = cells.size) (h1 : cells.all (·.oneCell') = true)
    (h : ∀ w', Has w' g (.cells cells t) → But g w w' → wpList P ops Q rest a w') : wpList P ops Q (o :: rest) a w :=
  wpList_store_row hgd ty x y ho g cells hx hy t old hg hi hold h1 (by rw [hd]; exact h _ (Has.setRow hg cells) (But.setRow g w cells))
/-- The walk stands at a store. -/
theorem at_store {P : Program} {ops : Array Oper} {rest : List Oper} {o : Oper} {a : Act} {w : World} {Q : Exit → Act → World → Prop} {ty : TypeId} {x y : Operand} (_ : o.op = .store ty x y)
    (h : wpList P ops Q (o :: rest) a w) : wpList P ops Q (o :: rest) a w := h
/-- Cells stored one behind the other, from a place on. -/
def setList (g : Nat) : Nat → List Value → World → World
  | _, [], w => w
  | i, v :: vs, w => setList g (i + 1) vs (w.setCell ⟨g, i, none⟩ v)
theorem setList_has (g : Nat) (t : TypeId) (fr : Nat × Nat) : ∀ (vs : List Value) (i : Nat) (w : World) (cs : Array Value), Has w g (.cells cs t fr) → i + vs.length = cs.size → Has (setList g i vs w) g (.cells (cs.toList.take i ++ vs).toArray t fr)
  | [], i, w, cs, h, hl => by
    have e : (cs.toList.take i ++ []).toArray = cs := by
      rw [List.append_nil, List.take_of_length_le (by simp at hl ⊢; omega)]
    rw [e]; exact h
  | v :: vs, i, w, cs, h, hl => by
    have h2 := setList_has g t fr vs (i + 1) (w.setCell ⟨g, i, none⟩ v) (cs.setIfInBounds i v) (h.set i v) (by simp at hl ⊢; omega)
    have e : ((cs.setIfInBounds i v).toList.take (i + 1) ++ vs).toArray = (cs.toList.take i ++ v :: vs).toArray := by
      congr 1
      rw [Array.toList_setIfInBounds, List.take_add_one, List.getElem?_set]
      have hi : i < cs.toList.length := by simp at hl ⊢; omega
      rw [if_pos rfl, if_pos hi, List.take_set_of_le (Nat.le_refl _)]
      simp
    rw [e] at h2; exact h2
theorem setList_below {B g : Nat} {w0 : World} (hg : B ≤ g) : ∀ (vs : List Value) (i : Nat) (w : World), Below B w0 w → Below B w0 (setList g i vs w)
  | [], _, _, h => h
  | v :: vs, i, w, h => setList_below hg vs (i + 1) _ (h.setCell (p := ⟨g, i, none⟩) hg v)
theorem setList_but (g : Nat) : ∀ (vs : List Value) (i : Nat) (w : World), But g w (setList g i vs w)
  | [], _, _ => But.refl g _
  | v :: vs, i, w => (But.set g i w v).trans (setList_but g vs (i + 1) _)
theorem setList_row {g : Nat} {t : TypeId} {fr : Nat × Nat} {vs : List Value} {w : World} {cs : Array Value} (h : Has w g (.cells cs t fr)) (hl : vs.length = cs.size) : Has (setList g 0 vs w) g (.cells vs.toArray t fr) := by
  have := setList_has g t fr vs 0 w cs h (by omega)
  simpa using this
end Go.Proofs.Ytgabonacpoimfaa
