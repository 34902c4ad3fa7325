/-
  Elements taken out of a row: what an append within one row, and a clear of its end, leave.
-/
import Derived.Test.YtkdopflnaeejeaaGrow2
import Derived.Laws.Tables
import Derived.Laws.CopyRow
import Derived.Deep.RegionLaw
namespace Go.Proofs.Ytkdopflnaeejeaa
open Go.RowKit
set_option linter.unusedVariables false
set_option linter.unusedSimpArgs false
variable {P : Program} {T e : TypeId} {size bytes : Nat} {z : Value}
theorem But.row (w : World) (g : Nat) (cs : Array Value) : But g w (w.setRow g cs) := ⟨rfl, rfl, rfl, by simp, fun k _ hk => setRow_other w g k _ (fun e => hk e)⟩
/-- append(s[:n], x...), where x lies wherever and there is room. -/
theorem step_slide (E : Elem P T e size bytes z) {ops : Array Oper} {o : Oper} {a : Act} {w : World} {K : Act → World → Prop} {Q : Exit → Act → World → Prop} {F : Prop} (hgd : o.guard = none) (s x : Operand)
    (ho : o.op = .call { callee := .builtin .append, args := #[s, x], argTypes := #[T, T] }) (g n cap : Nat) (cur : Array Value) (hg : Has w g (.cells cur e)) (hs : a.eval s = .slice (some ⟨g, 0, none⟩) n cap)
    (ad : Addr) (m c : Nat) (news : List Value) (hx : a.eval x = .slice (some ad) m c) (hl : news.length = m * size) (hn : ∀ j u, news[j]? = some u → w.cell? (ad.add j) = some u) (h1 : ∀ u ∈ news, u.oneCell' = true)
    (hroom : n + m ≤ cap) (hcs : cur.size = cap * size)
    (h : ∀ w', Has w' g (.cells (cur.toList.take (n * size) ++ news ++ cur.toList.drop (n * size + news.length)).toArray e) → But g w w' → K (a.put o.dst (.slice (some ⟨g, 0, none⟩) (n + m) cap)) w') : if Region.wanted o (yielded ops a.tmps) = true then Oper.wp P o a w K Q else F := by
  have hw : Region.wanted o (yielded ops a.tmps) = true := by simp [Region.wanted, hgd]
  rw [if_pos hw]
  obtain ⟨i, hi, hz0, hz1, hz2⟩ := info_parts E.info
  subst hz1
  have hfit : n * i.size + news.length ≤ cur.size := by rw [hl, hcs, ← Nat.add_mul]; exact Nat.mul_le_mul_right _ hroom
  have hrun := run_append_room (P := P) w T o.type e i E.und hi g n cap cur hg ad m c news hl hn h1 hroom hfit
  unfold Oper.wp execOp
  simp only [ho, resolve, invoke, builtin, Sem.run_bind, Sem.run_pure, Result.andThen_ok, List.map_toArray, List.map_cons, List.map_nil, hs, hx, hrun]
  exact h _ (setRow_heap w g cur _ e _ hg) (But.row _ _ _)
theorem run_clear_row (E : Elem P T e size bytes z) (hz : ∀ w, (zeroValue e).run P w = .ok z w) (ho1 : ∀ u ∈ z.cells.toList, u.oneCell' = true) (ty : TypeId) (w : World) (g off n c : Nat) (cur : Array Value) (hg : Has w g (.cells cur e)) (hn : 0 < n) (hfit : off + n * size ≤ cur.size) :
    ∃ w', (Builtin.clear_ #[T] ty #[.slice (some ⟨g, off, none⟩) n c]).run P w = .ok (.tuple #[]) w' ∧ Has w' g (.cells (cur.toList.take off ++ (Builtin.zeroCells z.cells n).toList ++ cur.toList.drop (off + n * size)).toArray e) ∧ But g w w' := by
  have hlen : (Builtin.zeroCells z.cells n).toList.length = n * size := by rw [Array.length_toList, size_zeroCells, E.zs]
  have h1 : ∀ v ∈ (Builtin.zeroCells z.cells n).toList, v.oneCell' = true := by
    intro v hv
    obtain ⟨i, hi, rfl⟩ := List.mem_iff_getElem.1 hv
    have hzs := E.zs
    have hp := E.pos
    simp only [Array.length_toList, size_zeroCells] at hi
    refine ho1 _ ?_
    simp only [Builtin.zeroCells, Array.getElem_toList, Array.getElem_ofFn]
    have hm : i % z.cells.size < z.cells.size := Nat.mod_lt _ (by omega)
    rw [Array.mem_toList_iff]
    first | exact Array.getElem_mem _ | (rw [getElem!_pos z.cells _ hm]; exact Array.getElem_mem _) | (simp [Array.getD, hm])
  have hst := run_storeCells_at P g off e (Builtin.zeroCells z.cells n).toList 0 cur w hg (by rw [hlen]; omega) h1
  simp only [Nat.add_zero] at hst
  rw [hlen] at hst
  obtain ⟨m, rfl⟩ : ∃ m, n = m + 1 := ⟨n - 1, by omega⟩
  refine ⟨_, ?_, setRow_heap w g cur _ e _ hg, But.row _ _ _⟩
  simp [Builtin.clear_, run_underlying E.und, hz, hst]
/-- clear(s[..]) at an operation. -/
theorem wp_clear_row (E : Elem P T e size bytes z) (hz : ∀ w, (zeroValue e).run P w = .ok z w) (ho1 : ∀ u ∈ z.cells.toList, u.oneCell' = true) {ops : Array Oper} {rest : List Oper} {o : Oper} {a : Act} {w : World} {Q : Exit → Act → World → Prop} (hgd : o.guard = none) (x : Operand)
    (ho : o.op = .call { callee := .builtin .clear, args := #[x], argTypes := #[T] }) (g off n c : Nat) (cur : Array Value) (hx : a.eval x = .slice (some ⟨g, off, none⟩) n c) (hg : Has w g (.cells cur e)) (hn : 0 < n) (hfit : off + n * size ≤ cur.size)
    (h : ∀ w', Has w' g (.cells (cur.toList.take off ++ (Builtin.zeroCells z.cells n).toList ++ cur.toList.drop (off + n * size)).toArray e) → But g w w' → wpList P ops Q rest (a.put o.dst (.tuple #[])) w') : wpList P ops Q (o :: rest) a w := by
  refine wpList_plain hgd fun K hK => ?_
  obtain ⟨w', hrun, h2, h3⟩ := run_clear_row E hz ho1 o.type w g off n c cur hg hn hfit
  unfold Oper.wp execOp
  simp only [ho, resolve, invoke, builtin, Sem.run_bind, Sem.run_pure, Result.andThen_ok, List.map_toArray, List.map_cons, List.map_nil, hx, hrun]
  exact hK _ _ (h w' h2 h3)
theorem run_storeVar_at (w : World) (g off : Nat) (t ty : TypeId) (cur cells : Array Value) (hg : Has w g (.cells cur t)) (hi : (P.info? ty).map (·.size) = some cells.size) (hfit : off + cells.size ≤ cur.size) (h1 : cells.all (·.oneCell') = true) :
    (storeVar ty ⟨g, off, none⟩ (.agg cells)).run P w = .ok () (w.setRow g (cur.toList.take off ++ cells.toList ++ cur.toList.drop (off + cells.size)).toArray) := by
  have hst := run_storeCells_at P g off t cells.toList 0 cur w hg (by simpa using hfit) (fun v hv => (Array.all_eq_true_iff_forall_mem.1 h1) v (by simpa using hv))
  simp only [Nat.add_zero, Array.length_toList] at hst
  cases hq : P.info? ty with
  | none => simp [hq] at hi
  | some i =>
    have hs : cells.size = i.size := by simp [hq] at hi; omega
    simp [storeVar, sizeOf, typeInfo, hq, Value.cells, hs] at hst ⊢
    exact hst
/-- A struct stored into the middle of a row. -/
theorem wpList_store_mid {ops : Array Oper} {rest : List Oper} {o : Oper} {a : Act} {w : World} {Q : Exit → Act → World → Prop} (hgd : o.guard = none) (hd : o.dst = none) (ty : TypeId) (x y : Operand) (ho : o.op = .store ty x y)
    (g off : Nat) (cells : Array Value) (hx : a.eval x = .pointer (some ⟨g, off, none⟩)) (hy : a.eval y = .agg cells)
    (t : TypeId) (cur : Array Value) (hg : Has w g (.cells cur t)) (hi : (P.info? ty).map (·.size) = some cells.size) (hfit : off + cells.size ≤ cur.size) (h1 : cells.all (·.oneCell') = true)
    (h : ∀ w', Has w' g (.cells (cur.toList.take off ++ cells.toList ++ cur.toList.drop (off + cells.size)).toArray t) → But g w w' → wpList P ops Q rest a w') : wpList P ops Q (o :: rest) a w := by
  refine wpList_plain hgd fun K hK => ?_
  have hrun := run_storeVar_at (P := P) w g off t ty cur cells hg hi hfit h1
  unfold Oper.wp execOp
  simp only [ho, hx, hy, Instr.storeAt, Instr.sureAddr, Sem.run_bind, Sem.run_pure, Result.andThen_ok, hrun]
  refine hK _ _ ?_
  rw [hd]
  exact h _ (setRow_heap w g cur _ t _ hg) (But.row _ _ _)
end Go.Proofs.Ytkdopflnaeejeaa
