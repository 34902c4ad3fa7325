/-
  Rows that a call gathers in a slice of its own: what an append leaves, whatever the elements are.
-/
import Derived.Test.YtgabonacpoimfaaBut
import Derived.Laws.AppendOwn
import Derived.Laws.OwnMore
namespace Go.Proofs.Ytgabonacpoimfaa
open Go.RowKit
set_option linter.unusedVariables false
set_option linter.unusedSimpArgs false

/-- A slice's type, its elements' type, how many cells and bytes one takes, and the zero. -/
structure Elem (P : Program) (T e : TypeId) (size bytes : Nat) (z : Value) : Prop where
  und : P.underlying T = some (.slice e)
  info : (P.info? e).map (fun i => (i.zero, i.size, i.bytes)) = some (some z, size, bytes)
  zs : z.cells.size = size
  pos : 0 < size

theorem grown_of {w w' : World} (h : Below w.heap.size w w') (row : Option Nat) : w.grownBy w' row := ⟨h.os, h.tape, h.output, h.size, fun k hk _ => h.block k hk⟩
theorem ownsRow_below {w w' : World} {base : Nat} {e : TypeId} {size : Nat} {v : Value} {n : Nat} {xs : List Value} (h : w.ownsRow base e size v n xs) (hb : Below w.heap.size w w') : w'.ownsRow base e size v n xs :=
  World.ownsRow.kept h (grown_of hb none) (by cases v.ownBlock <;> simp)
theorem ownsRow_form {w : World} {base : Nat} {e : TypeId} {size : Nat} {v : Value} {n : Nat} {xs : List Value} (h : w.ownsRow base e size v n xs) : ∃ A cap, v = .slice A n cap ∧ n ≤ cap ∧ cap ≤ 9223372036854775807 := by
  rcases h.2 with ⟨rfl, rfl⟩ | ⟨g, cap, cur, rfl, _, _, h1, h2, _⟩
  · exact ⟨none, 0, rfl, by omega, by omega⟩
  · exact ⟨_, cap, rfl, h1, by unfold maxLen at h2; omega⟩
theorem ownsRow_at {w : World} {base : Nat} {e : TypeId} {size : Nat} {v : Value} {n : Nat} {xs : List Value} (h : w.ownsRow base e size v n xs) (hn : 0 < n) :
    ∃ g cap cur, v = .slice (some ⟨g, 0, none⟩) n cap ∧ base ≤ g ∧ g < w.heap.size ∧ Has w g (.cells cur e) ∧ n ≤ cap ∧ cap ≤ 9223372036854775807 ∧ cur.size = cap * size ∧ cur.toList.take (n * size) = xs := by
  rcases h.2 with ⟨rfl, rfl⟩ | ⟨g, cap, cur, rfl, h1, h2, h3, h4, h5, h6⟩
  · omega
  · exact ⟨g, cap, cur, rfl, h1, Has.lt h2, h2, h3, by unfold maxLen at h4; omega, h5, h6⟩
theorem ownsRow_other {w w' : World} {base : Nat} {e : TypeId} {size : Nat} {v : Value} {n : Nat} {xs : List Value} (h : w.ownsRow base e size v n xs) {row : Option Nat} (hg : w.grownBy w' row) (hr : ∀ g, v.ownBlock = some g → some g ≠ row) : w'.ownsRow base e size v n xs :=
  World.ownsRow.kept h hg (by
    cases hv : v.ownBlock with
    | none => exact .inl rfl
    | some g => exact .inr (by intro e; exact hr g hv e))
theorem run_append_void {P : Program} {w : World} {base : Nat} {t ty e : TypeId} {i : TypeInfo} {size : Nat} (ht : P.underlying t = some (.slice e)) (hi : P.info? e = some i)
    {v : Value} {n : Nat} {xs : List Value} (h : w.ownsRow base e size v n xs) (c : Nat) : (Builtin.append_ #[t, t] ty #[v, .slice none 0 c]).run P w = .ok v w := by
  rcases h.2 with ⟨rfl, rfl⟩ | ⟨g, cap, cur, rfl, _, _, hnc, _⟩
  · simp [Builtin.append_, run_underlying ht, sizeOf, typeInfo, hi, Builtin.lenOf, Builtin.firstCells]
  · simp [Builtin.append_, run_underlying ht, sizeOf, typeInfo, hi, Builtin.lenOf, Builtin.firstCells, hnc, storeCells]

variable {P : Program} {T e : TypeId} {size bytes : Nat} {z : Value}
/-- What an append of a slice that lies there leaves. -/
theorem grow_old (E : Elem P T e size bytes z) {ops : Array Oper} {rest : List Oper} {o : Oper} {a : Act} {Q : Exit → Act → World → Prop} (hgd : o.guard = none) (s x : Operand)
    (ho : o.op = .call { callee := .builtin .append, args := #[s, x], argTypes := #[T, T] }) (base : Nat) (w : World) (v : Value) (n : Nat) (xs : List Value) (hs : a.eval s = v) (hrow : w.ownsRow base e size v n xs)
    (A : Option Addr) (m c : Nat) (news : List Value) (hx : a.eval x = .slice A m c) (hl : news.length = m * size) (hn : (A = none ∧ m = 0) ∨ ∃ ad, A = some ad ∧ ∀ j u, news[j]? = some u → w.cell? (ad.add j) = some u) (h1 : ∀ u ∈ news, u.oneCell' = true)
    (h63 : n + m ≤ 9223372036854775807) (hb : (n + m) * bytes ≤ 140737488355328) (hbase : base ≤ w.heap.size)
    (h : ∀ v' w', w'.ownsRow base e size v' (n + m) (xs ++ news) → w.grownBy w' v.ownBlock → Below base w w' → wpList P ops Q rest (a.put o.dst v') w') : wpList P ops Q (o :: rest) a w := by
  obtain ⟨i0, hi, hz0, hz1, hz2⟩ := info_parts E.info
  rcases hn with ⟨rfl, rfl⟩ | ⟨ad, rfl, hcells⟩
  · have hnil : news = [] := List.eq_nil_of_length_eq_zero (by simpa using hl)
    subst hnil
    refine wpList_plain hgd fun K hK => ?_
    have hrun := run_append_void (P := P) (w := w) (ty := o.type) E.und hi hrow c
    unfold Oper.wp
    simp [execOp, ho, resolve, invoke, builtin, hs, hx, hrun, Result.andThen]
    exact hK _ _ (h v w (by simpa using hrow) (World.grownBy.refl w _) (Below.refl _ _))
  · refine wpList_append_own _ hgd s x T ho base e i0 z size bytes E.und hi hz0 hz1 hz2 E.zs E.pos v n xs hs hrow ad m c news hx hl hcells h1 (by unfold maxLen; omega) hb hbase ?_
    intro v' w' hown hgrow _
    exact h v' w' hown hgrow ((Below.refl base w).grown hgrow hbase (fun g hg => (World.ownsRow.lt hrow g hg).1))
theorem run_grow_old (E : Elem P T e size bytes z) (ty : TypeId) (base : Nat) (w : World) (v : Value) (n : Nat) (xs : List Value) (hrow : w.ownsRow base e size v n xs)
    (A : Option Addr) (m c : Nat) (news : List Value) (hl : news.length = m * size) (hn : (A = none ∧ m = 0) ∨ ∃ ad, A = some ad ∧ ∀ j u, news[j]? = some u → w.cell? (ad.add j) = some u) (h1 : ∀ u ∈ news, u.oneCell' = true)
    (h63 : n + m ≤ 9223372036854775807) (hb : (n + m) * bytes ≤ 140737488355328) (hbase : base ≤ w.heap.size) :
    ∃ v' w', (Builtin.append_ #[T, T] ty #[v, .slice A m c]).run P w = .ok v' w' ∧ w'.ownsRow base e size v' (n + m) (xs ++ news) ∧ w.grownBy w' v.ownBlock ∧ Below base w w' := by
  obtain ⟨i0, hi, hz0, hz1, hz2⟩ := info_parts E.info
  rcases hn with ⟨rfl, rfl⟩ | ⟨ad, rfl, hcells⟩
  · have hnil : news = [] := List.eq_nil_of_length_eq_zero (by simpa using hl)
    subst hnil
    exact ⟨v, w, run_append_void (P := P) (w := w) (ty := ty) E.und hi hrow c, by simpa using hrow, World.grownBy.refl w _, Below.refl _ _⟩
  · obtain ⟨v', w', hr, hown, hgrow, _⟩ := run_append_own (P := P) w base T ty e i0 z size bytes E.und hi hz0 hz1 hz2 E.zs E.pos v n xs hrow ad m c news hl hcells h1 (by unfold maxLen; omega) hb hbase
    exact ⟨v', w', hr, hown, hgrow, (Below.refl base w).grown hgrow hbase (fun g hg => (World.ownsRow.lt hrow g hg).1)⟩
/-- The same at a step of a region that draws its order. -/
theorem step_grow_old (E : Elem P T e size bytes z) {ops : Array Oper} {o : Oper} {a : Act} {w : World} {K : Act → World → Prop} {Q : Exit → Act → World → Prop} {F : Prop} (hgd : o.guard = none) (s x : Operand)
    (ho : o.op = .call { callee := .builtin .append, args := #[s, x], argTypes := #[T, T] }) (base : Nat) (v : Value) (n : Nat) (xs : List Value) (hs : a.eval s = v) (hrow : w.ownsRow base e size v n xs)
    (A : Option Addr) (m c : Nat) (news : List Value) (hx : a.eval x = .slice A m c) (hl : news.length = m * size) (hn : (A = none ∧ m = 0) ∨ ∃ ad, A = some ad ∧ ∀ j u, news[j]? = some u → w.cell? (ad.add j) = some u) (h1 : ∀ u ∈ news, u.oneCell' = true)
    (h63 : n + m ≤ 9223372036854775807) (hb : (n + m) * bytes ≤ 140737488355328) (hbase : base ≤ w.heap.size)
    (h : ∀ v' w', w'.ownsRow base e size v' (n + m) (xs ++ news) → w.grownBy w' v.ownBlock → Below base w w' → K (a.put o.dst v') w') : if Region.wanted o (yielded ops a.tmps) = true then Oper.wp P o a w K Q else F := by
  have hw : Region.wanted o (yielded ops a.tmps) = true := by simp [Region.wanted, hgd]
  rw [if_pos hw]
  obtain ⟨v', w', hrun, h2, h3, h4⟩ := run_grow_old E o.type base w v n xs hrow A m c news hl hn h1 h63 hb hbase
  unfold Oper.wp execOp
  simp only [ho, resolve, invoke, builtin, Sem.run_bind, Sem.run_pure, Result.andThen_ok, List.map_toArray, List.map_cons, List.map_nil, hs, hx, hrun]
  exact h v' w' h2 h3 h4
/-- The cells of a block that was just laid, at its head. -/
theorem news_at {w : World} {g : Nat} {cs : Array Value} {te : TypeId} {fr : Nat × Nat} (h : Has w g (.cells cs te fr)) : ∀ j u, cs.toList[j]? = some u → w.cell? ((⟨g, 0, none⟩ : Addr).add j) = some u := by
  intro j u hu
  rw [show (⟨g, 0, none⟩ : Addr).add j = ⟨g, j, none⟩ by simp [Addr.add]; omega]
  exact h.cell j u (by simpa using hu)
/-- What an append of elements that were just laid down leaves. -/
theorem grow_new (E : Elem P T e size bytes z) {ops : Array Oper} {rest : List Oper} {o : Oper} {a : Act} {Q : Exit → Act → World → Prop} (hgd : o.guard = none) (s x : Operand)
    (ho : o.op = .call { callee := .builtin .append, args := #[s, x], argTypes := #[T, T] }) (base : Nat) (w : World) (v : Value) (n : Nat) (xs : List Value) (hs : a.eval s = v) (hrow : w.ownsRow base e size v n xs)
    (m : Nat) (cs : Array Value) (hx : a.eval x = .slice (some ⟨w.heap.size, 0, none⟩) m m) (hl : cs.size = m * size) (h1 : ∀ u ∈ cs.toList, u.oneCell' = true)
    (h63 : n + m ≤ 9223372036854775807) (hb : (n + m) * bytes ≤ 140737488355328) (hbase : base ≤ w.heap.size)
    (h : ∀ v' w', w'.ownsRow base e size v' (n + m) (xs ++ cs.toList) → w.grownBy w' v.ownBlock → Below base w w' → wpList P ops Q rest (a.put o.dst v') w') : wpList P ops Q (o :: rest) a (w.alloc (.cells cs e)) := by
  refine grow_old E hgd s x ho base _ v n xs hs (hrow.alloc _) (some ⟨w.heap.size, 0, none⟩) m m cs.toList hx (by simpa using hl) (.inr ⟨_, rfl, ?_⟩) h1 h63 hb (by simp; omega) ?_
  · intro j u hu
    have := (Has.new w (.cells cs e)).cell j u (by simpa using hu)
    rw [show (⟨w.heap.size, 0, none⟩ : Addr).add j = ⟨w.heap.size, j, none⟩ by simp [Addr.add]; omega]
    exact this
  · intro v' w' hown hgrow hbel
    refine h v' w' hown ?_ (((Below.refl base w).alloc hbase _).trans hbel)
    have hg := World.grownBy_alloc w (.cells cs e) v.ownBlock
    exact ⟨hgrow.os.trans hg.os, hgrow.tape.trans hg.tape, hgrow.output.trans hg.output, Nat.le_trans hg.size hgrow.size, fun k hk hne => (hgrow.block k (Nat.lt_of_lt_of_le hk hg.size) hne).trans (hg.block k hk hne)⟩
end Go.Proofs.Ytgabonacpoimfaa
