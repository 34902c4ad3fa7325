/-
  What an append leaves: the row that it hands back is the old one, or a new one.
-/
import Derived.Test.YtgabonacpoimfaaGrow
namespace Go.Proofs.Ytgabonacpoimfaa
open Go.RowKit
set_option linter.unusedVariables false
set_option linter.unusedSimpArgs false
variable {P : Program} {T e : TypeId} {size bytes : Nat} {z : Value}
theorem append_fresh (E : Elem P T e size bytes z) {ty : TypeId} {w w' : World} {v v' : Value} {n : Nat} {xs : List Value} (hrow : w.ownsRow 0 e size v n xs)
    {A : Option Addr} {m c : Nat} {news : List Value} (hl : news.length = m * size) (hn : (A = none ∧ m = 0) ∨ ∃ ad, A = some ad ∧ ∀ j u, news[j]? = some u → w.cell? (ad.add j) = some u) (h1 : ∀ u ∈ news, u.oneCell' = true)
    (h63 : n + m ≤ 9223372036854775807) (hb : (n + m) * bytes ≤ 140737488355328) (hr : (Builtin.append_ #[T, T] ty #[v, .slice A m c]).run P w = .ok v' w') : ∀ g, v'.ownBlock = some g → v.ownBlock = some g ∨ w.heap.size ≤ g := by
  obtain ⟨i, hi, hz0, hz1, hz2⟩ := info_parts E.info
  intro k hk
  have hs := E.zs
  have hp := E.pos
  rcases hn with ⟨rfl, rfl⟩ | ⟨ad, rfl, hcells⟩
  · rw [run_append_void (P := P) (w := w) (ty := ty) E.und hi hrow c] at hr
    cases hr
    exact .inl hk
  · rcases hrow.2 with ⟨rfl, rfl⟩ | ⟨g, cap, cur, rfl, hbg, hg, hnc, hcm, hcs, htake⟩
    · have hx : xs = [] := List.eq_nil_of_length_eq_zero (by simpa using hrow.1)
      subst hx
      obtain ⟨v2, w2, hr2, hown, _, _⟩ := run_append_own (P := P) w w.heap.size T ty e i z size bytes E.und hi hz0 hz1 hz2 hs hp (.slice none 0 0) 0 [] (World.ownsRow_nil w w.heap.size e size) ad m c news hl hcells h1 (by unfold maxLen; omega) hb (Nat.le_refl _)
      rw [hr2] at hr
      cases hr
      exact .inr (World.ownsRow.lt hown k hk).1
    · subst hz1
      subst hz2
      by_cases hroom : n + m ≤ cap
      · have hfit : n * i.size + news.length ≤ cur.size := by rw [hl, hcs, ← Nat.add_mul]; exact Nat.mul_le_mul_right _ hroom
        have hr2 := run_append_room (P := P) w T ty e i E.und hi g n cap cur hg ad m c news hl hcells h1 hroom hfit
        rw [hr2] at hr
        cases hr
        exact .inl hk
      · have holds : ∀ j u, xs[j]? = some u → w.cell? ((⟨g, 0, none⟩ : Addr).add j) = some u := hrow.cells (g := g) rfl
        have hr2 := run_append_grow (P := P) w T ty e i z E.und hi hz0 ⟨g, 0, none⟩ n cap xs hrow.1 holds ad m c news hl hcells (by omega) (by omega) (growslice_fits (by omega) hb)
        rw [hr2] at hr
        cases hr
        have : w.heap.size = k := by simpa [Value.ownBlock] using hk
        exact .inr (by omega)
theorem run_grow_own (E : Elem P T e size bytes z) (ty : TypeId) (w : World) (v : Value) (n : Nat) (xs : List Value) (hrow : w.ownsRow 0 e size v n xs)
    (A : Option Addr) (m c : Nat) (news : List Value) (hl : news.length = m * size) (hn : (A = none ∧ m = 0) ∨ ∃ ad, A = some ad ∧ ∀ j u, news[j]? = some u → w.cell? (ad.add j) = some u) (h1 : ∀ u ∈ news, u.oneCell' = true)
    (h63 : n + m ≤ 9223372036854775807) (hb : (n + m) * bytes ≤ 140737488355328) :
    ∃ v' w', (Builtin.append_ #[T, T] ty #[v, .slice A m c]).run P w = .ok v' w' ∧ w'.ownsRow 0 e size v' (n + m) (xs ++ news) ∧ w.grownBy w' v.ownBlock ∧ ∀ g, v'.ownBlock = some g → v.ownBlock = some g ∨ w.heap.size ≤ g := by
  obtain ⟨v', w', hr, h2, h3, _⟩ := run_grow_old E ty 0 w v n xs hrow A m c news hl hn h1 h63 hb (by omega)
  exact ⟨v', w', hr, h2, h3, append_fresh E hrow hl hn h1 h63 hb hr⟩
/-- At a step of a region that draws its order. -/
theorem step_grow_own (E : Elem P T e size bytes z) {ops : Array Oper} {o : Oper} {a : Act} {w : World} {K : Act → World → Prop} {Q : Exit → Act → World → Prop} {F : Prop} (hgd : o.guard = none) (s x : Operand)
    (ho : o.op = .call { callee := .builtin .append, args := #[s, x], argTypes := #[T, T] }) (v : Value) (n : Nat) (xs : List Value) (hs : a.eval s = v) (hrow : w.ownsRow 0 e size v n xs)
    (A : Option Addr) (m c : Nat) (news : List Value) (hx : a.eval x = .slice A m c) (hl : news.length = m * size) (hn : (A = none ∧ m = 0) ∨ ∃ ad, A = some ad ∧ ∀ j u, news[j]? = some u → w.cell? (ad.add j) = some u) (h1 : ∀ u ∈ news, u.oneCell' = true)
    (h63 : n + m ≤ 9223372036854775807) (hb : (n + m) * bytes ≤ 140737488355328)
    (h : ∀ v' w', w'.ownsRow 0 e size v' (n + m) (xs ++ news) → w.grownBy w' v.ownBlock → (∀ g, v'.ownBlock = some g → v.ownBlock = some g ∨ w.heap.size ≤ g) → K (a.put o.dst v') w') : if Region.wanted o (yielded ops a.tmps) = true then Oper.wp P o a w K Q else F := by
  have hw : Region.wanted o (yielded ops a.tmps) = true := by simp [Region.wanted, hgd]
  rw [if_pos hw]
  obtain ⟨v', w', hrun, h2, h3, h4⟩ := run_grow_own E o.type w v n xs hrow A m c news hl hn h1 h63 hb
  unfold Oper.wp execOp
  simp only [ho, resolve, invoke, builtin, Sem.run_bind, Sem.run_pure, Result.andThen_ok, List.map_toArray, List.map_cons, List.map_nil, hs, hx, hrun]
  exact h v' w' h2 h3 h4
/-- At an operation of a plain list. -/
theorem grow_own (E : Elem P T e size bytes z) {ops : Array Oper} {rest : List Oper} {o : Oper} {a : Act} {Q : Exit → Act → World → Prop} (hgd : o.guard = none) (s x : Operand)
    (ho : o.op = .call { callee := .builtin .append, args := #[s, x], argTypes := #[T, T] }) (w : World) (v : Value) (n : Nat) (xs : List Value) (hs : a.eval s = v) (hrow : w.ownsRow 0 e size v n xs)
    (A : Option Addr) (m c : Nat) (news : List Value) (hx : a.eval x = .slice A m c) (hl : news.length = m * size) (hn : (A = none ∧ m = 0) ∨ ∃ ad, A = some ad ∧ ∀ j u, news[j]? = some u → w.cell? (ad.add j) = some u) (h1 : ∀ u ∈ news, u.oneCell' = true)
    (h63 : n + m ≤ 9223372036854775807) (hb : (n + m) * bytes ≤ 140737488355328)
    (h : ∀ v' w', w'.ownsRow 0 e size v' (n + m) (xs ++ news) → w.grownBy w' v.ownBlock → (∀ g, v'.ownBlock = some g → v.ownBlock = some g ∨ w.heap.size ≤ g) → wpList P ops Q rest (a.put o.dst v') w') : wpList P ops Q (o :: rest) a w := by
  refine wpList_plain hgd fun K hK => ?_
  obtain ⟨v', w', hrun, h2, h3, h4⟩ := run_grow_own E o.type w v n xs hrow A m c news hl hn h1 h63 hb
  unfold Oper.wp execOp
  simp only [ho, resolve, invoke, builtin, Sem.run_bind, Sem.run_pure, Result.andThen_ok, List.map_toArray, List.map_cons, List.map_nil, hs, hx, hrun]
  exact hK _ _ (h v' w' h2 h3 h4)
/-- The cells of a slice with one element that was just laid down. -/
theorem news_one {w : World} {cs : Array Value} {te : TypeId} : ∀ j u, cs.toList[j]? = some u → ((w.alloc (.cells cs te)).drew).cell? ((⟨w.heap.size, 0, none⟩ : Addr).add j) = some u := news_at (Has.new w (.cells cs te)).drew
end Go.Proofs.Ytgabonacpoimfaa
