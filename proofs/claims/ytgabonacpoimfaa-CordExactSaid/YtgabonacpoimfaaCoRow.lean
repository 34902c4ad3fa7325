/-
  Texts in a row that may begin anywhere in its block: what a cut at the front and an append leave; what a world keeps but for some blocks.
-/
import Derived.Test.YtgabonacpoimfaaGrow2
import Derived.Deep.AppendSrc
import Derived.Deep.Upon
namespace Go.Proofs.Ytgabonacpoimfaa
open Go.RowKit
set_option linter.unusedVariables false
set_option linter.unusedSimpArgs false

/-- All that lay before is as it was, but for some blocks. -/
structure Kept (S : Nat → Prop) (w w' : World) : Prop where
  os : w'.os = w.os
  tape : w'.tape = w.tape
  output : w'.output = w.output
  size : w.heap.size ≤ w'.heap.size
  block : ∀ k, k < w.heap.size → ¬ S k → w'.heap[k]? = w.heap[k]?
theorem Kept.refl (S : Nat → Prop) (w : World) : Kept S w w := ⟨rfl, rfl, rfl, Nat.le_refl _, fun _ _ _ => rfl⟩
theorem Kept.of {S : Nat → Prop} {w w' : World} (h : Below w.heap.size w w') : Kept S w w' := ⟨h.os, h.tape, h.output, h.size, fun k hk _ => h.block k hk⟩
theorem Kept.but {S : Nat → Prop} {b : Nat} {w w' : World} (h : But b w w') (hb : S b) : Kept S w w' := ⟨h.os, h.tape, h.output, h.size, fun k hk hs => h.block k hk (fun e => hs (e ▸ hb))⟩
theorem Kept.grown {S : Nat → Prop} {r : Option Nat} {w w' : World} (h : w.grownBy w' r) (hb : ∀ g, r = some g → S g) : Kept S w w' := ⟨h.os, h.tape, h.output, h.size, fun k hk hs => h.block k hk (fun e => hs (hb k e.symm))⟩
theorem Kept.trans {S : Nat → Prop} {w w1 w2 : World} (h : Kept S w w1) (g : Kept S w1 w2) : Kept S w w2 :=
  ⟨g.os.trans h.os, g.tape.trans h.tape, g.output.trans h.output, Nat.le_trans h.size g.size, fun k hk hs => (g.block k (Nat.lt_of_lt_of_le hk h.size) hs).trans (h.block k hk hs)⟩
/-- The second step may turn blocks that the first one has laid. -/
theorem Kept.join {S T : Nat → Prop} {w w1 w2 : World} (h : Kept S w w1) (g : Kept T w1 w2) (hT : ∀ k, T k → S k ∨ w.heap.size ≤ k) : Kept S w w2 :=
  ⟨g.os.trans h.os, g.tape.trans h.tape, g.output.trans h.output, Nat.le_trans h.size g.size, fun k hk hs => (g.block k (Nat.lt_of_lt_of_le hk h.size) (fun ht => (hT k ht).elim hs (fun h => by omega))).trans (h.block k hk hs)⟩
theorem Kept.mono {S T : Nat → Prop} {w w' : World} (h : Kept S w w') (hs : ∀ k, S k → T k) : Kept T w w' := ⟨h.os, h.tape, h.output, h.size, fun k hk ht => h.block k hk (fun e => ht (hs k e))⟩
theorem Kept.below {S : Nat → Prop} {B : Nat} {w w' : World} (h : Kept S w w') (hB : ∀ k, S k → B ≤ k) (hw : B ≤ w.heap.size) : Below B w w' :=
  ⟨h.os, h.tape, h.output, h.size, fun k hk => h.block k (by omega) (fun hs => by have := hB k hs; omega)⟩
theorem Has.held {S : Nat → Prop} {w w' : World} {b : Nat} {o : Obj} (h : Has w b o) (k : Kept S w w') (hs : ¬ S b) : Has w' b o := by
  have := h.lt
  unfold Has at *
  rw [k.block b this hs]; exact h
theorem Kept.cell {S : Nat → Prop} {w w' : World} (h : Kept S w w') {b o : Nat} {v : Value} (hc : w.cell? ⟨b, o, none⟩ = some v) (hs : ¬ S b) : w'.cell? ⟨b, o, none⟩ = some v :=
  (World.cell?_of_block (a := ⟨b, o, none⟩) (h.block b (block_lt_of_cell hc) hs)).trans hc

/-- A row of texts. -/
def SRow (w : World) (v : Value) (q : List ByteArray) : Prop :=
  (v = .slice none 0 0 ∧ q = []) ∨ ∃ g off cap cur, v = .slice (some ⟨g, off, none⟩) q.length cap ∧ Has w g (.cells cur 9) ∧ q.length ≤ cap ∧ cap ≤ 9223372036854775807 ∧ off + cap ≤ cur.size ∧ ∀ (i : Nat) s, q[i]? = some s → cur[off + i]? = some (.string s)
theorem SRow.nil (w : World) : SRow w (.slice none 0 0) [] := .inl ⟨rfl, rfl⟩
theorem SRow.empty (w : World) (b : Nat) (cs : Array Value) (h : Has w b (.cells cs 9)) : SRow w (.slice (some ⟨b, 0, none⟩) 0 0) [] := .inr ⟨b, 0, 0, cs, rfl, h, Nat.le_refl _, by omega, by omega, fun i s h => by simp at h⟩
theorem SRow.form {w : World} {v : Value} {q : List ByteArray} (h : SRow w v q) : ∃ A cap, v = .slice A q.length cap ∧ q.length ≤ cap ∧ cap ≤ 9223372036854775807 := by
  rcases h with ⟨rfl, rfl⟩ | ⟨g, off, cap, cur, rfl, _, h1, h2, _⟩
  · exact ⟨none, 0, rfl, Nat.le_refl _, by omega⟩
  · exact ⟨_, cap, rfl, h1, h2⟩
theorem SRow.at {w : World} {A : Option Addr} {n cap : Nat} {q : List ByteArray} (h : SRow w (.slice A n cap) q) {i : Nat} {s : ByteArray} (hi : q[i]? = some s) : ∃ g off, A = some ⟨g, off, none⟩ ∧ (Value.slice A n cap).ownBlock = some g ∧ w.cell? ⟨g, off + i, none⟩ = some (.string s) ∧ g < w.heap.size := by
  rcases h with ⟨_, rfl⟩ | ⟨g, off, cap', cur, e, hg, h1, h2, h3, h4⟩
  · simp at hi
  · injection e with e1 e2 e3
    subst e1
    exact ⟨g, off, rfl, rfl, hg.cell _ _ (h4 i s hi), hg.lt⟩
theorem SRow.lt {w : World} {v : Value} {q : List ByteArray} (h : SRow w v q) {g : Nat} (hg : v.ownBlock = some g) : g < w.heap.size := by
  rcases h with ⟨rfl, _⟩ | ⟨g', off, cap', cur, rfl, h', _⟩
  · cases hg
  · cases hg; exact h'.lt
theorem SRow.held {S : Nat → Prop} {w w' : World} {v : Value} {q : List ByteArray} (h : SRow w v q) (k : Kept S w w') (hs : ∀ g, v.ownBlock = some g → ¬ S g) : SRow w' v q := by
  rcases h with h | ⟨g, off, cap', cur, rfl, h', r⟩
  · exact .inl h
  · exact .inr ⟨g, off, cap', cur, rfl, h'.held k (hs g rfl), r⟩
theorem SRow.below {w w' : World} {v : Value} {q : List ByteArray} (h : SRow w v q) (b : Below w.heap.size w w') : SRow w' v q := h.held (S := fun _ => False) (Kept.of b) (fun _ _ e => e)
/-- What is left of an address where a slice is cut at the front. -/
def cutAt (A : Option Addr) (cap k : Nat) : Option Addr := if cap = k then A else A.map fun a => a.add k
theorem SRow.cut {w : World} {A : Option Addr} {n cap : Nat} {q : List ByteArray} (h : SRow w (.slice A n cap) q) {k : Nat} (hk : k ≤ n) (ha : A ≠ none) : SRow w (.slice (cutAt A cap k) (n - k) (cap - k)) (q.drop k) ∧ ∀ g, (Value.slice (cutAt A cap k) (n - k) (cap - k)).ownBlock = some g → (Value.slice A n cap).ownBlock = some g := by
  rcases h with ⟨e, _⟩ | ⟨g, off, cap', cur, e, hg, h1, h2, h3, h4⟩
  · injection e with e1; exact absurd e1 ha
  · injection e with e1 e2 e3
    subst e1 e2 e3
    unfold cutAt
    by_cases hc : cap = k
    · rw [if_pos hc]
      refine ⟨.inr ⟨g, off, cap - k, cur, by rw [List.length_drop], hg, by rw [List.length_drop]; omega, by omega, by omega, fun i s hi => ?_⟩, fun g' h => h⟩
      rw [List.getElem?_drop] at hi
      have := (List.getElem?_eq_some_iff.1 hi).1
      omega
    · rw [if_neg hc]
      have ha : (⟨g, off, none⟩ : Addr).add k = ⟨g, off + k, none⟩ := by rw [Addr.add_lit]
      simp only [Option.map_some, ha]
      refine ⟨.inr ⟨g, off + k, cap - k, cur, by rw [List.length_drop], hg, by rw [List.length_drop]; omega, by omega, by omega, fun i s hi => ?_⟩, fun g' h => h⟩
      rw [List.getElem?_drop] at hi
      rw [show off + k + i = off + (k + i) by omega]
      exact h4 _ _ hi
theorem strElem : Elem Try.prog 40 9 1 16 (.string ⟨#[]⟩) := ⟨Try.underlying40, by kernel_rfl, rfl, by omega⟩
/-- What an append to a row of texts leaves. -/
theorem run_srow_append (ty : TypeId) (w : World) (v : Value) (q : List ByteArray) (h : SRow w v q) (x : Value) (news : List ByteArray) (hs : Src Try.prog 1 40 x news.length (news.map Value.string) w)
    (hq : q.length + news.length ≤ 1000000000) :
    ∃ v' w', (Builtin.append_ #[40, 40] ty #[v, x]).run Try.prog w = .ok v' w' ∧ SRow w' v' (q ++ news) ∧ w.grownBy w' v.ownBlock ∧ ∀ g, v'.ownBlock = some g → v.ownBlock = some g ∨ w.heap.size ≤ g := by
  obtain ⟨i, hi, hz0, hz1, hz2⟩ := info_parts strElem.info
  have grown : ∀ (A : Option Addr) (cap : Nat), (Builtin.firstCells i.size q.length (.slice A q.length cap)).run Try.prog w.drew = .ok ((q.map Value.string).toArray) w.drew → cap < q.length + news.length →
      ∃ v' w', (Builtin.append_ #[40, 40] ty #[.slice A q.length cap, x]).run Try.prog w = .ok v' w' ∧ SRow w' v' (q ++ news) ∧ w.grownBy w' (Value.slice A q.length cap).ownBlock ∧ ∀ g, v'.ownBlock = some g → (Value.slice A q.length cap).ownBlock = some g ∨ w.heap.size ≤ g := by
    intro A cap hf hc
    have hge := grownCap_ge w (q.length + news.length) cap 9
    have hcm : grownCap w (q.length + news.length) cap 9 ≤ maxLen := grownCap_le_maxLen w _ _ _ (by unfold maxLen; omega)
    have hr := run_append_grow_src (P := Try.prog) w 40 40 ty 9 i (.string ⟨#[]⟩) Try.underlying40 hi hz0 A q.length cap (q.map Value.string) hf x news.length (news.map Value.string) (by rw [hz1]; exact hs) hc (by omega) (growslice_fits hc (by rw [hz2]; omega))
    refine ⟨_, _, hr, .inr ⟨w.heap.size, 0, _, _, by rw [List.length_append], Has.new w.drew _, by rw [List.length_append]; exact hge, by unfold maxLen at hcm; omega, ?_, ?_⟩, ⟨rfl, rfl, rfl, by simp, fun k hk _ => Below.heap_alloc w.drew _ k hk⟩, fun g hg => .inr (by cases hg; exact Nat.le_refl _)⟩
    · simp only [Array.size_append, List.size_toArray, List.length_append, List.length_map, size_zeroCells]
      rw [show (Value.string ⟨#[]⟩).cells.size = 1 from rfl]
      omega
    · intro j s hj
      rw [Nat.zero_add]
      have hjl := (List.getElem?_eq_some_iff.1 hj).1
      rw [Array.getElem?_append_left (by simp only [List.size_toArray, List.length_append, List.length_map]; rw [List.length_append] at hjl; exact hjl)]
      simp only [List.getElem?_toArray]
      rw [← List.map_append, List.getElem?_map, hj]
      rfl
  rcases h with ⟨rfl, rfl⟩ | ⟨g, off, cap, cur, rfl, hg, h1, h2, h3, h4⟩
  · by_cases hn : news.length = 0
    · have hn' : news = [] := List.eq_nil_of_length_eq_zero hn
      subst hn'
      have hr := run_append_nothing (P := Try.prog) w 40 40 ty 9 i Try.underlying40 hi none 0 0 (Nat.le_refl _) x (by rw [hz1]; exact hs)
      exact ⟨_, _, hr, SRow.nil w, World.grownBy.refl w _, fun g hg => .inl hg⟩
    · refine grown none 0 ?_ (by simp only [List.length_nil]; omega)
      exact run_firstCells_none w.drew i.size 0 0 0
  · by_cases hroom : q.length + news.length ≤ cap
    · have hst := run_storeCells_at Try.prog g (off + q.length * i.size) 9 (news.map Value.string) 0 cur w hg (by rw [hz1]; simp only [List.length_map]; omega) hs.one
      simp only [Nat.add_zero] at hst
      have hcells : (Builtin.firstCells i.size news.length x).run Try.prog w = .ok (news.map Value.string).toArray w := by rw [hz1]; exact hs.cells
      have hlen := hs.len
      have hr : (Builtin.append_ #[40, 40] ty #[.slice (some ⟨g, off, none⟩) q.length cap, x]).run Try.prog w = .ok (.slice (some ⟨g, off, none⟩) (q.length + news.length) cap) (w.setRow g (cur.toList.take (off + q.length * i.size) ++ news.map Value.string ++ cur.toList.drop (off + q.length * i.size + (news.map Value.string).length)).toArray) := by
        simp [Builtin.append_, run_underlying Try.underlying40, sizeOf, typeInfo, hi, hlen, hroom, hcells, Addr.add_lit, hst]
      rw [hz1, Nat.mul_one] at hr
      refine ⟨_, _, hr, .inr ⟨g, off, cap, _, by rw [List.length_append], setRow_heap w g cur _ 9 _ hg, by rw [List.length_append]; exact hroom, h2, ?_, ?_⟩, ⟨rfl, rfl, rfl, by simp, fun k _ hk => setRow_other w g k _ (fun e => hk (by simp [Value.ownBlock, e]))⟩, fun g' hg' => .inl hg'⟩
      · simp only [List.size_toArray, List.length_append, List.length_take, List.length_drop, Array.length_toList, List.length_map]
        omega
      · intro j s hj
        have hcl : cur.toList.length = cur.size := Array.length_toList
        by_cases hjq : j < q.length
        · rw [List.getElem?_append_left hjq] at hj
          have := h4 j s hj
          simp only [List.getElem?_toArray]
          rw [List.append_assoc, List.getElem?_append_left (by rw [List.length_take]; omega), List.getElem?_take, if_pos (by omega)]
          simpa using this
        · rw [List.getElem?_append_right (by omega)] at hj
          have hjn := (List.getElem?_eq_some_iff.1 hj).1
          simp only [List.getElem?_toArray]
          rw [List.append_assoc, List.getElem?_append_right (by rw [List.length_take]; omega), List.length_take, Nat.min_eq_left (by omega), List.getElem?_append_left (by rw [List.length_map]; omega)]
          rw [show off + j - (off + q.length) = j - q.length by omega]
          simp [hj]
    · refine grown (some ⟨g, off, none⟩) cap ?_ (by omega)
      refine run_firstCells_some w.drew i.size q.length ⟨g, off, none⟩ q.length cap (q.map Value.string) (by rw [hz1]; simp) (fun j u hu => ?_)
      rw [List.getElem?_map] at hu
      obtain ⟨s, hs1, rfl⟩ := Option.map_eq_some_iff.1 hu
      rw [Addr.add_lit]
      exact (hg.drew).cell _ _ (h4 j s hs1)
/-- The source that one fresh text is. -/
theorem Src.one {w : World} {g : Nat} {s : ByteArray} (h : Has w g (.cells #[.string s] 9)) (c : Nat) : Src Try.prog 1 40 (.slice (some ⟨g, 0, none⟩) 1 c) [s].length ([s].map Value.string) w :=
  Src.ofSlice w Try.underlying40 ⟨g, 0, none⟩ 1 c [.string s] rfl (fun j u hu => by
    rw [Addr.add_lit, Nat.zero_add]
    exact h.cell j u (by simpa using hu)) (by intro u hu; simp at hu; subst hu; rfl)
/-- The source that another row is. -/
theorem Src.row {w : World} {A : Option Addr} {cap : Nat} {q : List ByteArray} (h : SRow w (.slice A q.length cap) q) : Src Try.prog 1 40 (.slice A q.length cap) q.length (q.map Value.string) w := by
  rcases h with ⟨e, rfl⟩ | ⟨g, off, cap', cur, e, hg, h1, h2, h3, h4⟩
  · injection e with e1 e2 e3
    subst e1 e3
    exact Src.ofNil w Try.underlying40 0
  · injection e with e1 e2 e3
    subst e1 e3
    refine Src.ofSlice w Try.underlying40 ⟨g, off, none⟩ q.length cap (q.map Value.string) (by simp) (fun j u hu => ?_) (fun u hu => ?_)
    · rw [List.getElem?_map] at hu
      obtain ⟨s, hs1, rfl⟩ := Option.map_eq_some_iff.1 hu
      rw [Addr.add_lit]
      exact hg.cell _ _ (h4 j s hs1)
    · obtain ⟨s, _, rfl⟩ := List.mem_map.1 hu; rfl
theorem wpList_srow_append {ops : Array Oper} {rest : List Oper} {o : Oper} {a : Act} {Q : Exit → Act → World → Prop} (hgd : o.guard = none) (s x : Operand)
    (ho : o.op = .call { callee := .builtin .append, args := #[s, x], argTypes := #[40, 40] }) (w : World) (v : Value) (q : List ByteArray) (hs : a.eval s = v) (hrow : SRow w v q)
    (y : Value) (hx : a.eval x = y) (news : List ByteArray) (hn : Src Try.prog 1 40 y news.length (news.map Value.string) w) (hq : q.length + news.length ≤ 1000000000)
    (h : ∀ v' w', SRow w' v' (q ++ news) → w.grownBy w' v.ownBlock → (∀ g, v'.ownBlock = some g → v.ownBlock = some g ∨ w.heap.size ≤ g) → wpList Try.prog ops Q rest (a.put o.dst v') w') : wpList Try.prog ops Q (o :: rest) a w := by
  refine wpList_plain hgd fun K hK => ?_
  obtain ⟨v', w', hrun, h2, h3, h4⟩ := run_srow_append o.type w v q hrow y news hn hq
  unfold Oper.wp
  simp [execOp, ho, resolve, invoke, builtin, hs, hx, hrun, Result.andThen]
  exact hK _ _ (h v' w' h2 h3 h4)
theorem step_srow_append {ops : Array Oper} {o : Oper} {a : Act} {w : World} {K : Act → World → Prop} {Q : Exit → Act → World → Prop} {F : Prop} (hgd : o.guard = none) (s x : Operand)
    (ho : o.op = .call { callee := .builtin .append, args := #[s, x], argTypes := #[40, 40] }) (v : Value) (q : List ByteArray) (hs : a.eval s = v) (hrow : SRow w v q)
    (y : Value) (hx : a.eval x = y) (news : List ByteArray) (hn : Src Try.prog 1 40 y news.length (news.map Value.string) w) (hq : q.length + news.length ≤ 1000000000)
    (h : ∀ v' w', SRow w' v' (q ++ news) → w.grownBy w' v.ownBlock → (∀ g, v'.ownBlock = some g → v.ownBlock = some g ∨ w.heap.size ≤ g) → K (a.put o.dst v') w') : if Region.wanted o (yielded ops a.tmps) = true then Oper.wp Try.prog o a w K Q else F := by
  have hw : Region.wanted o (yielded ops a.tmps) = true := by simp [Region.wanted, hgd]
  rw [if_pos hw]
  obtain ⟨v', w', hrun, h2, h3, h4⟩ := run_srow_append o.type w v q hrow y news hn hq
  unfold Oper.wp execOp
  simp only [ho, resolve, invoke, builtin, Sem.run_bind, Sem.run_pure, Result.andThen_ok, List.map_toArray, List.map_cons, List.map_nil, hs, hx, hrun]
  exact h v' w' h2 h3 h4
end Go.Proofs.Ytgabonacpoimfaa
