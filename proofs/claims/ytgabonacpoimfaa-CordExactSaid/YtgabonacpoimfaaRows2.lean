/-
  Slices of structs that came in, whatever the structs are.
-/
import Derived.Test.YtgabonacpoimfaaMem
import Derived.ProofKit
import Derived.Deep.Slices
import Derived.Deep.Fields
import Derived.ChangeSame
import Derived.Lib.SmallJoins
import Derived.SizedLaws
namespace Go.Proofs.Ytgabonacpoimfaa
open Go.RowKit Go.ChangeShapes Go.WideShapes Go.Deep Go.Joins
set_option linter.unusedVariables false
set_option linter.unusedSimpArgs false

/-- A slice of structs in memory, nil let in: how many cells one takes, what these are, what is known of each. -/
structure IsRow {α : Type} (sz : Nat) (row : α → Array Value) (ok : α → Prop) (w : World) (A : Option Addr) (n c : Nat) (l : List α) : Prop where
  len : l.length = n
  cap : n ≤ c
  most : c ≤ 9223372036854775807
  good : ∀ x ∈ l, ok x
  row : 0 < n → ∃ b off, A = some ⟨b, off, none⟩ ∧ b < w.heap.size ∧ ∀ i x, l[i]? = some x → ∀ (j : Nat) v, (row x)[j]? = some v → w.cell? ⟨b, off + i * sz + j, none⟩ = some v
section
variable {α : Type} {sz : Nat} {row : α → Array Value} {ok : α → Prop}
theorem IsRow.nil (w : World) : IsRow sz row ok w Option.none 0 0 [] := ⟨rfl, by omega, by omega, by simp, by omega⟩
theorem IsRow.below {w w' : World} {A : Option Addr} {n c : Nat} {l : List α} (h : IsRow sz row ok w A n c l) (hb : Below w.heap.size w w') : IsRow sz row ok w' A n c l := by
  refine ⟨h.len, h.cap, h.most, h.good, fun hn => ?_⟩
  obtain ⟨b, off, hA, hlt, hc⟩ := h.row hn
  exact ⟨b, off, hA, Nat.lt_of_lt_of_le hlt hb.size, fun i x hx j v hv => (hb.cell (p := ⟨b, off + i * sz + j, none⟩) hlt).trans (hc i x hx j v hv)⟩
theorem IsRow.drew {w : World} {A : Option Addr} {n c : Nat} {l : List α} (h : IsRow sz row ok w A n c l) : IsRow sz row ok w.drew A n c l := h.below ((Below.refl _ w).drew)
theorem IsRow.alloc {w : World} {A : Option Addr} {n c : Nat} {l : List α} (h : IsRow sz row ok w A n c l) (o : Obj) : IsRow sz row ok (w.alloc o) A n c l := h.below (bnew w o)
theorem IsRow.here {w : World} {A : Option Addr} {n c : Nat} {l : List α} (h : IsRow sz row ok w A n c l) {i : Nat} (hi : i < n) :
    ∃ b off x, A = some ⟨b, off, none⟩ ∧ b < w.heap.size ∧ l[i]? = some x ∧ ok x ∧ ∀ (j : Nat) v, (row x)[j]? = some v → w.cell? ⟨b, off + i * sz + j, none⟩ = some v := by
  obtain ⟨b, off, hA, hl, hc⟩ := h.row (by omega)
  have hil : i < l.length := by have := h.len; omega
  have hx : l[i]? = some l[i] := List.getElem?_eq_getElem hil
  exact ⟨b, off, l[i], hA, hl, hx, h.good _ (List.getElem_mem hil), fun j v hv => hc i _ hx j v hv⟩
variable {H : Type} {enc : TypeId × Value → H} {w : World} {base : Nat} {spare : Nat → Bool} {held : Bool}
theorem row_weight {P : Program} {e : TypeId} {ds : List (DataW H)} {d : DataW H} (hd : d ∈ ds) {n : Nat} (hn : n ∈ d.weights P e) : n ∈ DataW.weightsAll P e ds := by
  induction ds with
  | nil => cases hd
  | cons a r ih =>
    simp only [DataW.weightsAll, List.mem_append]
    rcases List.mem_cons.1 hd with rfl | h
    · exact .inl hn
    · exact .inr (ih h)
theorem open_rows {P : Program} {T e : TypeId} (hu : P.underlying T = some (.slice e)) (hC : P.cellsOf e = sz) (hrow : ∀ x, (row x).size = sz) (hpos : 0 < sz)
    (hcell : ∀ (fuel : Nat) (cs : List Value) (y : DataW H × List MemPlace), DataW.trod enc P w base spare held fuel e cs = some y → (∀ n ∈ y.1.weights P e, n ≤ reachBytes) → ∃ x : α, cs = (row x).toList ∧ ok x)
    {fuel : Nat} {cs : List Value} {x : DataW H × List MemPlace} (h : DataW.trod enc P w base spare held fuel T cs = some x) (hw : ∀ n ∈ x.1.weights P T, n ≤ reachBytes) :
    ∃ A n c l, cs = [.slice A n c] ∧ IsRow sz row ok w A n c l := by
  rcases open_slice hu h with ⟨rfl, _⟩ | ⟨a, len, cap, m, n, D, Pl, rfl, hb, hl, hm, hmm, rfl, hi⟩
  · exact ⟨none, 0, 0, [], rfl, IsRow.nil w⟩
  · rw [hC] at hi
    have hlm : len ≤ m := by rw [hmm]; split <;> omega
    have key : ∀ i, i < len → ∃ x : α, (∀ (j : Nat) v, (row x)[j]? = some v → w.cell? (a.add (i * sz + j)) = some v) ∧ ok x := by
      intro i hil
      obtain ⟨cs', hc, ht⟩ := hi i (by omega)
      obtain ⟨e', rfl, hk⟩ := hcell _ _ _ ht (by
        intro k hk
        refine hw k ?_
        have hDi : D i ∈ (List.range len).map D := List.mem_map.2 ⟨i, List.mem_range.2 hil, rfl⟩
        simp only [DataW.weights, hu, List.mem_cons, List.mem_append]
        exact .inr (.inl (row_weight hDi hk)))
      obtain ⟨_, _, hat⟩ := World.cells?_some hc
      refine ⟨e', ?_, hk⟩
      intro j v hv
      have hj : j < sz := by rw [← hrow e']; exact (Array.getElem?_eq_some_iff.1 hv).1
      have c0 := hat j hj
      rw [Go.Deep.add_add] at c0
      rw [c0]
      simpa using hv
    by_cases h0 : len = 0
    · subst h0
      exact ⟨some a, 0, cap, [], rfl, rfl, by omega, by unfold maxLen at hm; omega, by simp, by omega⟩
    · obtain ⟨x0, hx0, _⟩ := key 0 (by omega)
      have hx00 := hx0 0 _ (Array.getElem?_eq_getElem (by rw [hrow]; exact hpos))
      have hsp : a.spot = none := by
        have := World.cell?_spot hx00
        simpa [Addr.add] using this
      obtain ⟨b, off, sp⟩ := a
      simp only at hsp
      subst hsp
      have ea : ∀ j, (⟨b, off, none⟩ : Addr).add j = ⟨b, off + j, none⟩ := by intro j; unfold Addr.add; split <;> simp_all
      obtain ⟨f, hf⟩ : ∃ f : Nat → α, ∀ i, i < len → (∀ (j : Nat) v, (row (f i))[j]? = some v → w.cell? ((⟨b, off, none⟩ : Addr).add (i * sz + j)) = some v) ∧ ok (f i) := by
        refine ⟨fun i => if hi : i < len then Classical.choose (key i hi) else x0, fun i hi => ?_⟩
        simp only [hi, dite_true]
        exact Classical.choose_spec (key i hi)
      refine ⟨_, len, cap, (List.range len).map f, rfl, by simp, hl, by unfold maxLen at hm; omega, ?_, fun _ => ⟨b, off, rfl, ?_, ?_⟩⟩
      · intro x hx
        obtain ⟨i, hi, rfl⟩ := List.mem_map.1 hx
        exact (hf i (List.mem_range.1 hi)).2
      · rw [ea] at hx00
        exact block_lt_of_cell hx00
      · intro i x hx j v hv
        have hil : i < len := by have := (List.getElem?_eq_some_iff.1 hx).1; simpa using this
        have hxf : x = f i := by simp [hil] at hx; exact hx.symm
        subst hxf
        have h1 := (hf i hil).1 j v hv
        rw [ea] at h1
        rw [← h1]; congr 2; omega
/-- A slice of structs that came in as an argument. -/
theorem open_rowArg {P : Program} {T e : TypeId} (hu : P.underlying T = some (.slice e)) (hC : P.cellsOf e = sz) (hrow : ∀ x, (row x).size = sz) (hpos : 0 < sz)
    (hcell : ∀ (fuel : Nat) (cs : List Value) (y : DataW H × List MemPlace), DataW.trod enc P w base spare held fuel e cs = some y → (∀ n ∈ y.1.weights P e, n ≤ reachBytes) → ∃ x : α, cs = (row x).toList ∧ ok x)
    {r : Reach} {b0 : Nat} {v : Value} {d : DataW H} {p : List MemPlace} (hv : Value.okWide P w r b0 T v) (h : DataW.Trod enc P w base spare held T v d p) (hw : ∀ n ∈ d.weights P T, n ≤ reachBytes) :
    ∃ A n c l, v = .slice A n c ∧ IsRow sz row ok w A n c l := by
  obtain ⟨a, len, cap, rfl⟩ := okWide_slice hu hv
  obtain ⟨fuel, hf⟩ := h
  obtain ⟨A, n, c, l, hc, I⟩ := open_rows hu hC hrow hpos hcell hf hw
  simp [Value.cells] at hc
  obtain ⟨rfl, rfl, rfl⟩ := hc
  exact ⟨_, _, _, l, rfl, I⟩
end
end Go.Proofs.Ytgabonacpoimfaa
