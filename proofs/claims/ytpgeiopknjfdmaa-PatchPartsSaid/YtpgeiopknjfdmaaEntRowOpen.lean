/-
  A slice of entries that came in; entries gathered in a slice.
-/
import Derived.Test.YtpgeiopknjfdmaaEntOpen
import Derived.Test.YtpgeiopknjfdmaaGrow
namespace Go.Proofs.Ytpgeiopknjfdmaa
open Go.RowKit Go.ChangeShapes Go.WideShapes Go.Deep Go.Joins
set_option linter.unusedVariables false
set_option linter.unusedSimpArgs false

/-- A slice of entries: nil, or a row of them. -/
structure IsEnts (w : World) (A : Option Addr) (n c : Nat) (l : List Ent) : Prop where
  len : l.length = n
  cap : n ≤ c
  most : c ≤ 9223372036854775807
  small : ∀ x ∈ l, x.wd.size ≤ 140737488351232 ∧ x.ix.size ≤ 140737488351232
  row : 0 < n → ∃ b off, A = some ⟨b, off, none⟩ ∧ b < w.heap.size ∧ ∀ i x, l[i]? = some x → ∀ (j : Nat) v, x.row[j]? = some v → w.cell? ⟨b, off + i * 13 + j, none⟩ = some v
theorem IsEnts.nil (w : World) : IsEnts w Option.none 0 0 [] := ⟨rfl, by omega, by omega, by simp, by omega⟩
theorem IsEnts.below {w w' : World} {A : Option Addr} {n c : Nat} {l : List Ent} (h : IsEnts w A n c l) (hb : Below w.heap.size w w') : IsEnts w' A n c l := by
  refine ⟨h.len, h.cap, h.most, h.small, fun hn => ?_⟩
  obtain ⟨b, off, hA, hlt, hc⟩ := h.row hn
  exact ⟨b, off, hA, Nat.lt_of_lt_of_le hlt hb.size, fun i x hx j v hv => (hb.cell (p := ⟨b, off + i * 13 + j, none⟩) hlt).trans (hc i x hx j v hv)⟩
theorem IsEnts.drew {w : World} {A : Option Addr} {n c : Nat} {l : List Ent} (h : IsEnts w A n c l) : IsEnts w.drew A n c l := h.below ((Below.refl _ w).drew)
/-- The cells of an entry from a place on. -/
structure EntIn (w : World) (b o : Nat) (k c e n l p pg sl : Int) (wu : Bool) (wd : ByteArray) (iu : Bool) (ix : ByteArray) (nx : Int) : Prop where
  a0 : w.cell? ⟨b, o, none⟩ = some (.int .i64 k)
  a1 : w.cell? ⟨b, o + 1, none⟩ = some (.int .i64 c)
  a2 : w.cell? ⟨b, o + 2, none⟩ = some (.int .i64 e)
  a3 : w.cell? ⟨b, o + 3, none⟩ = some (.int .i64 n)
  a4 : w.cell? ⟨b, o + 4, none⟩ = some (.int .i64 l)
  a5 : w.cell? ⟨b, o + 5, none⟩ = some (.int .i64 p)
  a6 : w.cell? ⟨b, o + 6, none⟩ = some (.int .i64 pg)
  a7 : w.cell? ⟨b, o + 7, none⟩ = some (.int .i64 sl)
  a8 : w.cell? ⟨b, o + 8, none⟩ = some (.bool wu)
  a9 : w.cell? ⟨b, o + 9, none⟩ = some (.string wd)
  a10 : w.cell? ⟨b, o + 10, none⟩ = some (.bool iu)
  a11 : w.cell? ⟨b, o + 11, none⟩ = some (.string ix)
  a12 : w.cell? ⟨b, o + 12, none⟩ = some (.int .i64 nx)
theorem EntIn.of {w : World} {b o : Nat} {k c e n l p pg sl : Int} {wu : Bool} {wd : ByteArray} {iu : Bool} {ix : ByteArray} {nx : Int}
    (h : ∀ (j : Nat) v, (Ent.row ⟨k, c, e, n, l, p, pg, sl, wu, wd, iu, ix, nx⟩)[j]? = some v → w.cell? ⟨b, o + j, none⟩ = some v) : EntIn w b o k c e n l p pg sl wu wd iu ix nx :=
  ⟨h 0 _ rfl, h 1 _ rfl, h 2 _ rfl, h 3 _ rfl, h 4 _ rfl, h 5 _ rfl, h 6 _ rfl, h 7 _ rfl, h 8 _ rfl, h 9 _ rfl, h 10 _ rfl, h 11 _ rfl, h 12 _ rfl⟩
theorem IsEnts.at {w : World} {A : Option Addr} {n c : Nat} {l : List Ent} (h : IsEnts w A n c l) {i : Nat} {x : Ent} (hx : l[i]? = some x) :
    ∃ b off, A = some ⟨b, off, none⟩ ∧ EntIn w b (off + i * 13) x.kind x.cl x.ep x.n x.lsn x.prev x.page x.slot x.wu x.wd x.iu x.ix x.next := by
  have hi : i < l.length := (List.getElem?_eq_some_iff.1 hx).1
  obtain ⟨b, off, hA, _, hc⟩ := h.row (by have := h.len; omega)
  exact ⟨b, off, hA, EntIn.of (fun j v hv => hc i x hx j v hv)⟩
theorem IsEnts.here {w : World} {A : Option Addr} {n c : Nat} {l : List Ent} (h : IsEnts w A n c l) {i : Nat} {x : Ent} (hx : l[i]? = some x) :
    ∃ b off, A = some ⟨b, off, none⟩ ∧ b < w.heap.size ∧ EntIn w b (off + i * 13) x.kind x.cl x.ep x.n x.lsn x.prev x.page x.slot x.wu x.wd x.iu x.ix x.next := by
  have hi : i < l.length := (List.getElem?_eq_some_iff.1 hx).1
  obtain ⟨b, off, hA, hl, hc⟩ := h.row (by have := h.len; omega)
  exact ⟨b, off, hA, hl, EntIn.of (fun j v hv => hc i x hx j v hv)⟩
theorem EntIn.below {w w' : World} {b o : Nat} {k c e n l p pg sl : Int} {wu : Bool} {wd : ByteArray} {iu : Bool} {ix : ByteArray} {nx : Int} (h : EntIn w b o k c e n l p pg sl wu wd iu ix nx) (hlt : b < w.heap.size) (hb : Below w.heap.size w w') : EntIn w' b o k c e n l p pg sl wu wd iu ix nx := by
  have g : ∀ i, w'.cell? ⟨b, i, none⟩ = w.cell? ⟨b, i, none⟩ := fun i => hb.cell (p := ⟨b, i, none⟩) hlt
  exact ⟨(g _).trans h.a0, (g _).trans h.a1, (g _).trans h.a2, (g _).trans h.a3, (g _).trans h.a4, (g _).trans h.a5, (g _).trans h.a6, (g _).trans h.a7, (g _).trans h.a8, (g _).trans h.a9, (g _).trans h.a10, (g _).trans h.a11, (g _).trans h.a12⟩
section
variable {H : Type} {enc : TypeId × Value → H} {w : World} {base : Nat} {spare : Nat → Bool} {held : Bool}
theorem ent_all_weight {P : Program} {e : TypeId} {ds : List (DataW H)} {d : DataW H} (hd : d ∈ ds) {n : Nat} (hn : n ∈ d.weights P e) : n ∈ DataW.weightsAll P e ds := by
  induction ds with
  | nil => cases hd
  | cons a r ih =>
    simp only [DataW.weightsAll, List.mem_append]
    rcases List.mem_cons.1 hd with rfl | h
    · exact .inl hn
    · exact .inr (ih h)
theorem open_ents {fuel : Nat} {cs : List Value} {x : DataW H × List MemPlace} (h : DataW.trod enc Try.prog w base spare held fuel 34 cs = some x) (hw : ∀ n ∈ x.1.weights Try.prog 34, n ≤ reachBytes) :
    ∃ A n c l, cs = [.slice A n c] ∧ IsEnts w A n c l := by
  rcases open_slice Try.underlying34 h with ⟨rfl, _⟩ | ⟨a, len, cap, m, n, D, Pl, rfl, hb, hl, hm, hmm, rfl, hi⟩
  · exact ⟨none, 0, 0, [], rfl, IsEnts.nil w⟩
  · have hC : Try.prog.cellsOf 30 = 13 := by kernel_rfl
    rw [hC] at hi
    have hlm : len ≤ m := by rw [hmm]; split <;> omega
    have key : ∀ i, i < len → ∃ x : Ent, (∀ (j : Nat) v, x.row[j]? = some v → w.cell? (a.add (i * 13 + j)) = some v) ∧ x.wd.size ≤ 140737488351232 ∧ x.ix.size ≤ 140737488351232 := by
      intro i hil
      obtain ⟨cs', hc, ht⟩ := hi i (by omega)
      obtain ⟨e, rfl, hD⟩ := ent_cells ht
      obtain ⟨_, _, hat⟩ := World.cells?_some hc
      have hD' : D i = .agg [.lit (.int .i64 e.kind), .agg [.lit (.int .i64 e.cl), .lit (.int .i64 e.ep), .lit (.int .i64 e.n)], .lit (.int .i64 e.lsn), .lit (.int .i64 e.prev), .lit (.int .i64 e.page), .lit (.int .i64 e.slot), .agg [.lit (.bool e.wu), .lit (.string e.wd.data.toList)], .agg [.lit (.bool e.iu), .lit (.string e.ix.data.toList)], .lit (.int .i64 e.next)] := hD
      have hDi : D i ∈ (List.range len).map D := List.mem_map.2 ⟨i, List.mem_range.2 hil, rfl⟩
      refine ⟨e, ?_, ent_sizes hD' ?_⟩
      · intro j v hv
        have hj : j < 13 := (Array.getElem?_eq_some_iff.1 hv).1
        have c0 := hat j hj
        rw [Go.Deep.add_add] at c0
        rw [c0]
        simpa using hv
      · intro k hk
        exact hw k (by
          simp only [DataW.weights, Try.underlying34, List.mem_cons, List.mem_append]
          exact .inr (.inl (ent_all_weight hDi hk)))
    by_cases h0 : len = 0
    · subst h0
      exact ⟨some a, 0, cap, [], rfl, rfl, by omega, by unfold maxLen at hm; omega, by simp, by omega⟩
    · obtain ⟨x0, hx0, _⟩ := key 0 (by omega)
      have hx00 := hx0 0 _ rfl
      have hsp : a.spot = none := by simpa [Addr.add] using World.cell?_spot hx00
      obtain ⟨b, off, sp⟩ := a
      simp only at hsp
      subst hsp
      have ea : ∀ j, (⟨b, off, none⟩ : Addr).add j = ⟨b, off + j, none⟩ := by intro j; unfold Addr.add; split <;> simp_all
      obtain ⟨f, hf⟩ : ∃ f : Nat → Ent, ∀ i, i < len → (∀ (j : Nat) v, (f i).row[j]? = some v → w.cell? ((⟨b, off, none⟩ : Addr).add (i * 13 + j)) = some v) ∧ (f i).wd.size ≤ 140737488351232 ∧ (f i).ix.size ≤ 140737488351232 := by
        refine ⟨fun i => if hi : i < len then Classical.choose (key i hi) else Ent.zero, fun i hi => ?_⟩
        simp only [hi, dite_true]
        exact Classical.choose_spec (key i hi)
      refine ⟨_, len, cap, (List.range len).map f, rfl, by simp, hl, by unfold maxLen at hm; omega, ?_, fun _ => ⟨b, off, rfl, ?_, ?_⟩⟩
      · intro x hx
        obtain ⟨i, hi, rfl⟩ := List.mem_map.1 hx
        exact (hf i (List.mem_range.1 hi)).2
      · exact block_lt_of_cell hx00
      · intro i x hx j v hv
        have hil : i < len := by have := (List.getElem?_eq_some_iff.1 hx).1; simpa using this
        have hxf : x = f i := by simp [hil] at hx; exact hx.symm
        subst hxf
        have h1 := (hf i hil).1 j v hv
        rw [ea] at h1
        rw [← h1]; congr 2; omega
/-- A slice of entries that came in. -/
theorem open_entries {r : Reach} {b0 : Nat} {v : Value} {d : DataW H} {p : List MemPlace} (hv : Value.okWide Try.prog w r b0 34 v) (h : DataW.Trod enc Try.prog w base spare held 34 v d p) (hw : ∀ n ∈ d.weights Try.prog 34, n ≤ reachBytes) :
    ∃ A n c l, v = .slice A n c ∧ IsEnts w A n c l := by
  obtain ⟨a, len, cap, rfl⟩ := okWide_slice Try.underlying34 hv
  obtain ⟨fuel, hf⟩ := h
  obtain ⟨A, n, c, l, hc, I⟩ := open_ents hf hw
  simp [Value.cells] at hc
  obtain ⟨rfl, rfl, rfl⟩ := hc
  exact ⟨_, _, _, l, rfl, I⟩
end
/-- The cells of entries. -/
def flatE (l : List Ent) : List Value := l.flatMap fun x => x.row.toList
theorem flatE_append (a b : List Ent) : flatE (a ++ b) = flatE a ++ flatE b := by simp [flatE]
theorem row_len (x : Ent) : x.row.toList.length = 13 := rfl
theorem flatE_len (l : List Ent) : (flatE l).length = l.length * 13 := by
  induction l with
  | nil => rfl
  | cons a l ih =>
    show (a.row.toList ++ flatE l).length = _
    rw [List.length_append, row_len, ih, List.length_cons]; omega
theorem flatE_get : ∀ (l : List Ent) (i : Nat) (x : Ent), l[i]? = some x → ∀ (j : Nat) v, x.row[j]? = some v → (flatE l)[i * 13 + j]? = some v
  | [], i, x, h => by simp at h
  | a :: l, 0, x, h => by
    intro j v hv
    simp at h
    subst h
    have hj : j < 13 := (Array.getElem?_eq_some_iff.1 hv).1
    show (a.row.toList ++ flatE l)[0 * 13 + j]? = _
    rw [List.getElem?_append_left (by rw [row_len]; omega), show 0 * 13 + j = j by omega]
    simpa using hv
  | a :: l, i + 1, x, h => by
    intro j v hv
    have h2 := flatE_get l i x (by simpa using h) j v hv
    show (a.row.toList ++ flatE l)[(i + 1) * 13 + j]? = _
    rw [List.getElem?_append_right (by rw [row_len]; omega), row_len, show (i + 1) * 13 + j - 13 = i * 13 + j by omega]
    exact h2
theorem entElem : Elem Try.prog 34 30 13 120 Ent.zero.val := ⟨Try.underlying34, by kernel_rfl, rfl, by omega⟩
def RowE (base : Nat) (w : World) (v : Value) (q : List Ent) : Prop := w.ownsRow base 30 13 v q.length (flatE q)
theorem RowE.at {base : Nat} {w : World} {g n cap : Nat} {q : List Ent} (h : RowE base w (.slice (some ⟨g, 0, none⟩) n cap) q) (hn : n = q.length) {i : Nat} {x : Ent} (hx : q[i]? = some x) :
    EntIn w g (i * 13) x.kind x.cl x.ep x.n x.lsn x.prev x.page x.slot x.wu x.wd x.iu x.ix x.next := by
  subst hn
  have hi : i < q.length := (List.getElem?_eq_some_iff.1 hx).1
  refine EntIn.of (fun j v hv => ?_)
  have hj : j < 13 := (Array.getElem?_eq_some_iff.1 hv).1
  rw [World.ownsRow.cellAt h (i * 13 + j) (by omega)]
  exact flatE_get q i x hx j v hv
theorem RowE.empty (base : Nat) (w : World) (hb : base ≤ w.heap.size) : RowE base (w.alloc (.cells #[] 30)) (.slice (some ⟨w.heap.size, 0, none⟩) 0 0) [] := by
  have := World.ownsRow_lit (base := base) (e := 30) (size := 13) w #[] 0 hb (by unfold maxLen; omega) rfl
  exact this
end Go.Proofs.Ytpgeiopknjfdmaa
