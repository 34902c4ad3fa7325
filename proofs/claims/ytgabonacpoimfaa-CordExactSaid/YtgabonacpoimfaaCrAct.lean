/-
  A call of layer 12's statements, opened.
-/
import Derived.Test.YtgabonacpoimfaaCrTake
namespace Go.Proofs.Ytgabonacpoimfaa
open Go.RowKit Go.ChangeShapes Go.WideShapes Go.Deep Go.Joins
set_option linter.unusedVariables false
set_option linter.unusedSimpArgs false
structure CAct where
  kind : Int
  tx : ByteArray
  g : Gr
def CAct.val (x : CAct) : Value := .agg #[.int .i64 x.kind, .string x.tx, .agg #[.int .i64 x.g.cl, .bool x.g.up, .int .i64 x.g.ep, .int .i64 x.g.sq, .int .i64 x.g.ak, .string x.g.bd]]
def CAct.row (x : CAct) : Array Value := #[.int .i64 x.kind, .string x.tx, .int .i64 x.g.cl, .bool x.g.up, .int .i64 x.g.ep, .int .i64 x.g.sq, .int .i64 x.g.ak, .string x.g.bd]
theorem CAct.row_size (x : CAct) : x.row.size = 8 := rfl
def CAct.dat {H : Type} (x : CAct) : DataW H := .agg [.lit (.int .i64 x.kind), .lit (.string x.tx.data.toList), x.g.dat]
def CAct.ok (x : CAct) : Prop := (Lit.int .i64 x.kind).wf = true ∧ x.tx.size ≤ 140737488351232 ∧ x.g.ok
section
variable {H : Type} {enc : TypeId × Value → H} {w : World} {base : Nat} {spare : Nat → Bool} {held : Bool}
theorem CAct_parts {P : Program} {t : TypeId} {f0 f1 f2 : Field} {fuel : Nat} {cs : List Value} {x : DataW H × List MemPlace} (ht : P.underlying t = some (.struct #[f0, f1, f2])) (hof : [f0, f1, f2].map (fun f => (f.offset, P.cellsOf f.type)) = [(0, 1), (1, 1), (2, 6)]) (hC : P.cellsOf t = 8) (h : DataW.trod enc P w base spare held fuel t cs = some x) :
    ∃ c0 c1 c2 c3 c4 c5 c6 c7 y0 y1 y2 n, cs = [c0, c1, c2, c3, c4, c5, c6, c7] ∧ x.1 = .agg [y0.1, y1.1, y2.1] ∧ DataW.trod enc P w base spare held n f0.type [c0] = some y0 ∧ DataW.trod enc P w base spare held n f1.type [c1] = some y1 ∧ DataW.trod enc P w base spare held n f2.type [c2, c3, c4, c5, c6, c7] = some y2 := by
  obtain ⟨xs, n, _, hx, hcl, hlen, hf⟩ := DataW.trod_struct ht h
  rw [hC] at hcl
  simp only [List.map_cons, List.map_nil, List.cons.injEq, Prod.mk.injEq, and_true] at hof
  obtain ⟨⟨o0, k0⟩, ⟨o1, k1⟩, ⟨o2, k2⟩⟩ := hof
  match cs, hcl with
  | [c0, c1, c2, c3, c4, c5, c6, c7], _ =>
    match xs, hlen with
    | [y0, y1, y2], _ =>
      have h0 := hf 0 f0 rfl
      rw [o0, k0] at h0
      simp only [List.drop_succ_cons, List.drop_zero, List.take_succ_cons, List.take_zero] at h0
      have h1 := hf 1 f1 rfl
      rw [o1, k1] at h1
      simp only [List.drop_succ_cons, List.drop_zero, List.take_succ_cons, List.take_zero] at h1
      have h2 := hf 2 f2 rfl
      rw [o2, k2] at h2
      simp only [List.drop_succ_cons, List.drop_zero, List.take_succ_cons, List.take_zero] at h2
      exact ⟨c0, c1, c2, c3, c4, c5, c6, c7, y0, y1, y2, n, rfl, by rw [hx]; rfl, h0, h1, h2⟩
theorem CAct_cells {fuel : Nat} {cs : List Value} {x : DataW H × List MemPlace} (h : DataW.trod enc Try.prog w base spare held fuel 31 cs = some x) (hw : ∀ n ∈ x.1.weights Try.prog 31, n ≤ reachBytes) : ∃ e : CAct, cs = e.row.toList ∧ x.1 = e.dat ∧ e.ok := by
  obtain ⟨c0, c1, c2, c3, c4, c5, c6, c7, y0, y1, y2, n, rfl, hx, h0, h1, h2⟩ := CAct_parts Try.underlying31 (by kernel_rfl) (by kernel_rfl) h
  rw [hx] at hw
  simp only [DataW.weights, Try.underlying31, DataW.weightsEach, List.map_cons, List.map_nil, List.toList_toArray, List.mem_append] at hw
  obtain ⟨a0, q0, e0, wf0⟩ := DataW.trod_int Try.underlying3 h0
  obtain ⟨a1, q1, e1, _⟩ := DataW.trod_string Try.underlying9 h1
  have z1 : a1.size ≤ 140737488351232 := by
    have := hw a1.data.toList.length (.inr (.inl (by rw [e1]; simp [DataW.weights])))
    have e1 : a1.data.toList.length = a1.size := Array.length_toList
    unfold reachBytes at this
    omega
  obtain ⟨a2, q2, e2, g2⟩ := Gr_cells h2 (fun m hm => hw m (.inr (.inr (.inl hm))))
  simp only [List.cons.injEq, and_true] at q0
  subst q0
  simp only [List.cons.injEq, and_true] at q1
  subst q1
  simp only [Gr.row, List.cons.injEq, and_true] at q2
  obtain ⟨rfl, rfl, rfl, rfl, rfl, rfl⟩ := q2
  refine ⟨⟨a0, a1, a2⟩, rfl, ?_, wf0, z1, g2⟩
  rw [hx, e0, e1, e2]; rfl
end
theorem open_cacts {H : Type} {enc : TypeId × Value → H} {w : World} {base : Nat} {spare : Nat → Bool} {held : Bool} {r : Reach} {b0 : Nat} {v : Value} {d : DataW H} {p : List MemPlace} (hv : Value.okWide Try.prog w r b0 22 v) (h : DataW.Trod enc Try.prog w base spare held 22 v d p) (hw : ∀ n ∈ d.weights Try.prog 22, n ≤ reachBytes) :
    ∃ A n c l, v = .slice A n c ∧ IsRow 8 CAct.row CAct.ok w A n c l :=
  open_rowArg Try.underlying22 (by kernel_rfl) CAct.row_size (by omega) (fun f cs y h hw => by obtain ⟨e, h1, _, h3⟩ := CAct_cells h hw; exact ⟨e, h1, h3⟩) hv h hw
/-- The cells of a call. -/
structure ActIn (w : World) (b o : Nat) (x : CAct) : Prop where
  k : w.cell? ⟨b, o, none⟩ = some (.int .i64 x.kind)
  t : w.cell? ⟨b, o + 1, none⟩ = some (.string x.tx)
  g : GrIn w b (o + 2) x.g
theorem ActIn.of {w : World} {b o : Nat} {x : CAct} (h : ∀ (j : Nat) v, x.row[j]? = some v → w.cell? ⟨b, o + j, none⟩ = some v) : ActIn w b o x :=
  ⟨h 0 _ rfl, h 1 _ rfl, ⟨h 2 _ rfl, h 3 _ rfl, h 4 _ rfl, h 5 _ rfl, h 6 _ rfl, h 7 _ rfl⟩⟩
theorem ActIn.below {w w' : World} {b o : Nat} {x : CAct} (h : ActIn w b o x) (hb : Below w.heap.size w w') : ActIn w' b o x :=
  have hlt : b < w.heap.size := block_lt_of_cell h.k
  ⟨(hb.cell (p := ⟨b, o, none⟩) hlt).trans h.k, (hb.cell (p := ⟨b, o + 1, none⟩) hlt).trans h.t, h.g.below hlt hb⟩
theorem acts_at {w : World} {A : Option Addr} {n c : Nat} {l : List CAct} (h : IsRow 8 CAct.row CAct.ok w A n c l) {i : Nat} (hi : i < n) : ∃ b off x, A = some ⟨b, off, none⟩ ∧ l[i]? = some x ∧ x.ok ∧ ActIn w b (off + i * 8) x := by
  obtain ⟨b, off, x, e, _, hx, hok, hc⟩ := h.here hi
  exact ⟨b, off, x, e, hx, hok, ActIn.of hc⟩
end Go.Proofs.Ytgabonacpoimfaa
