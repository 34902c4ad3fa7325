/-
  An event of layer 12's statements, opened.
-/
import Derived.Test.YtgabonacpoimfaaTkOk
namespace Go.Proofs.Ytgabonacpoimfaa
open Go.RowKit Go.ChangeShapes Go.WideShapes Go.Deep Go.Joins
set_option linter.unusedVariables false
set_option linter.unusedSimpArgs false
structure Ev where
  kind : Int
  n : Int
  tx : ByteArray
def Ev.val (x : Ev) : Value := .agg #[.int .i64 x.kind, .int .i64 x.n, .string x.tx]
def Ev.row (x : Ev) : Array Value := #[.int .i64 x.kind, .int .i64 x.n, .string x.tx]
theorem Ev.row_size (x : Ev) : x.row.size = 3 := rfl
def Ev.dat {H : Type} (x : Ev) : DataW H := .agg [.lit (.int .i64 x.kind), .lit (.int .i64 x.n), .lit (.string x.tx.data.toList)]
def Ev.ok (x : Ev) : Prop := (Lit.int .i64 x.kind).wf = true ∧ (Lit.int .i64 x.n).wf = true ∧ x.tx.size ≤ 140737488351232
section
variable {H : Type} {enc : TypeId × Value → H} {w : World} {base : Nat} {spare : Nat → Bool} {held : Bool}
theorem Ev_parts {P : Program} {t : TypeId} {f0 f1 f2 : Field} {fuel : Nat} {cs : List Value} {x : DataW H × List MemPlace} (ht : P.underlying t = some (.struct #[f0, f1, f2])) (hof : [f0, f1, f2].map (fun f => (f.offset, P.cellsOf f.type)) = [(0, 1), (1, 1), (2, 1)]) (hC : P.cellsOf t = 3) (h : DataW.trod enc P w base spare held fuel t cs = some x) :
    ∃ c0 c1 c2 y0 y1 y2 n, cs = [c0, c1, c2] ∧ x.1 = .agg [y0.1, y1.1, y2.1] ∧ DataW.trod enc P w base spare held n f0.type [c0] = some y0 ∧ DataW.trod enc P w base spare held n f1.type [c1] = some y1 ∧ DataW.trod enc P w base spare held n f2.type [c2] = some y2 := by
  obtain ⟨xs, n, _, hx, hcl, hlen, hf⟩ := DataW.trod_struct ht h
  rw [hC] at hcl
  simp only [List.map_cons, List.map_nil, List.cons.injEq, Prod.mk.injEq, and_true] at hof
  obtain ⟨⟨o0, k0⟩, ⟨o1, k1⟩, ⟨o2, k2⟩⟩ := hof
  match cs, hcl with
  | [c0, c1, c2], _ =>
    match xs, hlen with
    | [y0, y1, y2], _ =>
      have h0 := hf 0 f0 rfl
      rw [o0, k0] at h0
      simp only [List.drop_succ_cons, List.drop_zero, List.take_succ_cons, List.take_zero] at h0
      have h1 := hf 1 f1 rfl
      rw [o1, k1] at h1
      simp only [List.drop_succ_cons, List.drop_zero, List.take_succ_cons, List.take_zero] at h1
      have h2 := hf 2 f2 rfl
      rw [o2, k2] at h2
      simp only [List.drop_succ_cons, List.drop_zero, List.take_succ_cons, List.take_zero] at h2
      exact ⟨c0, c1, c2, y0, y1, y2, n, rfl, by rw [hx]; rfl, h0, h1, h2⟩
theorem Ev_cells {fuel : Nat} {cs : List Value} {x : DataW H × List MemPlace} (h : DataW.trod enc Try.prog w base spare held fuel 49 cs = some x) (hw : ∀ n ∈ x.1.weights Try.prog 49, n ≤ reachBytes) : ∃ e : Ev, cs = e.row.toList ∧ x.1 = e.dat ∧ e.ok := by
  obtain ⟨c0, c1, c2, y0, y1, y2, n, rfl, hx, h0, h1, h2⟩ := Ev_parts Try.underlying49 (by kernel_rfl) (by kernel_rfl) h
  rw [hx] at hw
  simp only [DataW.weights, Try.underlying49, DataW.weightsEach, List.map_cons, List.map_nil, List.toList_toArray, List.mem_append] at hw
  obtain ⟨a0, q0, e0, wf0⟩ := DataW.trod_int Try.underlying3 h0
  obtain ⟨a1, q1, e1, wf1⟩ := DataW.trod_int Try.underlying3 h1
  obtain ⟨a2, q2, e2, _⟩ := DataW.trod_string Try.underlying9 h2
  simp only [List.cons.injEq, and_true] at q0
  subst q0
  simp only [List.cons.injEq, and_true] at q1
  subst q1
  simp only [List.cons.injEq, and_true] at q2
  subst q2
  have g2 : a2.size ≤ 140737488351232 := by
    have := hw a2.data.toList.length (.inr (.inr (.inl (by rw [e2]; simp [DataW.weights]))))
    have e1 : a2.data.toList.length = a2.size := Array.length_toList
    unfold reachBytes at this
    omega
  refine ⟨⟨a0, a1, a2⟩, rfl, ?_, wf0, wf1, g2⟩
  rw [hx, e0, e1, e2]; rfl
end
theorem open_evs {H : Type} {enc : TypeId × Value → H} {w : World} {base : Nat} {spare : Nat → Bool} {held : Bool} {r : Reach} {b0 : Nat} {v : Value} {d : DataW H} {p : List MemPlace} (hv : Value.okWide Try.prog w r b0 46 v) (h : DataW.Trod enc Try.prog w base spare held 46 v d p) (hw : ∀ n ∈ d.weights Try.prog 46, n ≤ reachBytes) :
    ∃ A n c l, v = .slice A n c ∧ IsRow 3 Ev.row Ev.ok w A n c l :=
  open_rowArg Try.underlying46 (by kernel_rfl) Ev.row_size (by omega) (fun f cs y h hw => by obtain ⟨e, h1, _, h3⟩ := Ev_cells h hw; exact ⟨e, h1, h3⟩) hv h hw
/-- The cells of an event. -/
structure EvIn (w : World) (b o : Nat) (x : Ev) : Prop where
  k : w.cell? ⟨b, o, none⟩ = some (.int .i64 x.kind)
  n : w.cell? ⟨b, o + 1, none⟩ = some (.int .i64 x.n)
  t : w.cell? ⟨b, o + 2, none⟩ = some (.string x.tx)
theorem EvIn.of {w : World} {b o : Nat} {x : Ev} (h : ∀ (j : Nat) v, x.row[j]? = some v → w.cell? ⟨b, o + j, none⟩ = some v) : EvIn w b o x := ⟨h 0 _ rfl, h 1 _ rfl, h 2 _ rfl⟩
theorem EvIn.below {w w' : World} {b o : Nat} {x : Ev} (h : EvIn w b o x) (hb : Below w.heap.size w w') : EvIn w' b o x :=
  have hlt : b < w.heap.size := block_lt_of_cell h.k
  ⟨(hb.cell (p := ⟨b, o, none⟩) hlt).trans h.k, (hb.cell (p := ⟨b, o + 1, none⟩) hlt).trans h.n, (hb.cell (p := ⟨b, o + 2, none⟩) hlt).trans h.t⟩
theorem evs_at {w : World} {A : Option Addr} {n c : Nat} {l : List Ev} (h : IsRow 3 Ev.row Ev.ok w A n c l) {i : Nat} (hi : i < n) : ∃ b off x, A = some ⟨b, off, none⟩ ∧ l[i]? = some x ∧ x.ok ∧ EvIn w b (off + i * 3) x := by
  obtain ⟨b, off, x, e, _, hx, hok, hc⟩ := h.here hi
  exact ⟨b, off, x, e, hx, hok, EvIn.of hc⟩
theorem modm_form (x : Int) (m : Nat) (h0 : 0 < m) (hm : m ≤ 100000) : ∃ a : Nat, a < m ∧ wrap64 ((IntKind.u64.wrap x).tmod (m : Int)) = a := by
  have h0' : 0 ≤ IntKind.u64.wrap x := by rw [IntKind.wrap_u64]; omega
  rw [Int.tmod_eq_emod_of_nonneg h0']
  have h1 := Int.emod_lt_of_pos (IntKind.u64.wrap x) (show (0 : Int) < m by omega)
  have h2 := Int.emod_nonneg (IntKind.u64.wrap x) (show (m : Int) ≠ 0 by omega)
  refine ⟨((IntKind.u64.wrap x) % m).toNat, by omega, ?_⟩
  rw [IntWalk.wrap64_in _ ⟨by omega, by omega⟩]
  omega
theorem modm_plain (x : Int) (m : Nat) (h0 : 0 < m) (hm : m ≤ 100000) : ∃ a : Nat, a < m ∧ (IntKind.u64.wrap x).tmod (m : Int) = a ∧ IntKind.u64.wrap (m : Int) = m ∧ IntKind.u64.wrap (a : Int) = a ∧ IntKind.i64.wrap (a : Int) = a ∧ wrap64 (a : Int) = a := by
  have h0' : 0 ≤ IntKind.u64.wrap x := by rw [IntKind.wrap_u64]; omega
  have h1 := Int.emod_lt_of_pos (IntKind.u64.wrap x) (show (0 : Int) < m by omega)
  have h2 := Int.emod_nonneg (IntKind.u64.wrap x) (show (m : Int) ≠ 0 by omega)
  refine ⟨((IntKind.u64.wrap x) % m).toNat, by omega, ?_, ?_, ?_, ?_, ?_⟩
  · rw [Int.tmod_eq_emod_of_nonneg h0']; omega
  · rw [IntKind.wrap_u64]; omega
  · rw [IntKind.wrap_u64]; omega
  · rw [IntWalk.i64_in _ (by omega)]
  · rw [IntWalk.wrap64_in _ ⟨by omega, by omega⟩]
end Go.Proofs.Ytgabonacpoimfaa
