/-
  What comes in, opened: a slot, a slice of slots, an image.
-/
import Derived.Test.YtklmoigpalhlmaaSlPure
import Derived.ProofKit
import Derived.Deep.Slices
import Derived.Deep.Fields
import Derived.ChangeSame
import Derived.Lib.SmallJoins
import Derived.SizedLaws
namespace Go.Proofs.Ytklmoigpalhlmaa
open Go.RowKit Go.ChangeShapes Go.WideShapes Go.Deep Go.Joins
set_option linter.unusedVariables false
set_option linter.unusedSimpArgs false

section
variable {H : Type} {enc : TypeId × Value → H} {w : World} {base : Nat} {spare : Nat → Bool} {held : Bool}
theorem cells_two {P : Program} {t : TypeId} {f0 f1 : Field} {fuel : Nat} {cs : List Value} {x : DataW H × List MemPlace} (ht : P.underlying t = some (.struct #[f0, f1])) (hone : oneCellFields P #[f0, f1] = true) (hC : P.cellsOf t = 2) (h : DataW.trod enc P w base spare held fuel t cs = some x) :
    ∃ v0 v1 y0 y1 n, cs = [v0, v1] ∧ x = (.agg [y0.1, y1.1], y0.2 ++ y1.2) ∧ DataW.trod enc P w base spare held n f0.type [v0] = some y0 ∧ DataW.trod enc P w base spare held n f1.type [v1] = some y1 := by
  obtain ⟨xs, n, _, hx, hcl, hlen, hf⟩ := DataW.trod_struct ht h
  rw [hC] at hcl
  match cs, hcl with
  | [v0, v1], _ =>
    match xs, hlen with
    | [y0, y1], _ =>
      obtain ⟨o0, k0⟩ := hone_of hone 0 f0 rfl
      obtain ⟨o1, k1⟩ := hone_of hone 1 f1 rfl
      have h0 := hf 0 f0 rfl
      have h1 := hf 1 f1 rfl
      rw [o0, k0] at h0
      rw [o1, k1] at h1
      exact ⟨v0, v1, y0, y1, n, rfl, by simpa using hx, by simpa using h0, by simpa using h1⟩
theorem slot_cells {fuel : Nat} {cs : List Value} {x : DataW H × List MemPlace} (h : DataW.trod enc Try.prog w base spare held fuel 33 cs = some x) :
    ∃ (u : Bool) (s : ByteArray), cs = [.bool u, .string s] ∧ x.1 = .agg [.lit (.bool u), .lit (.string s.data.toList)] := by
  obtain ⟨v0, v1, y0, y1, n, rfl, rfl, h0, h1⟩ := cells_two Try.underlying33 (by kernel_rfl) (by kernel_rfl) h
  obtain ⟨b, hb, rfl⟩ := DataW.trod_bool Try.underlying4 h0
  obtain ⟨s, hs, rfl, _⟩ := DataW.trod_string Try.underlying9 h1
  simp at hb hs
  subst hb hs
  exact ⟨b, s, rfl, rfl⟩
theorem slot_weight {u : Bool} {l : List UInt8} : l.length ∈ (DataW.agg [.lit (.bool u), .lit (.string l)] : DataW H).weights Try.prog 33 := by
  simp [DataW.weights, Try.underlying33, DataW.weightsEach]
theorem all_weight {P : Program} {e : TypeId} {ds : List (DataW H)} {d : DataW H} (hd : d ∈ ds) {n : Nat} (hn : n ∈ d.weights P e) : n ∈ DataW.weightsAll P e ds := by
  induction ds with
  | nil => cases hd
  | cons a r ih =>
    simp only [DataW.weightsAll, List.mem_append]
    rcases List.mem_cons.1 hd with rfl | h
    · exact .inl hn
    · exact .inr (ih h)
theorem open_slots {fuel : Nat} {cs : List Value} {x : DataW H × List MemPlace} (h : DataW.trod enc Try.prog w base spare held fuel 22 cs = some x) (hw : ∀ n ∈ x.1.weights Try.prog 22, n ≤ reachBytes) :
    ∃ A n c l, cs = [.slice A n c] ∧ IsSlots w A n c l := by
  rcases open_slice Try.underlying22 h with ⟨rfl, _⟩ | ⟨a, len, cap, m, n, D, Pl, rfl, hb, hl, hm, hmm, rfl, hi⟩
  · exact ⟨none, 0, 0, [], rfl, IsSlots.nil w⟩
  · have hC : Try.prog.cellsOf 33 = 2 := by kernel_rfl
    rw [hC] at hi
    have hlm : len ≤ m := by rw [hmm]; split <;> omega
    have key : ∀ i, i < len → ∃ x : Sl, w.cell? (a.add (i * 2)) = some (.bool x.u) ∧ w.cell? (a.add (i * 2 + 1)) = some (.string x.d) ∧ x.d.size ≤ 140737488351232 := by
      intro i hil
      obtain ⟨cs', hc, ht⟩ := hi i (by omega)
      obtain ⟨u, s, rfl, hD⟩ := slot_cells ht
      obtain ⟨_, _, hat⟩ := World.cells?_some hc
      have c0 := hat 0 (by omega)
      have c1 := hat 1 (by omega)
      rw [Go.Deep.add_add] at c0 c1
      refine ⟨⟨u, s⟩, by simpa using c0, by simpa using c1, ?_⟩
      have hDi : D i ∈ (List.range len).map D := List.mem_map.2 ⟨i, List.mem_range.2 hil, rfl⟩
      have hwt : s.data.toList.length ∈ (D i).weights Try.prog 33 := by
        have hD' : D i = .agg [.lit (.bool u), .lit (.string s.data.toList)] := hD
        rw [hD']; exact slot_weight
      have := hw s.data.toList.length (by
        simp only [DataW.weights, Try.underlying22, List.mem_cons, List.mem_append]
        exact .inr (.inl (all_weight hDi hwt)))
      have e : s.data.toList.length = s.size := Array.length_toList
      unfold reachBytes at this
      show s.size ≤ _
      omega
    by_cases h0 : len = 0
    · subst h0
      exact ⟨some a, 0, cap, [], rfl, rfl, by omega, by unfold maxLen at hm; omega, by simp, by omega⟩
    · obtain ⟨x0, hx0, _, _⟩ := key 0 (by omega)
      have hsp : a.spot = none := by simpa [Addr.add] using World.cell?_spot hx0
      obtain ⟨b, off, sp⟩ := a
      simp only at hsp
      subst hsp
      have ea : ∀ j, (⟨b, off, none⟩ : Addr).add j = ⟨b, off + j, none⟩ := by intro j; unfold Addr.add; split <;> simp_all
      obtain ⟨f, hf⟩ : ∃ f : Nat → Sl, ∀ i, i < len → w.cell? ((⟨b, off, none⟩ : Addr).add (i * 2)) = some (.bool (f i).u) ∧ w.cell? ((⟨b, off, none⟩ : Addr).add (i * 2 + 1)) = some (.string (f i).d) ∧ (f i).d.size ≤ 140737488351232 := by
        refine ⟨fun i => if hi : i < len then Classical.choose (key i hi) else Sl.none, fun i hi => ?_⟩
        simp only [hi, dite_true]
        exact Classical.choose_spec (key i hi)
      refine ⟨_, len, cap, (List.range len).map f, rfl, by simp, hl, by unfold maxLen at hm; omega, ?_, fun _ => ⟨b, off, rfl, ?_, ?_⟩⟩
      · intro x hx
        obtain ⟨i, hi, rfl⟩ := List.mem_map.1 hx
        exact (hf i (List.mem_range.1 hi)).2.2
      · have := (hf 0 (by omega)).1
        exact block_lt_of_cell this
      · intro i x hx
        have hil : i < len := by have := (List.getElem?_eq_some_iff.1 hx).1; simpa using this
        have hxf : x = f i := by simp [hil] at hx; exact hx.symm
        subst hxf
        obtain ⟨h1, h2, _⟩ := hf i hil
        rw [ea] at h1 h2
        exact ⟨h1, by rw [← h2]; congr 2⟩
/-- A slot that came in. -/
theorem open_slot {r : Reach} {b0 : Nat} {v : Value} {d : DataW H} {p : List MemPlace} (hv : Value.okWide Try.prog w r b0 33 v) (h : DataW.Trod enc Try.prog w base spare held 33 v d p) (hw : ∀ n ∈ d.weights Try.prog 33, n ≤ reachBytes) :
    ∃ x : Sl, v = .agg #[.bool x.u, .string x.d] ∧ x.d.size ≤ 140737488351232 := by
  obtain ⟨v0, v1, y0, y1, n, rfl, rfl, rfl, h0, h1⟩ := open_agg2 Try.underlying33 (by kernel_rfl) (by kernel_rfl) hv h
  obtain ⟨b, hb, rfl⟩ := DataW.trod_bool Try.underlying4 h0
  obtain ⟨s, hs, rfl, _⟩ := DataW.trod_string Try.underlying9 h1
  simp at hb hs
  subst hb hs
  refine ⟨⟨b, s⟩, rfl, ?_⟩
  have := hw _ (slot_weight (u := b) (l := s.data.toList))
  have e : s.data.toList.length = s.size := Array.length_toList
  unfold reachBytes at this
  show s.size ≤ _
  omega
/-- An image that came in. -/
theorem open_page {r : Reach} {b0 : Nat} {v : Value} {d : DataW H} {p : List MemPlace} (hv : Value.okWide Try.prog w r b0 24 v) (h : DataW.Trod enc Try.prog w base spare held 24 v d p) (hw : ∀ n ∈ d.weights Try.prog 24, n ≤ reachBytes) :
    ∃ lsn A n c l, v = .agg #[.int .i64 lsn, .slice A n c] ∧ IsSlots w A n c l ∧ (Lit.int .i64 lsn).wf = true := by
  obtain ⟨v0, v1, y0, y1, n, rfl, rfl, rfl, h0, h1⟩ := open_agg2 Try.underlying24 (by kernel_rfl) (by kernel_rfl) hv h
  obtain ⟨k, hk, rfl, hwf⟩ := DataW.trod_int Try.underlying3 h0
  simp at hk
  subst hk
  obtain ⟨A, n', c, l, hc, I⟩ := open_slots h1 (by
    intro m hm
    refine hw m ?_
    simp only [DataW.weights, Try.underlying24, DataW.weightsEach, List.map_cons, List.mem_append]
    right; left; exact hm)
  simp at hc
  subst hc
  exact ⟨k, A, n', c, l, rfl, I, hwf⟩
end
end Go.Proofs.Ytklmoigpalhlmaa
