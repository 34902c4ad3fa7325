/-
  What comes in, opened: an entry.
-/
import Derived.Test.YtpgeiopknjfdmaaEntZero
import Derived.ProofKit
import Derived.Deep.Slices
import Derived.Deep.Fields
import Derived.ChangeSame
import Derived.Lib.SmallJoins
import Derived.SizedLaws
namespace Go.Proofs.Ytpgeiopknjfdmaa
open Go.RowKit Go.ChangeShapes Go.WideShapes Go.Deep Go.Joins
set_option linter.unusedVariables false
set_option linter.unusedSimpArgs false

section
variable {H : Type} {enc : TypeId × Value → H} {w : World} {base : Nat} {spare : Nat → Bool} {held : Bool}
theorem ent_two {P : Program} {t : TypeId} {f0 f1 : Field} {fuel : Nat} {cs : List Value} {x : DataW H × List MemPlace} (ht : P.underlying t = some (.struct #[f0, f1])) (hone : oneCellFields P #[f0, f1] = true) (hC : P.cellsOf t = 2) (h : DataW.trod enc P w base spare held fuel t cs = some x) :
    ∃ v0 v1 y0 y1 n, cs = [v0, v1] ∧ x = (.agg [y0.1, y1.1], y0.2 ++ y1.2) ∧ DataW.trod enc P w base spare held n f0.type [v0] = some y0 ∧ DataW.trod enc P w base spare held n f1.type [v1] = some y1 := by
  obtain ⟨xs, n, _, hx, hcl, hlen, hf⟩ := DataW.trod_struct ht h
  rw [hC] at hcl
  match cs, hcl with
  | [v0, v1], _ =>
    match xs, hlen with
    | [y0, y1], _ =>
      obtain ⟨o0, k0⟩ := hone_of hone 0 f0 rfl
      obtain ⟨o1, k1⟩ := hone_of hone 1 f1 rfl
      have h0 := hf 0 f0 rfl
      have h1 := hf 1 f1 rfl
      rw [o0, k0] at h0
      rw [o1, k1] at h1
      exact ⟨v0, v1, y0, y1, n, rfl, by simpa using hx, by simpa using h0, by simpa using h1⟩
theorem ent_slot {fuel : Nat} {cs : List Value} {x : DataW H × List MemPlace} (h : DataW.trod enc Try.prog w base spare held fuel 28 cs = some x) :
    ∃ (u : Bool) (s : ByteArray), cs = [.bool u, .string s] ∧ x.1 = .agg [.lit (.bool u), .lit (.string s.data.toList)] := by
  obtain ⟨v0, v1, y0, y1, n, rfl, rfl, h0, h1⟩ := ent_two Try.underlying28 (by kernel_rfl) (by kernel_rfl) h
  obtain ⟨b, hb, rfl⟩ := DataW.trod_bool Try.underlying4 h0
  obtain ⟨s, hs, rfl, _⟩ := DataW.trod_string Try.underlying9 h1
  simp at hb hs
  subst hb hs
  exact ⟨b, s, rfl, rfl⟩
theorem ent_three {P : Program} {t : TypeId} {f0 f1 f2 : Field} {fuel : Nat} {cs : List Value} {x : DataW H × List MemPlace} (ht : P.underlying t = some (.struct #[f0, f1, f2])) (hone : oneCellFields P #[f0, f1, f2] = true) (hC : P.cellsOf t = 3) (h : DataW.trod enc P w base spare held fuel t cs = some x) :
    ∃ v0 v1 v2 y0 y1 y2 n, cs = [v0, v1, v2] ∧ x.1 = .agg [y0.1, y1.1, y2.1] ∧ DataW.trod enc P w base spare held n f0.type [v0] = some y0 ∧ DataW.trod enc P w base spare held n f1.type [v1] = some y1 ∧ DataW.trod enc P w base spare held n f2.type [v2] = some y2 := by
  obtain ⟨xs, n, _, hx, hcl, hlen, hf⟩ := DataW.trod_struct ht h
  rw [hC] at hcl
  match cs, hcl with
  | [v0, v1, v2], _ =>
    match xs, hlen with
    | [y0, y1, y2], _ =>
      obtain ⟨o0, k0⟩ := hone_of hone 0 f0 rfl
      obtain ⟨o1, k1⟩ := hone_of hone 1 f1 rfl
      obtain ⟨o2, k2⟩ := hone_of hone 2 f2 rfl
      have h0 := hf 0 f0 rfl
      have h1 := hf 1 f1 rfl
      have h2 := hf 2 f2 rfl
      rw [o0, k0] at h0
      rw [o1, k1] at h1
      rw [o2, k2] at h2
      exact ⟨v0, v1, v2, y0, y1, y2, n, rfl, by rw [hx]; rfl, by simpa using h0, by simpa using h1, by simpa using h2⟩
theorem ent_txn {fuel : Nat} {cs : List Value} {x : DataW H × List MemPlace} (h : DataW.trod enc Try.prog w base spare held fuel 26 cs = some x) :
    ∃ a b c : Int, cs = [.int .i64 a, .int .i64 b, .int .i64 c] ∧ x.1 = .agg [.lit (.int .i64 a), .lit (.int .i64 b), .lit (.int .i64 c)] := by
  obtain ⟨v0, v1, v2, y0, y1, y2, n, rfl, hx, h0, h1, h2⟩ := ent_three Try.underlying26 (by kernel_rfl) (by kernel_rfl) h
  obtain ⟨a, ha, ea, _⟩ := DataW.trod_int Try.underlying3 h0
  obtain ⟨b, hb, eb, _⟩ := DataW.trod_int Try.underlying3 h1
  obtain ⟨c, hc, ec, _⟩ := DataW.trod_int Try.underlying3 h2
  simp at ha hb hc
  subst ha hb hc ea eb ec
  exact ⟨a, b, c, rfl, hx⟩
theorem ent_nine {P : Program} {t : TypeId} {f0 f1 f2 f3 f4 f5 f6 f7 f8 : Field} {fuel : Nat} {cs : List Value} {x : DataW H × List MemPlace} (ht : P.underlying t = some (.struct #[f0, f1, f2, f3, f4, f5, f6, f7, f8])) (hof : [f0, f1, f2, f3, f4, f5, f6, f7, f8].map (fun f => (f.offset, P.cellsOf f.type)) = [(0, 1), (1, 3), (4, 1), (5, 1), (6, 1), (7, 1), (8, 2), (10, 2), (12, 1)]) (hC : P.cellsOf t = 13) (h : DataW.trod enc P w base spare held fuel t cs = some x) :
    ∃ c0 c1 c2 c3 c4 c5 c6 c7 c8 c9 c10 c11 c12 y0 y1 y2 y3 y4 y5 y6 y7 y8 n, cs = [c0, c1, c2, c3, c4, c5, c6, c7, c8, c9, c10, c11, c12] ∧ x.1 = .agg [y0.1, y1.1, y2.1, y3.1, y4.1, y5.1, y6.1, y7.1, y8.1] ∧
      DataW.trod enc P w base spare held n f0.type [c0] = some y0 ∧ DataW.trod enc P w base spare held n f1.type [c1, c2, c3] = some y1 ∧ DataW.trod enc P w base spare held n f2.type [c4] = some y2 ∧ DataW.trod enc P w base spare held n f3.type [c5] = some y3 ∧ DataW.trod enc P w base spare held n f4.type [c6] = some y4 ∧
      DataW.trod enc P w base spare held n f5.type [c7] = some y5 ∧ DataW.trod enc P w base spare held n f6.type [c8, c9] = some y6 ∧ DataW.trod enc P w base spare held n f7.type [c10, c11] = some y7 ∧ DataW.trod enc P w base spare held n f8.type [c12] = some y8 := by
  obtain ⟨xs, n, _, hx, hcl, hlen, hf⟩ := DataW.trod_struct ht h
  rw [hC] at hcl
  simp only [List.map_cons, List.map_nil, List.cons.injEq, Prod.mk.injEq, and_true] at hof
  obtain ⟨⟨o0, k0⟩, ⟨o1, k1⟩, ⟨o2, k2⟩, ⟨o3, k3⟩, ⟨o4, k4⟩, ⟨o5, k5⟩, ⟨o6, k6⟩, ⟨o7, k7⟩, ⟨o8, k8⟩⟩ := hof
  match cs, hcl with
  | [c0, c1, c2, c3, c4, c5, c6, c7, c8, c9, c10, c11, c12], _ =>
    match xs, hlen with
    | [y0, y1, y2, y3, y4, y5, y6, y7, y8], _ =>
      have h0 := hf 0 f0 rfl
      rw [o0, k0] at h0
      simp only [List.drop_succ_cons, List.drop_zero, List.take_succ_cons, List.take_zero] at h0
      have h1 := hf 1 f1 rfl
      rw [o1, k1] at h1
      simp only [List.drop_succ_cons, List.drop_zero, List.take_succ_cons, List.take_zero] at h1
      have h2 := hf 2 f2 rfl
      rw [o2, k2] at h2
      simp only [List.drop_succ_cons, List.drop_zero, List.take_succ_cons, List.take_zero] at h2
      have h3 := hf 3 f3 rfl
      rw [o3, k3] at h3
      simp only [List.drop_succ_cons, List.drop_zero, List.take_succ_cons, List.take_zero] at h3
      have h4 := hf 4 f4 rfl
      rw [o4, k4] at h4
      simp only [List.drop_succ_cons, List.drop_zero, List.take_succ_cons, List.take_zero] at h4
      have h5 := hf 5 f5 rfl
      rw [o5, k5] at h5
      simp only [List.drop_succ_cons, List.drop_zero, List.take_succ_cons, List.take_zero] at h5
      have h6 := hf 6 f6 rfl
      rw [o6, k6] at h6
      simp only [List.drop_succ_cons, List.drop_zero, List.take_succ_cons, List.take_zero] at h6
      have h7 := hf 7 f7 rfl
      rw [o7, k7] at h7
      simp only [List.drop_succ_cons, List.drop_zero, List.take_succ_cons, List.take_zero] at h7
      have h8 := hf 8 f8 rfl
      rw [o8, k8] at h8
      simp only [List.drop_succ_cons, List.drop_zero, List.take_succ_cons, List.take_zero] at h8
      exact ⟨c0, c1, c2, c3, c4, c5, c6, c7, c8, c9, c10, c11, c12, y0, y1, y2, y3, y4, y5, y6, y7, y8, n, rfl, by rw [hx]; rfl, h0, h1, h2, h3, h4, h5, h6, h7, h8⟩
theorem ent_cells {fuel : Nat} {cs : List Value} {x : DataW H × List MemPlace} (h : DataW.trod enc Try.prog w base spare held fuel 30 cs = some x) :
    ∃ e : Ent, cs = e.row.toList ∧ x.1 = .agg [.lit (.int .i64 e.kind), .agg [.lit (.int .i64 e.cl), .lit (.int .i64 e.ep), .lit (.int .i64 e.n)], .lit (.int .i64 e.lsn), .lit (.int .i64 e.prev), .lit (.int .i64 e.page), .lit (.int .i64 e.slot), .agg [.lit (.bool e.wu), .lit (.string e.wd.data.toList)], .agg [.lit (.bool e.iu), .lit (.string e.ix.data.toList)], .lit (.int .i64 e.next)] := by
  obtain ⟨c0, c1, c2, c3, c4, c5, c6, c7, c8, c9, c10, c11, c12, y0, y1, y2, y3, y4, y5, y6, y7, y8, n, rfl, hx, h0, h1, h2, h3, h4, h5, h6, h7, h8⟩ := ent_nine Try.underlying30 (by kernel_rfl) (by kernel_rfl) h
  obtain ⟨k, q0, e0, _⟩ := DataW.trod_int Try.underlying3 h0
  obtain ⟨a, b, c, q1, e1⟩ := ent_txn h1
  obtain ⟨l, q2, e2, _⟩ := DataW.trod_int Try.underlying3 h2
  obtain ⟨p, q3, e3, _⟩ := DataW.trod_int Try.underlying3 h3
  obtain ⟨pg, q4, e4, _⟩ := DataW.trod_int Try.underlying3 h4
  obtain ⟨sl, q5, e5, _⟩ := DataW.trod_int Try.underlying3 h5
  obtain ⟨wu, wd, q6, e6⟩ := ent_slot h6
  obtain ⟨iu, ix, q7, e7⟩ := ent_slot h7
  obtain ⟨nx, q8, e8, _⟩ := DataW.trod_int Try.underlying3 h8
  simp at q0 q1 q2 q3 q4 q5 q6 q7 q8
  obtain ⟨rfl, rfl, rfl⟩ := q1
  obtain ⟨rfl, rfl⟩ := q6
  obtain ⟨rfl, rfl⟩ := q7
  subst q0 q2 q3 q4 q5 q8 e0 e2 e3 e4 e5 e8
  refine ⟨⟨k, a, b, c, l, p, pg, sl, wu, wd, iu, ix, nx⟩, rfl, ?_⟩
  rw [hx, e1, e6, e7]
theorem ent_weights {e : Ent} {d : DataW H} (hd : d = .agg [.lit (.int .i64 e.kind), .agg [.lit (.int .i64 e.cl), .lit (.int .i64 e.ep), .lit (.int .i64 e.n)], .lit (.int .i64 e.lsn), .lit (.int .i64 e.prev), .lit (.int .i64 e.page), .lit (.int .i64 e.slot), .agg [.lit (.bool e.wu), .lit (.string e.wd.data.toList)], .agg [.lit (.bool e.iu), .lit (.string e.ix.data.toList)], .lit (.int .i64 e.next)]) :
    e.wd.data.toList.length ∈ d.weights Try.prog 30 ∧ e.ix.data.toList.length ∈ d.weights Try.prog 30 := by
  subst hd
  simp [DataW.weights, Try.underlying30, Try.underlying28, Try.underlying26, DataW.weightsEach]
theorem ent_sizes {e : Ent} {d : DataW H} (hd : d = .agg [.lit (.int .i64 e.kind), .agg [.lit (.int .i64 e.cl), .lit (.int .i64 e.ep), .lit (.int .i64 e.n)], .lit (.int .i64 e.lsn), .lit (.int .i64 e.prev), .lit (.int .i64 e.page), .lit (.int .i64 e.slot), .agg [.lit (.bool e.wu), .lit (.string e.wd.data.toList)], .agg [.lit (.bool e.iu), .lit (.string e.ix.data.toList)], .lit (.int .i64 e.next)])
    (hw : ∀ n ∈ d.weights Try.prog 30, n ≤ reachBytes) : e.wd.size ≤ 140737488351232 ∧ e.ix.size ≤ 140737488351232 := by
  obtain ⟨a, b⟩ := ent_weights hd
  have a' := hw _ a
  have b' := hw _ b
  have e1 : e.wd.data.toList.length = e.wd.size := Array.length_toList
  have e2 : e.ix.data.toList.length = e.ix.size := Array.length_toList
  unfold reachBytes at a' b'
  omega
/-- An entry that came in. -/
theorem open_entry {r : Reach} {b0 : Nat} {v : Value} {d : DataW H} {p : List MemPlace} (hv : Value.okWide Try.prog w r b0 30 v) (h : DataW.Trod enc Try.prog w base spare held 30 v d p) (hw : ∀ n ∈ d.weights Try.prog 30, n ≤ reachBytes) :
    ∃ x : Ent, v = x.val ∧ x.wd.size ≤ 140737488351232 ∧ x.ix.size ≤ 140737488351232 := by
  obtain ⟨cs, rfl, hsz⟩ := okWide_struct Try.underlying30 hv
  obtain ⟨fuel, hf⟩ := h
  obtain ⟨e, he, hd⟩ := ent_cells hf
  have he' : cs.toList = e.row.toList := he
  have e1 := ent_sizes hd hw
  refine ⟨e, ?_, e1⟩
  unfold Ent.val
  congr 1
  exact Array.toList_inj.1 he'
end
end Go.Proofs.Ytpgeiopknjfdmaa
