/-
  A message that came in.
-/
import Derived.Test.YtakdagmkkelnfaaNoL
namespace Go.Proofs.Ytakdagmkkelnfaa
open Go.RowKit Go.ChangeShapes Go.WideShapes Go.Deep Go.Joins
set_option linter.unusedVariables false
set_option linter.unusedSimpArgs false

section
variable {H : Type} {enc : TypeId × Value → H} {w : World} {base : Nat} {spare : Nat → Bool} {held : Bool}
theorem msg_eight {P : Program} {t : TypeId} {f0 f1 f2 f3 f4 f5 f6 f7 : Field} {fuel : Nat} {cs : List Value} {x : DataW H × List MemPlace} (ht : P.underlying t = some (.struct #[f0, f1, f2, f3, f4, f5, f6, f7])) (hof : [f0, f1, f2, f3, f4, f5, f6, f7].map (fun f => (f.offset, P.cellsOf f.type)) = [(0, 1), (1, 1), (2, 1), (3, 1), (4, 1), (5, 3), (8, 2), (10, 1)]) (hC : P.cellsOf t = 11) (h : DataW.trod enc P w base spare held fuel t cs = some x) :
    ∃ c0 c1 c2 c3 c4 c5 c6 c7 c8 c9 c10 y0 y1 y2 y3 y4 y5 y6 y7 n, cs = [c0, c1, c2, c3, c4, c5, c6, c7, c8, c9, c10] ∧ x.1 = .agg [y0.1, y1.1, y2.1, y3.1, y4.1, y5.1, y6.1, y7.1] ∧ DataW.trod enc P w base spare held n f0.type [c0] = some y0 ∧ DataW.trod enc P w base spare held n f1.type [c1] = some y1 ∧ DataW.trod enc P w base spare held n f2.type [c2] = some y2 ∧ DataW.trod enc P w base spare held n f3.type [c3] = some y3 ∧ DataW.trod enc P w base spare held n f4.type [c4] = some y4 ∧ DataW.trod enc P w base spare held n f5.type [c5, c6, c7] = some y5 ∧ DataW.trod enc P w base spare held n f6.type [c8, c9] = some y6 ∧ DataW.trod enc P w base spare held n f7.type [c10] = some y7 := by
  obtain ⟨xs, n, _, hx, hcl, hlen, hf⟩ := DataW.trod_struct ht h
  rw [hC] at hcl
  simp only [List.map_cons, List.map_nil, List.cons.injEq, Prod.mk.injEq, and_true] at hof
  obtain ⟨⟨o0, k0⟩, ⟨o1, k1⟩, ⟨o2, k2⟩, ⟨o3, k3⟩, ⟨o4, k4⟩, ⟨o5, k5⟩, ⟨o6, k6⟩, ⟨o7, k7⟩⟩ := hof
  match cs, hcl with
  | [c0, c1, c2, c3, c4, c5, c6, c7, c8, c9, c10], _ =>
    match xs, hlen with
    | [y0, y1, y2, y3, y4, y5, y6, y7], _ =>
      have h0 := hf 0 f0 rfl
      rw [o0, k0] at h0
      simp only [List.drop_succ_cons, List.drop_zero, List.take_succ_cons, List.take_zero] at h0
      have h1 := hf 1 f1 rfl
      rw [o1, k1] at h1
      simp only [List.drop_succ_cons, List.drop_zero, List.take_succ_cons, List.take_zero] at h1
      have h2 := hf 2 f2 rfl
      rw [o2, k2] at h2
      simp only [List.drop_succ_cons, List.drop_zero, List.take_succ_cons, List.take_zero] at h2
      have h3 := hf 3 f3 rfl
      rw [o3, k3] at h3
      simp only [List.drop_succ_cons, List.drop_zero, List.take_succ_cons, List.take_zero] at h3
      have h4 := hf 4 f4 rfl
      rw [o4, k4] at h4
      simp only [List.drop_succ_cons, List.drop_zero, List.take_succ_cons, List.take_zero] at h4
      have h5 := hf 5 f5 rfl
      rw [o5, k5] at h5
      simp only [List.drop_succ_cons, List.drop_zero, List.take_succ_cons, List.take_zero] at h5
      have h6 := hf 6 f6 rfl
      rw [o6, k6] at h6
      simp only [List.drop_succ_cons, List.drop_zero, List.take_succ_cons, List.take_zero] at h6
      have h7 := hf 7 f7 rfl
      rw [o7, k7] at h7
      simp only [List.drop_succ_cons, List.drop_zero, List.take_succ_cons, List.take_zero] at h7
      exact ⟨c0, c1, c2, c3, c4, c5, c6, c7, c8, c9, c10, y0, y1, y2, y3, y4, y5, y6, y7, n, rfl, by rw [hx]; rfl, h0, h1, h2, h3, h4, h5, h6, h7⟩
theorem msg_page {fuel : Nat} {cs : List Value} {x : DataW H × List MemPlace} (h : DataW.trod enc Try.prog w base spare held fuel 29 cs = some x) (hw : ∀ n ∈ x.1.weights Try.prog 29, n ≤ reachBytes) :
    ∃ lsn A n c l, cs = [.int .i64 lsn, .slice A n c] ∧ IsSlots w A n c l := by
  obtain ⟨v0, v1, y0, y1, n, rfl, rfl, h0, h1⟩ := cells_two Try.underlying29 (by kernel_rfl) (by kernel_rfl) h
  obtain ⟨k, hk, rfl, hwf⟩ := DataW.trod_int Try.underlying3 h0
  simp at hk
  subst hk
  obtain ⟨A, n', c, l, hc, I⟩ := open_slots h1 (by
    intro m hm
    refine hw m ?_
    simp only [DataW.weights, Try.underlying29, DataW.weightsEach, List.map_cons, List.mem_append]
    right; left; exact hm)
  simp at hc
  subst hc
  exact ⟨k, A, n', c, l, rfl, I⟩
set_option maxRecDepth 100000 in
theorem open_msg {r : Reach} {b0 : Nat} {v : Value} {d : DataW H} {p : List MemPlace} (hv : Value.okWide Try.prog w r b0 32 v) (h : DataW.Trod enc Try.prog w base spare held 32 v d p) (hw : ∀ n ∈ d.weights Try.prog 32, n ≤ reachBytes) :
    ∃ (m : Ms) (A : Option Addr) (n c : Nat) (B : Option Addr) (k d : Nat), v = .agg (m.row A n c B k d) ∧ IsSlots w A n c m.sl ∧ IsEnts w B k d m.en := by
  obtain ⟨cs, rfl, hsz⟩ := okWide_struct Try.underlying32 hv
  obtain ⟨fuel, hf⟩ := h
  obtain ⟨c0, c1, c2, c3, c4, c5, c6, c7, c8, c9, c10, y0, y1, y2, y3, y4, y5, y6, y7, n, hcs, hx, h0, h1, h2, h3, h4, h5, h6, h7⟩ := msg_eight Try.underlying32 (by kernel_rfl) (by kernel_rfl) hf
  simp only at hx
  subst hx
  obtain ⟨k, q0, e0, _⟩ := DataW.trod_int Try.underlying3 h0
  obtain ⟨pg, q1, e1, _⟩ := DataW.trod_int Try.underlying3 h1
  obtain ⟨x, q2, e2⟩ := DataW.trod_bool Try.underlying4 h2
  obtain ⟨nd, q3, e3⟩ := DataW.trod_bool Try.underlying4 h3
  obtain ⟨nn, q4, e4, _⟩ := DataW.trod_int Try.underlying3 h4
  obtain ⟨a, b, c, q5, e5⟩ := ent_txn h5
  obtain ⟨lsn, A, sn, sc, sl, q6, I6⟩ := msg_page h6 (by
    intro m hm
    refine hw m ?_
    simp only [DataW.weights, Try.underlying32, DataW.weightsEach, List.map_cons, List.mem_append]
    right; right; right; right; right; right; left; exact hm)
  obtain ⟨B, en, ec, el, q7, I7⟩ := open_ents h7 (by
    intro m hm
    refine hw m ?_
    simp only [DataW.weights, Try.underlying32, DataW.weightsEach, List.map_cons, List.mem_append]
    right; right; right; right; right; right; right; left; exact hm)
  simp at q0 q1 q2 q3 q4 q5 q6 q7
  obtain ⟨rfl, rfl, rfl⟩ := q5
  obtain ⟨rfl, rfl⟩ := q6
  subst q0 q1 q2 q3 q4 q7
  refine ⟨⟨k, pg, x, nd, nn, a, b, c, lsn, sl, el⟩, A, sn, sc, B, en, ec, ?_, I6, I7⟩
  congr 1
  exact Array.toList_inj.1 (show cs.toList = (Ms.row ⟨k, pg, x, nd, nn, a, b, c, lsn, sl, el⟩ A sn sc B en ec).toList from hcs)
end
end Go.Proofs.Ytakdagmkkelnfaa
