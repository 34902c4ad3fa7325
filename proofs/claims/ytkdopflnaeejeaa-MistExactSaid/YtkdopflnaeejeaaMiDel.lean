/-
  One datagram taken out of a row.
-/
import Derived.Test.YtkdopflnaeejeaaMiPut
import Derived.Test.YtkdopflnaeejeaaSlide
namespace Go.Proofs.Ytkdopflnaeejeaa
open Go.RowKit
set_option linter.unusedVariables false
set_option linter.unusedSimpArgs false

theorem gramZero (w : World) : (zeroValue 27).run Try.prog w = .ok Gr.none.val w := by kernel_rfl
theorem gramOne : ∀ u ∈ Gr.none.val.cells.toList, u.oneCell' = true := by
  intro u hu
  simp [Gr.val, Value.cells] at hu
  rcases hu with rfl | rfl | rfl | rfl | rfl | rfl <;> rfl
theorem But.undrew {g : Nat} {w w' : World} (h : But g w.drew w') : But g w w' := ⟨h.os, h.tape, h.output, h.size, h.block⟩
theorem flatG_erase (q : List Gr) (i : Nat) : flatG (q.eraseIdx i) = flatG (q.take i) ++ flatG (q.drop (i + 1)) := by
  rw [List.eraseIdx_eq_take_drop_succ, flatG_append]
theorem cells_left {q : List Gr} {cur : List Value} {i cap : Nat} (hi : i < q.length) (hle : q.length ≤ cap) (hcs : cur.length = cap * 6) (ht : cur.take (q.length * 6) = flatG q) :
    (cur.take (i * 6) ++ flatG (q.drop (i + 1)) ++ cur.drop (i * 6 + (flatG (q.drop (i + 1))).length)).length = cap * 6 ∧
    (cur.take (i * 6) ++ flatG (q.drop (i + 1)) ++ cur.drop (i * 6 + (flatG (q.drop (i + 1))).length)).take ((q.length - 1) * 6) = flatG (q.eraseIdx i) := by
  have hl : (flatG (q.drop (i + 1))).length = (q.length - (i + 1)) * 6 := by rw [flatG_len, List.length_drop]
  have h0 : (cur.take (i * 6)).length = i * 6 := by rw [List.length_take]; omega
  have e1 : cur.take (i * 6) = flatG (q.take i) := by
    rw [flatG_take, ← ht, List.take_take, Nat.min_eq_left (by omega)]
  refine ⟨?_, ?_⟩
  · rw [List.length_append, List.length_append, h0, hl, List.length_drop]; omega
  · rw [List.take_left' (by rw [List.length_append, h0, hl]; omega), flatG_erase, e1]
theorem cells_clear {cur : List Value} {Z : List Value} {m cap : Nat} (hZ : Z.length = 6) (hm : m + 1 ≤ cap) (hcs : cur.length = cap * 6) :
    (cur.take (m * 6) ++ Z ++ cur.drop (m * 6 + 1 * 6)).length = cap * 6 ∧ (cur.take (m * 6) ++ Z ++ cur.drop (m * 6 + 1 * 6)).take (m * 6) = cur.take (m * 6) := by
  have h0 : (cur.take (m * 6)).length = m * 6 := by rw [List.length_take]; omega
  refine ⟨?_, ?_⟩
  · rw [List.length_append, List.length_append, h0, hZ, List.length_drop]; omega
  · rw [List.append_assoc, List.take_left' h0]
set_option maxRecDepth 100000 in
set_option maxHeartbeats 2000000 in
theorem delete_any (g cap i : Nat) (q : List Gr) (w : World) (h : RowG 0 w (.slice (some ⟨g, 0, none⟩) q.length cap) q) (hi : i < q.length) :
    Calls Try.prog 33 #[.slice (some ⟨g, 0, none⟩) q.length cap, .int .i64 (i : Int), .int .i64 ((i : Int) + 1)] w fun e w' => e = .returned (.slice (some ⟨g, 0, none⟩) (q.eraseIdx i).length cap) ∧ RowG 0 w' (.slice (some ⟨g, 0, none⟩) (q.eraseIdx i).length cap) (q.eraseIdx i) ∧ But g w w' := by
  obtain ⟨n, hn⟩ : ∃ n, q.length = n := ⟨_, rfl⟩
  obtain ⟨g', cap', cur, e, _, _, hg, hle, hcap, hcs, ht⟩ := ownsRow_at h (by omega)
  cases e
  have hel : (q.eraseIdx i).length = n - 1 := by rw [List.length_eraseIdx_of_lt hi, hn]
  rw [hel]
  obtain ⟨hc1, hc2⟩ := cells_left hi hle (by simpa using hcs) ht
  have hNL : (flatG (q.drop (i + 1))).length = (n - (i + 1)) * 6 := by rw [flatG_len, List.length_drop, hn]
  have hN1 := flatG_one (q.drop (i + 1))
  obtain ⟨A, hA, hcells⟩ : ∃ A : Addr, (if cap = i + 1 then some (⟨g, 0, none⟩ : Addr) else some ⟨g, (i + 1) * 6, none⟩) = some A ∧ Hid (∀ j u, (flatG (q.drop (i + 1)))[j]? = some u → w.drew.cell? (A.add j) = some u) := by
    by_cases hx : cap = i + 1
    · refine ⟨_, if_pos hx, Lib.hid (fun j u hu => ?_)⟩
      have : (flatG (q.drop (i + 1))) = [] := List.eq_nil_of_length_eq_zero (by rw [hNL]; omega)
      rw [this] at hu; simp at hu
    · refine ⟨_, if_neg hx, Lib.hid (fun j u hu => ?_)⟩
      have hj : j < (n - (i + 1)) * 6 := by rw [← hNL]; exact (List.getElem?_eq_some_iff.1 hu).1
      rw [Addr.add_lit]
      have := World.ownsRow.cellAt h ((i + 1) * 6 + j) (by omega)
      show w.cell? ⟨g, (i + 1) * 6 + j, none⟩ = _
      rw [this, ← hu, flatG_drop, List.getElem?_drop]
  have HG := Lib.hid (show Has w.drew g (.cells cur 27) from hg)
  have HNL := Lib.hid hNL
  have HN1 := Lib.hid hN1
  have HC1 := Lib.hid hc1
  have HC2 := Lib.hid hc2
  have HCS := Lib.hid hcs
  have hin : i < n := by omega
  have hnc : n ≤ cap := by omega
  have hcm : cap ≤ 9223372036854775807 := hcap
  have Hn := Lib.hid hn
  rw [hn]
  clear hg hNL hN1 hc1 hc2 hcs h ht hel hi hle hcap hn
  have hb : ((i : Int) == (i : Int) + 1) = false := by simp; omega
  have hwr : IntKind.i64.wrap ((i : Int) + 1) = (i : Int) + 1 := by rw [IntKind.wrap_i64]; omega
  have hp0 : (0 : Int) ≤ (i : Int) + 1 := by omega
  have hp1 : (i : Int) + 1 ≤ (n : Int) := by omega
  have hp2 : ((i : Int) + 1).toNat = i + 1 := by omega
  go_enter Try.func33, Try.ntmps33
  go_upto_region 5 with (fail)
  have hic : i ≤ cap := by omega
  go_region_law (refine step_slide gramElem rfl (.tmp 22) (.tmp 25) rfl g i cap cur HG.out (by simp [Act.eval, Act.put]) A (n - (i + 1)) (cap - (i + 1)) (flatG (q.drop (i + 1))) (by simp [Act.eval, Act.put]) HNL.out hcells.out HN1.out (by omega) HCS.out ?_; intro w1 h1 b1)
  have H1 := Lib.hid h1
  have B1 := Lib.hid b1
  clear h1 b1 HG hcells
  have e1 : i + (n - (i + 1)) = n - 1 := by omega
  have e2 : n - (n - 1) = 1 := by omega
  have hfit : (n - 1) * 6 + 1 * 6 ≤ ((cur.toList.take (i * 6) ++ flatG (q.drop (i + 1)) ++ cur.toList.drop (i * 6 + (flatG (q.drop (i + 1))).length)).toArray).size := by
    rw [List.size_toArray, HC1.out]; omega
  have HF := Lib.hid hfit
  clear hfit
  go_wp2_with (refine wp_clear_row gramElem gramZero gramOne rfl (.tmp 31) rfl g ((n - 1) * 6) 1 (cap - (n - 1)) _ rfl H1.out (by omega) HF.out ?_; intro w2 h2 b2)
  go_ret
  have hZ : (Builtin.zeroCells Gr.none.val.cells 1).toList.length = 6 := by rw [Array.length_toList, size_zeroCells]; rfl
  obtain ⟨c1, c2⟩ := cells_clear (m := n - 1) (cap := cap) hZ (by omega) HC1.out
  have HC := HC2.out
  rw [Hn.out] at HC
  have hel : (q.eraseIdx i).length = n - 1 := by rw [List.length_eraseIdx_of_lt (by rw [Hn.out]; exact hin), Hn.out]
  refine ⟨rfl, ?_, B1.out.undrew.trans b2⟩
  unfold RowG
  rw [hel]
  refine ⟨by rw [flatG_len, hel], .inr ⟨g, cap, _, rfl, by omega, h2, by omega, by unfold maxLen; omega, ?_, ?_⟩⟩
  · simp only [List.size_toArray]
    exact c1
  · exact c2.trans HC
end Go.Proofs.Ytkdopflnaeejeaa
