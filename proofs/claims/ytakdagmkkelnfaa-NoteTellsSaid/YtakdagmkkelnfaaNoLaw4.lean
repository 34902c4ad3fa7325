/-
  Four bytes of a message put in the place of others are told.
-/
import Derived.Test.YtakdagmkkelnfaaNoLaw3
namespace Go.Proofs.Ytakdagmkkelnfaa
open Go.RowKit Go.Sort NibPure SumPure
set_option linter.unusedVariables false
set_option linter.unusedSimpArgs false
def bytes4 (b0 b1 b2 b3 : UInt8) : List UInt8 := [b0, b1, b2, b3]
theorem arr4_conv (b0 b1 b2 b3 : UInt8) (b : Nat) (w : World) (h : Has w b (.cells #[.int .u8 (b0.toNat : Int), .int .u8 (b1.toNat : Int), .int .u8 (b2.toNat : Int), .int .u8 (b3.toNat : Int)] 44)) (n : Nat) :
    (convert 37 9 (.slice (some ⟨b, 0, none⟩) 4 4)).run Try.prog (w.drewN n) = .ok (.string (bs (bytes4 b0 b1 b2 b3))) (w.drewN n) := by
  have hH : Has (w.drewN n) b (.cells #[.int .u8 (b0.toNat : Int), .int .u8 (b1.toNat : Int), .int .u8 (b2.toNat : Int), .int .u8 (b3.toNat : Int)] 44) := h
  refine run_convert_bytes_back _ 37 9 5 ⟨b, 0, none⟩ 4 (bytes4 b0 b1 b2 b3) Try.underlying37 Try.underlying5 Try.underlying9 ?_
  intro j hj
  match j, hj with
  | 0, _ => exact hH.cell 0 _ (by simp [bytes4])
  | 1, _ => exact hH.cell 1 _ (by simp [bytes4])
  | 2, _ => exact hH.cell 2 _ (by simp [bytes4])
  | 3, _ => exact hH.cell 3 _ (by simp [bytes4])
theorem mod_form (x : Int) (n : Nat) (hn : n ≤ 65536) : ∃ a : Nat, a ≤ n ∧ wrap64 ((IntKind.u64.wrap x).tmod (n + 1)) = a := by
  have h0 : 0 ≤ IntKind.u64.wrap x := by rw [IntKind.wrap_u64]; omega
  rw [Int.tmod_eq_emod_of_nonneg h0]
  refine ⟨((IntKind.u64.wrap x) % (n + 1)).toNat, ?_, ?_⟩
  · have := Int.emod_lt_of_pos (IntKind.u64.wrap x) (show (0 : Int) < n + 1 by omega)
    omega
  · have h1 := Int.emod_lt_of_pos (IntKind.u64.wrap x) (show (0 : Int) < n + 1 by omega)
    have h2 := Int.emod_nonneg (IntKind.u64.wrap x) (show (n : Int) + 1 ≠ 0 by omega)
    rw [IntWalk.wrap64_in _ ⟨by omega, by omega⟩]
    omega
/-- The place that is chosen. -/
theorem tellsM {m : Ms} (hg : m.good = true) (k : Nat) (hk : k = 0 ∨ 4 ≤ k) (y : List UInt8) (hy : y.length = 4) (S T : List UInt8) (hS : withSum m.body = S) (hk2 : k + 4 ≤ S.length) (hT : T = S.take k ++ y ++ S.drop (k + 4)) :
    ((decM T).2 = 20 ∧ T ≠ S) ∨ ((decM T).2 = 0 ∧ T = S) := by
  by_cases he : T = S
  · right
    refine ⟨?_, he⟩
    rw [he, ← hS, decM_of hg]
  left
  refine ⟨?_, he⟩
  have ht4 : S.take 4 = highN (sum m.body) 4 := by rw [← hS, withSum_take]
  have hd4 : S.drop 4 = m.body := by rw [← hS, withSum_drop]
  have hlT : T.length = S.length := by rw [hT]; simp [hy]; omega
  have hgN : getN (highN (sum m.body) 4) = sum m.body := getN_highN _ _ (by have := sum_lt m.body; omega)
  have key : getN (T.take 4) ≠ sum (T.drop 4) := by
    intro hq
    apply he
    rcases hk with rfl | hk
    · have e1 : T.take 4 = y := by rw [hT]; simp [hy, List.take_append_of_le_length]
      have e2 : T.drop 4 = S.drop 4 := by rw [hT]; simp [hy, List.drop_append]
      rw [e1, e2, hd4] at hq
      have : y = S.take 4 := by
        rw [ht4]
        exact getN_inj (by rw [hy, highN_len]) (by rw [hq, hgN])
      rw [hT, this]
      simp
    · have e1 : T.take 4 = S.take 4 := by
        rw [hT, List.append_assoc, List.take_append_of_le_length (by rw [List.length_take]; omega), List.take_take, Nat.min_eq_left hk]
      have e2 : T.drop 4 = (S.drop 4).take (k - 4) ++ y ++ S.drop (k + 4) := by
        rw [hT, List.append_assoc, List.drop_append_of_le_length (by rw [List.length_take]; omega), List.drop_take, List.append_assoc]
      have e3 : S.drop 4 = (S.drop 4).take (k - 4) ++ (S.drop k).take 4 ++ S.drop (k + 4) := by
        have h1 : (S.drop 4).take (k - 4) ++ (S.drop 4).drop (k - 4) = S.drop 4 := List.take_append_drop _ _
        have h2 : (S.drop 4).drop (k - 4) = S.drop k := by rw [List.drop_drop]; congr 1; omega
        have h3 : (S.drop k).take 4 ++ (S.drop k).drop 4 = S.drop k := List.take_append_drop _ _
        rw [List.drop_drop] at h3
        rw [List.append_assoc, h3, ← h2, h1]
      rw [e1, ht4, hgN, e2, ← hd4] at hq
      have hx : ((S.drop k).take 4).length = 4 := by rw [List.length_take, List.length_drop]; omega
      have hq2 : sum ((S.drop 4).take (k - 4) ++ (S.drop k).take 4 ++ S.drop (k + 4)) = sum ((S.drop 4).take (k - 4) ++ y ++ S.drop (k + 4)) := by rw [← e3]; exact hq
      have hy2 := (tells _ _ _ _ hx hy).1 hq2
      have h4 : S.take k ++ ((S.drop k).take 4 ++ (S.drop k).drop 4) = S := by rw [List.take_append_drop, List.take_append_drop]
      rw [List.drop_drop] at h4
      rw [hT, ← hy2, List.append_assoc]
      exact h4
  unfold decM
  rw [if_neg (by omega), if_pos key]
end Go.Proofs.Ytakdagmkkelnfaa
