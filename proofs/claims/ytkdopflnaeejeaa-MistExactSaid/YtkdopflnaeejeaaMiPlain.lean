/-
  What is picked always first, and what a way sees of pulls and copies, in plain words.
-/
import Derived.Test.YtkdopflnaeejeaaMiPure
namespace Go.Proofs.Ytkdopflnaeejeaa
open Go.RowKit
set_option linter.unusedSimpArgs false

theorem idxF_none {c : Int} {u : Bool} : ∀ {l : List Gr} (o : Nat), l.filter (onWay c u) = [] → idxF c u o l = []
  | [], _, _ => rfl
  | x :: l, o, h => by
    rw [List.filter_cons] at h
    by_cases hx : onWay c u x = true
    · rw [if_pos hx] at h; cases h
    · rw [if_neg hx] at h
      simp only [idxF]
      rw [if_neg hx, idxF_none (o + 1) h]
theorem pick_front {c : Int} {u : Bool} {a r : List Gr} {x : Gr} (ha : a.filter (onWay c u) = []) (hx : onWay c u x = true) : pickG (a ++ x :: r) c u 0 = (a ++ r, x, true) := by
  have h : plc c u (a ++ x :: r) 0 = (a.length : Int) := by
    unfold plc
    rw [if_pos (by omega), idxF_append, idxF_none 0 ha]
    simp [idxF, hx]
  unfold pickG pullG
  rw [h, if_pos (by omega), Int.toNat_natCast]
  have e1 : (a ++ x :: r)[a.length]? = some x := by simp
  have e2 : (a ++ x :: r).eraseIdx a.length = a ++ r := by
    rw [List.eraseIdx_append_of_length_le (Nat.le_refl _)]; simp
  rw [e1, e2]
theorem pick_none {c : Int} {u : Bool} {l : List Gr} (h : l.filter (onWay c u) = []) (k : Int) : pickG l c u k = (l, Gr.none, false) := by
  have hp : plc c u l k = -1 := plc_neg (plc_none.2 (by unfold cnt; rw [h]; simp; omega))
  unfold pickG pullG
  rw [hp, if_neg (by omega)]
theorem pull_first (x : Gr) (r : List Gr) : pullG (x :: r) 0 = (r, x, true) := by
  unfold pullG; rw [if_pos (by omega)]; simp
theorem pull_none : pullG [] 0 = ([], Gr.none, false) := by
  unfold pullG; rw [if_pos (by omega)]; simp
/-- What is left of a row of datagrams when those of a way among the first i were picked. -/
def restW (c : Int) (u : Bool) (S : List Gr) (i : Nat) : List Gr := (S.take i).filter (fun x => !onWay c u x) ++ S.drop i
theorem rest_none (c : Int) (u : Bool) (l : List Gr) : (l.filter (fun x => !onWay c u x)).filter (onWay c u) = [] := by
  rw [List.filter_filter, List.filter_eq_nil_iff]
  intro x _; simp
theorem rest_yes {c : Int} {u : Bool} {S : List Gr} {i : Nat} {x : Gr} (hx : S[i]? = some x) (h : onWay c u x = true) : pickG (restW c u S i) c u 0 = (restW c u S (i + 1), x, true) := by
  have hi := (List.getElem?_eq_some_iff.1 hx).1
  have hxx : S[i] = x := (List.getElem?_eq_some_iff.1 hx).2
  unfold restW
  rw [List.drop_eq_getElem_cons hi, hxx, pick_front (rest_none c u _) h, List.take_add_one, hx]
  simp [h]
theorem rest_no {c : Int} {u : Bool} {S : List Gr} {i : Nat} {x : Gr} (hx : S[i]? = some x) (h : onWay c u x = false) : restW c u S (i + 1) = restW c u S i := by
  have hi := (List.getElem?_eq_some_iff.1 hx).1
  have hxx : S[i] = x := (List.getElem?_eq_some_iff.1 hx).2
  unfold restW
  rw [List.drop_eq_getElem_cons hi, hxx, List.take_add_one, hx]
  simp [h]
theorem rest_zero (c : Int) (u : Bool) (S : List Gr) : restW c u S 0 = S := by simp [restW]
theorem rest_end (c : Int) (u : Bool) (S : List Gr) (k : Int) : pickG (restW c u S S.length) c u k = (restW c u S S.length, Gr.none, false) := by
  refine pick_none ?_ k
  unfold restW
  rw [List.drop_length, List.append_nil]
  exact rest_none c u _
theorem pull_drop {S : List Gr} {i : Nat} {x : Gr} (hx : S[i]? = some x) : pullG (S.drop i) 0 = (S.drop (i + 1), x, true) := by
  have hi := (List.getElem?_eq_some_iff.1 hx).1
  have hxx : S[i] = x := (List.getElem?_eq_some_iff.1 hx).2
  rw [List.drop_eq_getElem_cons hi, hxx, pull_first]
theorem pick_head {c : Int} {u : Bool} {L r : List Gr} {x : Gr} (h : L.filter (onWay c u) = x :: r) : ∃ L', pickG L c u 0 = (L', x, true) ∧ L'.filter (onWay c u) = r ∧ L'.Sublist L := by
  have hp : ¬ plc c u L 0 < 0 := by
    rw [plc_none]; unfold cnt; rw [h, List.length_cons]; omega
  obtain ⟨i, y, hi, hy, _, hf, _, he⟩ := plc_some (show 0 ≤ plc c u L 0 by omega)
  rw [h] at hf he
  have : x = y := by simpa using hf
  subst this
  refine ⟨L.eraseIdx i, ?_, by simpa using he, List.eraseIdx_sublist L i⟩
  unfold pickG pullG
  rw [hi, if_pos (by omega), Int.toNat_natCast, hy]
theorem sub_none {p : Gr → Bool} {L L' : List Gr} (hs : L'.Sublist L) (h : L.filter p = []) : L'.filter p = [] := by
  have := hs.filter p
  rw [h] at this
  exact List.sublist_nil.1 this
/-- A pick on one way is nothing to another one. -/
theorem pick_apart {c c' : Int} {u u' : Bool} (hw : c ≠ c' ∨ u ≠ u') (L : List Gr) (k : Int) : (pickG L c u k).1.filter (onWay c' u') = L.filter (onWay c' u') ∧ (pickG L c u k).1.Sublist L := by
  unfold pickG
  by_cases hp : plc c u L k < 0
  · unfold pullG
    rw [if_neg (by omega)]
    exact ⟨rfl, List.Sublist.refl _⟩
  · obtain ⟨i, y, hi, hy, _, _, ho, _⟩ := plc_some (show 0 ≤ plc c u L k by omega)
    unfold pullG
    rw [hi, if_pos (by omega), Int.toNat_natCast, hy]
    refine ⟨erase_other L i hy ?_, List.eraseIdx_sublist L i⟩
    simp [onWay] at ho ⊢
    obtain ⟨rfl, rfl⟩ := ho
    rcases hw with h | h
    · intro e; exact absurd e h
    · intro _; cases hy2 : y.up <;> cases u' <;> simp_all
theorem copy_apart {c c' : Int} {u u' : Bool} (hw : c ≠ c' ∨ u ≠ u') (L : List Gr) (k : Int) : (copyG L c u k).1.filter (onWay c' u') = L.filter (onWay c' u') ∧ (copyG L c u k).1.length ≤ L.length + 1 ∧ (L.filter (onWay c' u') = [] → (copyG L c u k).1.filter (onWay c' u') = []) := by
  have key : (copyG L c u k).1.filter (onWay c' u') = L.filter (onWay c' u') ∧ (copyG L c u k).1.length ≤ L.length + 1 := by
    by_cases hp : plc c u L k < 0
    · unfold copyG
      rw [if_neg (by omega)]
      exact ⟨rfl, by simp⟩
    · obtain ⟨i, y, hi, hy, _, _, ho, _⟩ := plc_some (show 0 ≤ plc c u L k by omega)
      have hno : onWay c' u' y = false := by
        simp [onWay] at ho ⊢
        obtain ⟨rfl, rfl⟩ := ho
        rcases hw with h | h
        · intro e; exact absurd e h
        · intro _; cases hy2 : y.up <;> cases u' <;> simp_all
      unfold copyG
      rw [hi, if_pos (by omega), Int.toNat_natCast, hy]
      have hput : (putG L y).1.filter (onWay c' u') = L.filter (onWay c' u') := by
        unfold putG
        split
        · rfl
        · split
          · rfl
          · simp [List.filter_append, hno]
      exact ⟨hput, putG_len L y⟩
  exact ⟨key.1, key.2, fun h => by rw [key.1, h]⟩
theorem clear_apart (c c' : Int) (u' : Bool) (L : List Gr) : ((c ≠ c') → (clearG L c).1.filter (onWay c' u') = L.filter (onWay c' u')) ∧ (clearG L c).1.filter (onWay c u') = [] ∧ (clearG L c).1.length ≤ L.length := by
  unfold clearG
  refine ⟨fun h => ?_, ?_, List.length_filter_le _ _⟩
  · rw [List.filter_filter]
    congr 1
    funext x
    simp [onWay]
    intro e _ e2
    exact h (e2.symm.trans e)
  · rw [List.filter_filter, List.filter_eq_nil_iff]
    intro x _
    by_cases h : x.cl = c <;> simp [onWay, h]
theorem copy_there {c : Int} {u : Bool} {L W : List Gr} {k : Nat} {x : Gr} (h : L.filter (onWay c u) = W) (hx : W[k]? = some x) (hc : 1 ≤ c ∧ c ≤ 8) (hW : W.length < 64) : copyG L c u (k : Int) = (L ++ [x], true) := by
  have hk := (List.getElem?_eq_some_iff.1 hx).1
  have hp : ¬ plc c u L k < 0 := by
    rw [plc_none]; unfold cnt; rw [h]; omega
  obtain ⟨i, y, hi, hy, _, hf, ho, _⟩ := plc_some (show 0 ≤ plc c u L k by omega)
  rw [h, Int.toNat_natCast, hx] at hf
  cases hf
  have ho' : x.cl = c ∧ x.up = u := by simpa [onWay] using ho
  have hput : putG L x = (L ++ [x], 0) := by
    unfold putG
    rw [if_neg (by omega), if_neg (by unfold cnt; rw [ho'.1, ho'.2, h]; omega)]
  unfold copyG
  rw [hi, if_pos (by omega), Int.toNat_natCast, hy]
  simp only [hput]
  rfl
theorem put_there {L : List Gr} {x : Gr} (hc : 1 ≤ x.cl ∧ x.cl ≤ 8) (hL : L.length < 64) : putG L x = (L ++ [x], 0) := by
  unfold putG
  have : cnt x.cl x.up L ≤ L.length := List.length_filter_le _ _
  rw [if_neg (by omega), if_neg (by omega)]
end Go.Proofs.Ytkdopflnaeejeaa
