/-
  What is picked always first, and what a way sees of pulls and copies, in plain words.
-/
import Derived.Test.YtkdopflnaeejeaaMiPure
namespace Go.Proofs.Ytkdopflnaeejeaa
open Go.RowKit
set_option linter.unusedSimpArgs false

theorem idxF_none {c : Int} {u : Bool} : ∀ {l : List Gr} (o : Nat), l.filter (onWay c u) = [] → idxF c u o l = []
  | [], _, _ => rfl
  | x :: l, o, h => by
    rw [List.filter_cons] at h
    by_cases hx : onWay c u x = true
    · rw [if_pos hx] at h; cases h
    · rw [if_neg hx] at h
      simp only [idxF]
      rw [if_neg hx, idxF_none (o + 1) h]
theorem pick_front {c : Int} {u : Bool} {a r : List Gr} {x : Gr} (ha : a.filter (onWay c u) = []) (hx : onWay c u x = true) : pickG (a ++ x :: r) c u 0 = (a ++ r, x, true) := by
  have h : plc c u (a ++ x :: r) 0 = (a.length : Int) := by
    unfold plc
    rw [if_pos (by omega), idxF_append, idxF_none 0 ha]
    simp [idxF, hx]
  unfold pickG pullG
  rw [h, if_pos (by omega), Int.toNat_natCast]
  have e1 : (a ++ x :: r)[a.length]? = some x := by simp
  have e2 : (a ++ x :: r).eraseIdx a.length = a ++ r := by
    rw [List.eraseIdx_append_of_length_le (Nat.le_refl _)]; simp
  rw [e1, e2]
theorem pick_none {c : Int} {u : Bool} {l : List Gr} (h : l.filter (onWay c u) = []) (k : Int) : pickG l c u k = (l, Gr.none, false) := by
  have hp : plc c u l k = -1 := plc_neg (plc_none.2 (by unfold cnt; rw [h]; simp; omega))
  unfold pickG pullG
  rw [hp, if_neg (by omega)]
theorem pull_first (x : Gr) (r : List Gr) : pullG (x :: r) 0 = (r, x, true) := by
  unfold pullG; rw [if_pos (by omega)]; simp
theorem pull_none : pullG [] 0 = ([], Gr.none, false) := by
  unfold pullG; rw [if_pos (by omega)]; simp
/-- What is left of a row of datagrams when those of a way among the first i were picked. -/
def restW (c : Int) (u : Bool) (S : List Gr) (i : Nat) : List Gr := (S.take i).filter (fun x => !onWay c u x) ++ S.drop i
theorem rest_none (c : Int) (u : Bool) (l : List Gr) : (l.filter (fun x => !onWay c u x)).filter (onWay c u) = [] := by
  rw [List.filter_filter, List.filter_eq_nil_iff]
  intro x _; simp
theorem rest_yes {c : Int} {u : Bool} {S : List Gr} {i : Nat} {x : Gr} (hx : S[i]? = some x) (h : onWay c u x = true) : pickG (restW c u S i) c u 0 = (restW c u S (i + 1), x, true) := by
  have hi := (List.getElem?_eq_some_iff.1 hx).1
  have hxx : S[i] = x := (List.getElem?_eq_some_iff.1 hx).2
  unfold restW
  rw [List.drop_eq_getElem_cons hi, hxx, pick_front (rest_none c u _) h, List.take_add_one, hx]
  simp [h]
theorem rest_no {c : Int} {u : Bool} {S : List Gr} {i : Nat} {x : Gr} (hx : S[i]? = some x) (h : onWay c u x = false) : restW c u S (i + 1) = restW c u S i := by
  have hi := (List.getElem?_eq_some_iff.1 hx).1
  have hxx : S[i] = x := (List.getElem?_eq_some_iff.1 hx).2
  unfold restW
  rw [List.drop_eq_getElem_cons hi, hxx, List.take_add_one, hx]
  simp [h]
theorem rest_zero (c : Int) (u : Bool) (S : List Gr) : restW c u S 0 = S := by simp [restW]
theorem rest_end (c : Int) (u : Bool) (S : List Gr) (k : Int) : pickG (restW c u S S.length) c u k = (restW c u S S.length, Gr.none, false) := by
  refine pick_none ?_ k
  unfold restW
  rw [List.drop_length, List.append_nil]
  exact rest_none c u _
theorem pull_drop {S : List Gr} {i : Nat} {x : Gr} (hx : S[i]? = some x) : pullG (S.drop i) 0 = (S.drop (i + 1), x, true) := by
  have hi := (List.getElem?_eq_some_iff.1 hx).1
  have hxx : S[i] = x := (List.getElem?_eq_some_iff.1 hx).2
  rw [List.drop_eq_getElem_cons hi, hxx, pull_first]
end Go.Proofs.Ytkdopflnaeejeaa
