/-
  Which entries can be: entry.Good, put together.
-/
import Derived.Test.YtpgeiopknjfdmaaEntGoodEarly
namespace Go.Proofs.Ytpgeiopknjfdmaa
open Go.RowKit Go.Sort

theorem good_any (x : Ent) (hw : x.wd.size ≤ 9223372036854775807) (hi : x.ix.size ≤ 9223372036854775807) (w : World) :
    Calls Try.prog 21 #[x.val] w fun r w' => r = .returned (.bool x.good) ∧ Below w.heap.size w w' := by
  obtain ⟨k, c, e, n, l, p, pg, sl, wu, wd, iu, ix, nx⟩ := x
  have C0 := known_any c e n
  have C1 := fun w => within_is (n := l) (a := 1) (b := 1099511627776) rfl w
  have C2 := fun w => within_is (n := p) (a := 0) (b := l - 1) rfl w
  have C3 := fun w => within_is (n := pg) (a := 0) (b := 1023) rfl w
  have C4 := fun w => within_is (n := sl) (a := 0) (b := 31) rfl w
  have C5 := isSlot_any wu wd hw
  have C6 := isSlot_any iu ix hi
  have C7 := fun w => within_is (n := nx) (a := 0) (b := p) rfl w
  by_cases b0 : knownB c e n = true
  case neg =>
    have b0 : knownB c e n = false := by simpa using b0
    refine (good_early0 k c e n l p pg sl wu wd iu ix nx (by rw [← b0]; exact C0) w).mono ?_
    rintro r w' ⟨rfl, h⟩
    exact ⟨by simp [Ent.good, Ent.known, b0], h⟩
  by_cases b1 : 1 ≤ l ∧ l ≤ 1099511627776
  case neg =>
    refine (good_early1 k c e n l p pg sl wu wd iu ix nx (by rw [← b0]; exact C0) (by rw [← decide_eq_false b1]; exact C1) w).mono ?_
    rintro r w' ⟨rfl, h⟩
    exact ⟨by simp only [Ent.good, Ent.lsnB, decide_eq_false b1]; simp, h⟩
  by_cases b2 : 0 ≤ p ∧ p ≤ l - 1
  case neg =>
    refine (good_early2 k c e n l p pg sl wu wd iu ix nx (by rw [← b0]; exact C0) (by rw [← decide_eq_true b1]; exact C1) b1 (by rw [← decide_eq_false b2]; exact C2) w).mono ?_
    rintro r w' ⟨rfl, h⟩
    exact ⟨by simp only [Ent.good, Ent.prevB, decide_eq_false b2]; simp, h⟩
  rw [b0] at C0
  rw [decide_eq_true b1] at C1
  rw [decide_eq_true b2] at C2
  have hp : ∀ R : Bool, ((Ent.known ⟨k, c, e, n, l, p, pg, sl, wu, wd, iu, ix, nx⟩ && (Ent.lsnB ⟨k, c, e, n, l, p, pg, sl, wu, wd, iu, ix, nx⟩ && Ent.prevB ⟨k, c, e, n, l, p, pg, sl, wu, wd, iu, ix, nx⟩)) && R) = R := by
    intro R
    simp only [Ent.known, Ent.lsnB, Ent.prevB, b0, decide_eq_true b1, decide_eq_true b2]
    simp
  unfold Ent.good
  rw [hp]
  by_cases k1 : k = 1
  · subst k1
    exact good_one c e n l p pg sl wu wd iu ix nx _ _ _ _ _ C0 C1 b1 C2 C3 C4 C5 C6 C7 w
  by_cases k2 : k = 2
  · subst k2
    exact good_two c e n l p pg sl wu wd iu ix nx _ _ _ _ _ C0 C1 b1 C2 C3 C4 C5 C6 C7 w
  by_cases k3 : k = 3
  · subst k3
    exact good_three c e n l p pg sl wu wd iu ix nx _ _ _ _ _ C0 C1 b1 C2 C3 C4 C5 C6 C7 w
  by_cases k4 : k = 4
  · subst k4
    exact good_four c e n l p pg sl wu wd iu ix nx _ _ _ _ _ C0 C1 b1 C2 C3 C4 C5 C6 C7 w
  refine (good_else k c e n l p pg sl wu wd iu ix nx _ _ _ _ _ C0 C1 b1 C2 C3 C4 C5 C6 C7 (by simpa using k1) (by simpa using k2) (by simpa using k3) (by simpa using k4) w).mono ?_
  rintro r w' ⟨rfl, h⟩
  exact ⟨by simp [k1, k2, k3, k4], h⟩
end Go.Proofs.Ytpgeiopknjfdmaa
