/-
  The plain law of entries done to images; patch.All.
-/
import Derived.Test.YtpgeiopknjfdmaaPaB
import Derived.Test.YtpgeiopknjfdmaaEntRowOpen
namespace Go.Proofs.Ytpgeiopknjfdmaa
open Go.RowKit Go.Sort
set_option linter.unusedVariables false
set_option linter.unusedSimpArgs false

theorem ent_good_lsn {x : Ent} (h : x.good = true) : 1 ≤ x.lsn ∧ x.lsn ≤ 1099511627776 := by
  simp only [Ent.good, Bool.and_eq_true, Ent.lsnB, decide_eq_true_eq] at h
  exact h.1.2.1
theorem redo_ok {lsn : Int} {l : List Sl} {x : Ent} (h : (redoR lsn l x).2.2.2 = 0) : slGood lsn l = true ∧ x.good = true ∧ x.chg = true ∧
    ((x.lsn ≤ lsn ∧ redoR lsn l x = (lsn, l, false, 0)) ∨ (lsn < x.lsn ∧ slAt lsn l x.slot = x.was ∧ 0 ≤ x.slot ∧ x.slot < 32 ∧ x.is.odd = false ∧ slSize (putL l x.slot.toNat x.is) ≤ 240 ∧ redoR lsn l x = (x.lsn, putL l x.slot.toNat x.is, true, 0))) := by
  unfold redoR at *
  split at h
  · cases h
  · rename_i h1
    have h1' : (slGood lsn l && (x.good && x.chg)) = true := by simpa using h1
    simp only [Bool.and_eq_true] at h1'
    refine ⟨h1'.1, h1'.2.1, h1'.2.2, ?_⟩
    rw [if_neg h1]
    split at h
    · rename_i h2
      exact .inl ⟨h2, by rw [if_pos h2]⟩
    · rename_i h2
      rw [if_neg h2]
      split at h
      · cases h
      · rename_i h3
        rw [if_neg h3]
        split at h
        · rename_i h4
          obtain ⟨_, p1, p2, p3, p4, p5⟩ := putRes_ok h4
          refine .inr ⟨by omega, (slEq_iff _ _).1 (by simpa using h3), p1, p2, p3, p4, ?_⟩
          rw [if_pos h4, p5]
        · rename_i h4
          exact absurd h h4
theorem redo_not {lsn : Int} {l : List Sl} {x : Ent} (h : (redoR lsn l x).2.2.2 ≠ 0) : redoR lsn l x = (0, [], false, (redoR lsn l x).2.2.2) := by
  unfold redoR at *
  split
  · rfl
  · rename_i h1
    rw [if_neg h1] at h
    split
    · rename_i h2; rw [if_pos h2] at h; exact absurd rfl h
    · rename_i h2
      rw [if_neg h2] at h
      split
      · rfl
      · rename_i h3
        rw [if_neg h3] at h
        split
        · rename_i h4; rw [if_pos h4] at h; exact absurd rfl h
        · rfl
theorem slGood_lsn {a b : Int} {l : List Sl} (h : slGood a l = true) (h0 : 0 ≤ b) (h1 : b ≤ 1099511627776) : slGood b l = true := by
  obtain ⟨_, h2⟩ := (slGood_iff a l).1 h
  exact (slGood_iff b l).2 ⟨⟨h0, h1⟩, h2⟩
theorem redo_good {lsn : Int} {l : List Sl} {x : Ent} (h : (redoR lsn l x).2.2.2 = 0) : slGood (redoR lsn l x).1 (redoR lsn l x).2.1 = true := by
  obtain ⟨h1, h2, _, h4⟩ := redo_ok h
  rcases h4 with ⟨_, e⟩ | ⟨_, _, k0, k1, ho, hs, e⟩
  · rw [e]; exact h1
  · rw [e]
    have := ent_good_lsn h2
    exact slGood_lsn (putL_good h1 (by omega) ho hs) (by simp only; omega) this.2
/-- What one entry of a list does. -/
def allStep (page : Int) (S : Int × List Sl × Int) (x : Ent) : Int × List Sl × Int :=
  if S.2.2 ≠ 0 then S
  else if x.chg = false ∨ x.page ≠ page then S
  else if (redoR S.1 S.2.1 x).2.2.2 ≠ 0 then (0, [], (redoR S.1 S.2.1 x).2.2.2) else ((redoR S.1 S.2.1 x).1, (redoR S.1 S.2.1 x).2.1, 0)
def allF (page : Int) (S : Int × List Sl × Int) (L : List Ent) : Int × List Sl × Int := L.foldl (allStep page) S
def allR (lsn : Int) (l : List Sl) (page : Int) (L : List Ent) : Int × List Sl × Int := if slGood lsn l = true then allF page (lsn, l, 0) L else (0, [], 1)
theorem allF_stop (page : Int) (S : Int × List Sl × Int) (h : S.2.2 ≠ 0) (L : List Ent) : allF page S L = S := by
  induction L generalizing S with
  | nil => rfl
  | cons a L ih =>
    show allF page (allStep page S a) L = S
    have e : allStep page S a = S := by unfold allStep; rw [if_pos h]
    rw [e]; exact ih S h
theorem allF_append (page : Int) (S : Int × List Sl × Int) (a b : List Ent) : allF page S (a ++ b) = allF page (allF page S a) b := by simp [allF]
theorem allF_take {page : Int} {S : Int × List Sl × Int} {L : List Ent} {j : Nat} {x : Ent} (hx : L[j]? = some x) : allF page S (L.take (j + 1)) = allStep page (allF page S (L.take j)) x := by
  rw [List.take_add_one, hx, allF_append]; rfl
theorem allF_end {page : Int} {S : Int × List Sl × Int} {L : List Ent} {j : Nat} (h : (allF page S (L.take j)).2.2 ≠ 0) : allF page S L = allF page S (L.take j) := by
  conv => lhs; rw [← List.take_append_drop j L]
  rw [allF_append, allF_stop page _ h]
theorem allStep_skip {page lsn : Int} {l : List Sl} {x : Ent} (h : x.chg = false ∨ x.page ≠ page) : allStep page (lsn, l, 0) x = (lsn, l, 0) := by
  unfold allStep; rw [if_neg (by simp), if_pos h]
theorem allStep_go {page lsn : Int} {l : List Sl} {x : Ent} (h : x.chg = true) (h2 : x.page = page) : allStep page (lsn, l, 0) x = if (redoR lsn l x).2.2.2 ≠ 0 then (0, [], (redoR lsn l x).2.2.2) else ((redoR lsn l x).1, (redoR lsn l x).2.1, 0) := by
  unfold allStep; rw [if_neg (by simp), if_neg (by simp [h, h2])]
end Go.Proofs.Ytpgeiopknjfdmaa
