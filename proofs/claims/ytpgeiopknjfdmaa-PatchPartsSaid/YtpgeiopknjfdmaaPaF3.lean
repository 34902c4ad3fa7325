/-
  The plain law of lists of entries: in pieces, and done again.
-/
import Derived.Test.YtpgeiopknjfdmaaPaF
namespace Go.Proofs.Ytpgeiopknjfdmaa
open Go.RowKit Go.Sort
set_option linter.unusedVariables false
set_option linter.unusedSimpArgs false

theorem allF_cons (page : Int) (S : Int × List Sl × Int) (x : Ent) (L : List Ent) : allF page S (x :: L) = allF page (allStep page S x) L := rfl
theorem allF_ok {page : Int} : ∀ (L : List Ent) (lsn : Int) (l : List Sl), slGood lsn l = true → (allF page (lsn, l, 0) L).2.2 = 0 →
    slGood (allF page (lsn, l, 0) L).1 (allF page (lsn, l, 0) L).2.1 = true ∧ lsn ≤ (allF page (lsn, l, 0) L).1 ∧ ∀ x ∈ L, x.chg = true → x.page = page → x.good = true ∧ x.lsn ≤ (allF page (lsn, l, 0) L).1
  | [], lsn, l, hg, _ => ⟨hg, Int.le_refl _, by simp⟩
  | x :: L, lsn, l, hg, h => by
    rw [allF_cons] at h ⊢
    by_cases hs : x.chg = false ∨ x.page ≠ page
    · rw [allStep_skip hs] at h ⊢
      obtain ⟨a, b, c⟩ := allF_ok L lsn l hg h
      refine ⟨a, b, fun y hy h1 h2 => ?_⟩
      rcases List.mem_cons.1 hy with rfl | hy
      · rcases hs with hs | hs
        · rw [hs] at h1; cases h1
        · exact absurd h2 hs
      · exact c y hy h1 h2
    · have hc : x.chg = true := by
        cases hx : x.chg with
        | true => rfl
        | false => exact absurd (.inl hx) hs
      have hp : x.page = page := Classical.byContradiction fun e => hs (.inr e)
      rw [allStep_go hc hp] at h ⊢
      by_cases he : (redoR lsn l x).2.2.2 = 0
      · rw [if_neg (by simp [he])] at h ⊢
        obtain ⟨a, b, c⟩ := allF_ok L _ _ (redo_good he) h
        obtain ⟨_, g2, _, g4⟩ := redo_ok he
        have hm : lsn ≤ (redoR lsn l x).1 ∧ x.lsn ≤ (redoR lsn l x).1 := by
          rcases g4 with ⟨g, e⟩ | ⟨g, _, _, _, _, _, e⟩
          · rw [e]; exact ⟨Int.le_refl _, g⟩
          · rw [e]; exact ⟨by simp only; omega, Int.le_refl _⟩
        refine ⟨a, by omega, fun y hy h1 h2 => ?_⟩
        rcases List.mem_cons.1 hy with rfl | hy
        · exact ⟨g2, by omega⟩
        · exact c y hy h1 h2
      · rw [if_pos he, allF_stop page _ (by simpa using he)] at h
        exact absurd h he
theorem allF_again {page ln : Int} {q : List Sl} (hg : slGood ln q = true) : ∀ (L : List Ent), (∀ x ∈ L, x.chg = true → x.page = page → x.good = true ∧ x.lsn ≤ ln) → allF page (ln, q, 0) L = (ln, q, 0)
  | [], _ => rfl
  | x :: L, h => by
    rw [allF_cons]
    by_cases hs : x.chg = false ∨ x.page ≠ page
    · rw [allStep_skip hs]
      exact allF_again hg L (fun y hy => h y (List.mem_cons_of_mem _ hy))
    · have hc : x.chg = true := by
        cases hx : x.chg with
        | true => rfl
        | false => exact absurd (.inl hx) hs
      have hp : x.page = page := Classical.byContradiction fun e => hs (.inr e)
      obtain ⟨h1, h2⟩ := h x (List.mem_cons_self ..) hc hp
      have e : redoR ln q x = (ln, q, false, 0) := by
        unfold redoR
        rw [if_neg (by simp [hg, h1, hc]), if_pos h2]
      rw [allStep_go hc hp, e]
      simp only [ne_eq, not_true_eq_false, if_false]
      exact allF_again hg L (fun y hy => h y (List.mem_cons_of_mem _ hy))
theorem allF_err {page : Int} : ∀ (L : List Ent) (lsn : Int) (l : List Sl), (allF page (lsn, l, 0) L).2.2 ≠ 0 → (allF page (lsn, l, 0) L).1 = 0 ∧ (allF page (lsn, l, 0) L).2.1 = []
  | [], lsn, l, h => absurd rfl h
  | x :: L, lsn, l, h => by
    rw [allF_cons] at h ⊢
    by_cases hs : x.chg = false ∨ x.page ≠ page
    · rw [allStep_skip hs] at h ⊢
      exact allF_err L lsn l h
    · have hc : x.chg = true := by
        cases hx : x.chg with
        | true => rfl
        | false => exact absurd (.inl hx) hs
      have hp : x.page = page := Classical.byContradiction fun e => hs (.inr e)
      rw [allStep_go hc hp] at h ⊢
      by_cases he : (redoR lsn l x).2.2.2 = 0
      · rw [if_neg (by simp [he])] at h ⊢
        exact allF_err L _ _ h
      · rw [if_pos he, allF_stop page _ (by simpa using he)]
        exact ⟨rfl, rfl⟩
/-- Done again, a list from anywhere on changes nothing. -/
theorem all_once {lsn : Int} {l : List Sl} {page : Int} {L : List Ent} (k : Nat) (h : (allR lsn l page L).2.2 = 0) :
    allR (allR lsn l page L).1 (allR lsn l page L).2.1 page (L.drop k) = ((allR lsn l page L).1, (allR lsn l page L).2.1, 0) ∧ lsn ≤ (allR lsn l page L).1 ∧ (allR lsn l page L).2.1.length ≤ 32 := by
  unfold allR at h ⊢
  by_cases hg : slGood lsn l = true
  · rw [if_pos hg] at h ⊢
    obtain ⟨a, b, c⟩ := allF_ok L lsn l hg h
    rw [if_pos a]
    exact ⟨allF_again a _ (fun x hx => c x (List.mem_of_mem_drop hx)), b, ((slGood_iff _ _).1 a).2.1⟩
  · rw [if_neg hg] at h; cases h
theorem all_err {lsn : Int} {l : List Sl} {page : Int} {L : List Ent} (h : (allR lsn l page L).2.2 ≠ 0) : (allR lsn l page L).1 = 0 ∧ (allR lsn l page L).2.1 = [] := by
  unfold allR at h ⊢
  by_cases hg : slGood lsn l = true
  · rw [if_pos hg] at h ⊢; exact allF_err L lsn l h
  · rw [if_neg hg]; exact ⟨rfl, rfl⟩
theorem all_part_err {lsn : Int} {l : List Sl} {page : Int} {L : List Ent} {k : Nat} (h : (allR lsn l page (L.take k)).2.2 ≠ 0) : allR lsn l page L = allR lsn l page (L.take k) := by
  unfold allR at h ⊢
  by_cases hg : slGood lsn l = true
  · rw [if_pos hg] at h ⊢; rw [if_pos hg]; exact allF_end h
  · rw [if_neg hg, if_neg hg]
theorem all_part_ok {lsn : Int} {l : List Sl} {page : Int} {L : List Ent} {k : Nat} (h : (allR lsn l page (L.take k)).2.2 = 0) :
    allR (allR lsn l page (L.take k)).1 (allR lsn l page (L.take k)).2.1 page (L.drop k) = allR lsn l page L := by
  unfold allR at h ⊢
  by_cases hg : slGood lsn l = true
  · rw [if_pos hg] at h ⊢
    obtain ⟨a, _, _⟩ := allF_ok _ lsn l hg h
    rw [if_pos a, if_pos hg]
    have e0 : ∀ R : Int × List Sl × Int, R.2.2 = 0 → R = (R.1, R.2.1, 0) := fun ⟨x, y, z⟩ hz => by simp only at hz; rw [hz]
    have e := e0 _ h
    conv => rhs; rw [← List.take_append_drop k L]
    rw [allF_append]
    exact congrArg (fun R => allF page R (L.drop k)) e.symm
  · rw [if_neg hg] at h; cases h
end Go.Proofs.Ytpgeiopknjfdmaa
