/-
  The records of an image, in plain words: which slots have one, by rising slots.
-/
import Derived.Test.YtklmoigpalhlmaaSlD
namespace Go.Proofs.Ytklmoigpalhlmaa
open Go.RowKit
set_option linter.unusedVariables false
set_option linter.unusedSimpArgs false

/-- The used slots, counted from o. -/
def rowF : Nat → List Sl → List (Nat × ByteArray)
  | _, [] => []
  | o, x :: l => if x.u then (o, x.d) :: rowF (o + 1) l else rowF (o + 1) l
theorem rowF_snoc (x : Sl) : ∀ (l : List Sl) (o : Nat), rowF o (l ++ [x]) = rowF o l ++ (if x.u then [(o + l.length, x.d)] else [])
  | [], o => by simp only [List.nil_append, rowF, List.length_nil, Nat.add_zero]
  | y :: l, o => by
    have ih := rowF_snoc x l (o + 1)
    simp only [List.cons_append, rowF, ih, List.length_cons]
    have e : o + 1 + l.length = o + (l.length + 1) := by omega
    rw [e]
    by_cases h : y.u = true
    · rw [if_pos h, if_pos h]; rfl
    · rw [if_neg h, if_neg h]
theorem rowF_take (l : List Sl) (k : Nat) (x : Sl) (h : l[k]? = some x) : rowF 0 (l.take (k + 1)) = rowF 0 (l.take k) ++ (if x.u then [(k, x.d)] else []) := by
  have hk : k < l.length := (List.getElem?_eq_some_iff.1 h).1
  rw [List.take_add_one, h]
  have := rowF_snoc x (l.take k) 0
  rw [show (l.take k).length = k by simp; omega, Nat.zero_add] at this
  exact this
theorem rowF_append : ∀ (a b : List Sl) (o : Nat), rowF o (a ++ b) = rowF o a ++ rowF (o + a.length) b
  | [], b, o => by simp [rowF]
  | x :: a, b, o => by
    have ih := rowF_append a b (o + 1)
    have e : o + 1 + a.length = o + (a.length + 1) := by omega
    simp only [List.cons_append, rowF, ih, List.length_cons, e]
    by_cases h : x.u = true
    · rw [if_pos h, if_pos h]; rfl
    · rw [if_neg h, if_neg h]
theorem rowF_pre (l : List Sl) (k : Nat) : rowF 0 (l.take k) <+: rowF 0 l :=
  ⟨rowF (0 + (l.take k).length) (l.drop k), by rw [← rowF_append, List.take_append_drop]⟩
theorem rowF_le : ∀ (l : List Sl) (o : Nat), (rowF o l).length ≤ l.length
  | [], _ => Nat.le_refl _
  | x :: l, o => by
    have := rowF_le l (o + 1)
    simp only [rowF, List.length_cons]
    split
    · simp only [List.length_cons]; omega
    · omega
theorem rowF_mem : ∀ (l : List Sl) (o : Nat) (y : Nat × ByteArray), y ∈ rowF o l → o ≤ y.1 ∧ l[y.1 - o]? = some ⟨true, y.2⟩
  | [], _, _, h => by simp [rowF] at h
  | x :: l, o, y, h => by
    simp only [rowF] at h
    have key : y ∈ rowF (o + 1) l → o ≤ y.1 ∧ (x :: l)[y.1 - o]? = some ⟨true, y.2⟩ := fun h => by
      obtain ⟨h1, h2⟩ := rowF_mem l (o + 1) y h
      refine ⟨by omega, ?_⟩
      rw [show y.1 - o = (y.1 - (o + 1)) + 1 by omega]
      simpa using h2
    by_cases hx : x.u = true
    · rw [if_pos hx, List.mem_cons] at h
      rcases h with rfl | h
      · obtain ⟨u, d⟩ := x
        simp only at hx
        subst hx
        exact ⟨Nat.le_refl _, by simp⟩
      · exact key h
    · rw [if_neg hx] at h
      exact key h
theorem rowF_rise : ∀ (l : List Sl) (o : Nat), (rowF o l).Pairwise (fun a b => a.1 < b.1)
  | [], _ => List.Pairwise.nil
  | x :: l, o => by
    simp only [rowF]
    by_cases hx : x.u = true
    · rw [if_pos hx]
      exact List.pairwise_cons.2 ⟨fun b hb => by have := (rowF_mem l (o + 1) b hb).1; show o < b.1; omega, rowF_rise l (o + 1)⟩
    · rw [if_neg hx]; exact rowF_rise l (o + 1)
/-- What an image gives when it is gone over. -/
def rowS (lsn : Int) (l : List Sl) : List (Nat × ByteArray) := if slGood lsn l = true then rowF 0 l else []
def lastOf (pre : List (Nat × ByteArray)) : Int := match pre.getLast? with
  | some y => (y.1 : Int)
  | Option.none => -1
theorem lastOf_snoc (pre : List (Nat × ByteArray)) (x : Nat × ByteArray) : lastOf (pre ++ [x]) = (x.1 : Int) := by simp [lastOf]
theorem row_next {lsn : Int} {l : List Sl} {pre : List (Nat × ByteArray)} {x : Nat × ByteArray} (h : pre ++ [x] <+: rowS lsn l) : lastOf pre < (x.1 : Int) ∧ slAt lsn l (x.1 : Nat) = ⟨true, x.2⟩ := by
  unfold rowS at h
  by_cases hg : slGood lsn l = true
  · rw [if_pos hg] at h
    obtain ⟨suf, hs⟩ := h
    have hp := rowF_rise l 0
    rw [← hs, List.append_assoc] at hp
    have hm : x ∈ rowF 0 l := by rw [← hs]; simp
    obtain ⟨_, hx⟩ := rowF_mem l 0 x hm
    refine ⟨?_, slAt_in hg (by simpa using hx)⟩
    unfold lastOf
    cases hl : pre.getLast? with
    | none => simp only; omega
    | some y =>
      have hy : y ∈ pre := List.mem_of_getLast? hl
      have := (List.pairwise_append.1 hp).2.2 y hy x (by simp)
      simp only; omega
  · rw [if_neg hg] at h
    have := h.length_le
    simp at this
/-- How many of the first slots are used. -/
def usedN (lsn : Int) (l : List Sl) : Nat → Nat
  | 0 => 0
  | i + 1 => usedN lsn l i + (if (slAt lsn l (i : Nat)).u then 1 else 0)
theorem usedN_step (lsn : Int) (l : List Sl) (i : Nat) : usedN lsn l (i + 1) = usedN lsn l i + (if (slAt lsn l (i : Nat)).u then 1 else 0) := rfl
theorem usedN_le (lsn : Int) (l : List Sl) : ∀ i, usedN lsn l i ≤ i
  | 0 => Nat.le_refl _
  | i + 1 => by
    have := usedN_le lsn l i
    rw [usedN_step]; split <;> omega
theorem usedN_take {lsn : Int} {l : List Sl} (hg : slGood lsn l = true) : ∀ i, usedN lsn l i = (rowF 0 (l.take i)).length
  | 0 => by simp [usedN, rowF]
  | i + 1 => by
    rw [usedN_step, usedN_take hg i]
    by_cases hi : i < l.length
    · obtain ⟨x, hx⟩ : ∃ x, l[i]? = some x := ⟨_, List.getElem?_eq_getElem hi⟩
      rw [slAt_in hg hx, rowF_take l i x hx, List.length_append]
      by_cases h : x.u = true
      · rw [if_pos h, if_pos h]; rfl
      · rw [if_neg h, if_neg h]; rfl
    · rw [slAt_out (.inr (.inr (by omega))), List.take_of_length_le (i := i + 1) (by omega), List.take_of_length_le (i := i) (by omega)]
      rfl
theorem usedN_all (lsn : Int) (l : List Sl) : usedN lsn l 32 = (rowS lsn l).length := by
  unfold rowS
  by_cases hg : slGood lsn l = true
  · rw [if_pos hg, usedN_take hg, List.take_of_length_le ((slGood_iff lsn l).1 hg).2.1]
  · rw [if_neg hg]
    have key : ∀ i, usedN lsn l i = 0 := fun i => by
      induction i with
      | zero => rfl
      | succ i ih => rw [usedN_step, ih, slAt_out (.inl (by simpa using hg))]; rfl
    rw [key]; rfl
end Go.Proofs.Ytklmoigpalhlmaa
