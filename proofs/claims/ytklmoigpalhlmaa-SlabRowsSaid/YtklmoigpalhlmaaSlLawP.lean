/-
  The plain law of puts.
-/
import Derived.Test.YtklmoigpalhlmaaSlJ
namespace Go.Proofs.Ytklmoigpalhlmaa
open Go.RowKit
set_option linter.unusedVariables false
set_option linter.unusedSimpArgs false

theorem slTrim_last (l : List Sl) : slLast (slTrim l) = true := by
  unfold slLast slTrim
  rw [List.getLast?_reverse]
  cases h : l.reverse.dropWhile Sl.free with
  | nil => rfl
  | cons a r =>
    have := List.head?_dropWhile_not (p := Sl.free) (l := l.reverse)
    rw [h] at this
    simp [Sl.free] at this ⊢
    exact this
theorem slTrim_of_last {l : List Sl} (h : slLast l = true) : slTrim l = l := by
  unfold slLast at h
  cases hl : l.getLast? with
  | none => have : l = [] := by simpa using hl
            subst this; rfl
  | some x =>
    rw [hl] at h
    obtain ⟨r, rfl⟩ : ∃ r, l = r ++ [x] := by
      have hne : l ≠ [] := by intro e; subst e; cases hl
      have hx : l.getLast hne = x := by
        rw [List.getLast?_eq_some_getLast hne] at hl
        exact Option.some.inj hl
      exact ⟨l.dropLast, by rw [← hx]; exact (List.dropLast_concat_getLast hne).symm⟩
    exact slTrim_used r x h
theorem any_set_pad {l : List Sl} (h : l.any Sl.odd = false) (k : Nat) {x : Sl} (hx : x.odd = false) : ((slPad l (k + 1)).set k x).any Sl.odd = false := by
  rw [List.any_eq_false]
  intro y hy
  rcases List.mem_or_eq_of_mem_set hy with h1 | h1
  · unfold slPad at h1
    rcases List.mem_append.1 h1 with h2 | h2
    · exact List.any_eq_false.1 h y h2
    · rw [List.eq_of_mem_replicate h2]; decide +kernel
  · rw [h1]; simpa using hx
theorem putL_odd {l : List Sl} (h : l.any Sl.odd = false) (k : Nat) {x : Sl} (hx : x.odd = false) : (putL l k x).any Sl.odd = false := by
  rw [List.any_eq_false]
  intro y hy
  exact List.any_eq_false.1 (any_set_pad h k hx) y (slTrim_sub _ y hy)
theorem putL_len (l : List Sl) (k : Nat) (x : Sl) : (putL l k x).length ≤ max l.length (k + 1) := by
  have := slTrim_le ((slPad l (k + 1)).set k x)
  rw [List.length_set, slPad_len] at this
  exact this
/-- What a put leaves can be. -/
theorem putL_good {lsn : Int} {l : List Sl} (h : slGood lsn l = true) {k : Nat} (hk : k < 32) {x : Sl} (hx : x.odd = false) (hs : slSize (putL l k x) ≤ 240) : slGood lsn (putL l k x) = true := by
  obtain ⟨h1, h2, h3, h4, h5⟩ := (slGood_iff lsn l).1 h
  have hl := putL_len l k x
  exact (slGood_iff _ _).2 ⟨h1, by omega, putL_odd h3 k hx, slTrim_last _, hs⟩
/-- A used record is put: nothing is trimmed. -/
theorem putL_used {l : List Sl} (h : slLast l = true) (k : Nat) {x : Sl} (hx : x.u = true) : putL l k x = (slPad l (k + 1)).set k x := by
  refine slTrim_of_last ?_
  unfold slLast
  have hlen : ((slPad l (k + 1)).set k x).length = max l.length (k + 1) := by rw [List.length_set, slPad_len]
  rw [List.getLast?_eq_getElem?, hlen, List.getElem?_set]
  by_cases e : k = max l.length (k + 1) - 1
  · rw [if_pos e, if_pos (by rw [slPad_len]; omega)]
    exact hx
  · rw [if_neg e]
    have hle : k + 1 < l.length := by omega
    have e2 : slPad l (k + 1) = l := by unfold slPad; rw [show k + 1 - l.length = 0 by omega]; simp
    rw [e2, show max l.length (k + 1) - 1 = l.length - 1 by omega, ← List.getLast?_eq_getElem?]
    exact h
/-- How many bytes the data of all slots but one take. -/
def slOther (k : Nat) : Nat → List Sl → Nat
  | _, [] => 0
  | i, x :: l => (if i = k then 0 else x.d.size) + slOther k (i + 1) l
theorem slOther_append (k : Nat) : ∀ (i : Nat) (a b : List Sl), slOther k i (a ++ b) = slOther k i a + slOther k (i + a.length) b
  | i, [], b => by simp [slOther]
  | i, x :: a, b => by
    simp only [List.cons_append, slOther, slOther_append k (i + 1) a b, List.length_cons]
    rw [show i + 1 + a.length = i + (a.length + 1) by omega]; omega
theorem slOther_snoc (k : Nat) (l : List Sl) (j : Nat) (x : Sl) (h : l[j]? = some x) : slOther k 0 (l.take (j + 1)) = slOther k 0 (l.take j) + (if j = k then 0 else x.d.size) := by
  have hj := (List.getElem?_eq_some_iff.1 h).1
  rw [List.take_add_one, h, slOther_append]
  simp only [Option.toList, slOther, List.length_take, Nat.zero_add, Nat.add_zero]
  rw [Nat.min_eq_left (by omega)]
theorem slSum_set (k : Nat) : ∀ (i : Nat) (l : List Sl) (x : Sl), i ≤ k → k < i + l.length → slSum (l.set (k - i) x) = l.length + x.d.size + slOther k i l
  | i, [], x, h1, h2 => by simp at h2; omega
  | i, a :: l, x, h1, h2 => by
    by_cases e : i = k
    · subst e
      rw [Nat.sub_self, List.set_cons_zero]
      have e1 : slSum (x :: l) = (1 + x.d.size) + slSum l := rfl
      have : ∀ (j : Nat) (l : List Sl), i < j → slOther i j l = slSum l - l.length ∧ l.length ≤ slSum l := by
        intro j l
        induction l generalizing j with
        | nil => intro _; simp [slOther, slSum]
        | cons b l ih =>
          intro hj
          obtain ⟨a1, a2⟩ := ih (j + 1) (by omega)
          have e2 : slSum (b :: l) = (1 + b.d.size) + slSum l := rfl
          simp only [slOther, e2, List.length_cons]
          rw [if_neg (by omega), a1]; omega
      obtain ⟨b1, b2⟩ := this (i + 1) l (by omega)
      simp only [slOther, e1, List.length_cons]
      rw [if_pos trivial, b1]; omega
    · obtain ⟨j, hj⟩ : ∃ j, k - i = j + 1 := ⟨k - i - 1, by omega⟩
      have ih := slSum_set k (i + 1) l x (by omega) (by simp at h2; omega)
      rw [show k - (i + 1) = j by omega] at ih
      rw [hj, List.set_cons_succ]
      have e1 : slSum (a :: l.set j x) = (1 + a.d.size) + slSum (l.set j x) := rfl
      simp only [e1, slOther, List.length_cons, ih]
      rw [if_neg e]; omega
theorem slOther_pad (k : Nat) (l : List Sl) (m : Nat) : slOther k 0 (slPad l m) = slOther k 0 l := by
  unfold slPad
  rw [slOther_append]
  have : ∀ (n i : Nat), slOther k i (List.replicate n Sl.none) = 0 := by
    intro n
    induction n with
    | zero => intro i; rfl
    | succ n ih =>
      intro i
      rw [List.replicate_succ]
      simp only [slOther, ih]
      have : Sl.none.d.size = 0 := rfl
      rw [this]; simp
  rw [this]; rfl
/-- The size of what a put of a record leaves. -/
theorem putL_size {l : List Sl} (h : slLast l = true) (k : Nat) {x : Sl} (hx : x.u = true) : slSize (putL l k x) = 9 + max l.length (k + 1) + x.d.size + slOther k 0 l := by
  rw [putL_used h k hx]
  unfold slSize
  have := slSum_set k 0 (slPad l (k + 1)) x (by omega) (by rw [slPad_len]; omega)
  rw [Nat.sub_zero] at this
  rw [this, slPad_len, slOther_pad]; omega
theorem slOther_le {l : List Sl} (k m : Nat) (h : ∀ x ∈ l, x.d.size ≤ m) : ∀ i, slOther k i l ≤ l.length * m := by
  induction l with
  | nil => intro i; simp [slOther]
  | cons a l ih =>
    intro i
    have h1 := h a (by simp)
    have h2 := ih (fun x hx => h x (by simp [hx])) (i + 1)
    simp only [slOther, List.length_cons, Nat.add_mul, Nat.one_mul]
    split <;> omega
theorem free_none {x : Sl} (h : x.odd = false) (hu : x.u = false) : x = Sl.none := by
  obtain ⟨u, d⟩ := x
  simp only at hu
  subst hu
  simp [Sl.odd] at h
  have h2 := h.1
  rw [ByteArray.toList_eq] at h2
  have : d = ⟨#[]⟩ := by apply ByteArray.ext; apply Array.ext'; exact h2
  rw [this]; rfl
theorem slTrim_parts (l : List Sl) : ∃ r, l = slTrim l ++ r ∧ ∀ x ∈ r, x.u = false := by
  refine ⟨(l.reverse.takeWhile Sl.free).reverse, ?_, ?_⟩
  · unfold slTrim
    rw [← List.reverse_append, List.takeWhile_append_dropWhile, List.reverse_reverse]
  · intro x hx
    have h : x ∈ l.reverse.takeWhile Sl.free := by simpa using hx
    have := List.all_takeWhile (p := Sl.free) (l := l.reverse)
    rw [List.all_eq_true] at this
    have h2 := this x h
    simpa [Sl.free] using h2
theorem trim_getD {l : List Sl} (h : l.any Sl.odd = false) (j : Nat) : (slTrim l).getD j Sl.none = l.getD j Sl.none := by
  obtain ⟨r, hr, hf⟩ := slTrim_parts l
  have hl : l.getD j Sl.none = (slTrim l ++ r).getD j Sl.none := by rw [← hr]
  rw [hl]
  simp only [List.getD_eq_getElem?_getD, List.getElem?_append]
  by_cases hj : j < (slTrim l).length
  · rw [if_pos hj]
  · rw [if_neg hj, List.getElem?_eq_none (by omega)]
    cases hx : r[j - (slTrim l).length]? with
    | none => rfl
    | some y =>
      have hy := List.mem_of_getElem? hx
      have hyl : y ∈ l := by rw [hr]; exact List.mem_append.2 (.inr hy)
      have := List.any_eq_false.1 h y hyl
      exact (free_none (by simpa using this) (hf y hy)).symm
theorem pad_getD (l : List Sl) (m j : Nat) : (slPad l m).getD j Sl.none = l.getD j Sl.none := by
  unfold slPad
  simp only [List.getD_eq_getElem?_getD, List.getElem?_append]
  by_cases hj : j < l.length
  · rw [if_pos hj]
  · rw [if_neg hj, List.getElem?_eq_none (Nat.le_of_not_lt hj), List.getElem?_replicate]
    split <;> rfl
/-- What is at a slot behind a put. -/
theorem putL_getD {l : List Sl} (h : l.any Sl.odd = false) (k j : Nat) {x : Sl} (hx : x.odd = false) : (putL l k x).getD j Sl.none = if j = k then x else l.getD j Sl.none := by
  unfold putL
  rw [trim_getD (any_set_pad h k hx)]
  simp only [List.getD_eq_getElem?_getD, List.getElem?_set]
  by_cases e : k = j
  · subst e
    rw [if_pos rfl, if_pos (by rw [slPad_len]; omega), if_pos rfl]
    rfl
  · rw [if_neg e, if_neg (fun h => e h.symm)]
    have := pad_getD l (k + 1) j
    simpa [List.getD_eq_getElem?_getD] using this
theorem slAt_getD {lsn : Int} {l : List Sl} (h : slGood lsn l = true) (j : Nat) : slAt lsn l j = l.getD j Sl.none := by
  by_cases hj : j < l.length
  · rw [slAt_in h (List.getElem?_eq_getElem hj)]
    simp [List.getD_eq_getElem?_getD, hj]
  · rw [slAt_out (.inr (.inr (by omega)))]
    simp [List.getD_eq_getElem?_getD, List.getElem?_eq_none (Nat.le_of_not_lt hj)]
/-- Images are told apart by their slots. -/
theorem sl_ext {a b : List Sl} (ha : slLast a = true) (hb : slLast b = true) (h : ∀ j, a.getD j Sl.none = b.getD j Sl.none) : a = b := by
  have key : ∀ {a b : List Sl}, slLast b = true → (∀ j, a.getD j Sl.none = b.getD j Sl.none) → b.length ≤ a.length := by
    intro a b hb h
    rcases Nat.lt_or_ge a.length b.length with hlt | hge
    · have h1 := h (b.length - 1)
      rw [List.getD_eq_getElem?_getD, List.getD_eq_getElem?_getD, List.getElem?_eq_none (by omega)] at h1
      have hbl : b[b.length - 1]? = some (b[b.length - 1]'(by omega)) := List.getElem?_eq_getElem _
      have h2 := last_here (n := b.length - 1) (by omega) hbl
      rw [hbl] at h1
      have h3 : Sl.none = b[b.length - 1]'(by omega) := h1
      rw [hb, ← h3] at h2
      cases h2
    · exact hge
  have l1 := key hb h
  have l2 := key ha (fun j => (h j).symm)
  apply List.ext_getElem (by omega)
  intro i h1 h2
  have := h i
  simpa [List.getD_eq_getElem?_getD, h1, h2] using this
/-- Put back as it was, an image is the same. -/
theorem putL_back {lsn : Int} {l : List Sl} (h : slGood lsn l = true) (k : Nat) {x : Sl} (hx : x.odd = false) : putL (putL l k x) k (l.getD k Sl.none) = l := by
  obtain ⟨h1, h2, h3, h4, h5⟩ := (slGood_iff lsn l).1 h
  have hy : (l.getD k Sl.none).odd = false := by
    rw [List.getD_eq_getElem?_getD]
    cases hk : l[k]? with
    | none => decide +kernel
    | some y => have := List.any_eq_false.1 h3 y (List.mem_of_getElem? hk); simpa using this
  refine sl_ext (slTrim_last _) h4 (fun j => ?_)
  rw [putL_getD (putL_odd h3 k hx) k j hy, putL_getD h3 k j hx]
  by_cases e : j = k
  · rw [if_pos e, e]
  · rw [if_neg e, if_neg e]
theorem odd_of_put {lsn : Int} {l : List Sl} {k : Int} {x : Sl} (h : putBad lsn l k x = false) (hl : ¬ 200 < x.d.size) : x.odd = false := by
  obtain ⟨_, _, _, h4⟩ := putBad_not h
  unfold Sl.odd
  rcases h4 with h4 | h4
  · simp [h4]; omega
  · simp [h4]; omega
/-- When a put is made. -/
theorem putRes_ok {lsn : Int} {l : List Sl} {k : Int} {x : Sl} (h : (putRes lsn l k x).2.2 = 0) : slGood lsn l = true ∧ 0 ≤ k ∧ k < 32 ∧ x.odd = false ∧ slSize (putL l k.toNat x) ≤ 240 ∧ putRes lsn l k x = (lsn, putL l k.toNat x, 0) := by
  unfold putRes at *
  cases hb : putBad lsn l k x with
  | true => rw [hb, if_pos rfl] at h; cases h
  | false =>
    rw [hb, if_neg (by simp)] at h
    rw [if_neg (by simp)]
    by_cases hl : 200 < x.d.size
    · rw [if_pos hl] at h; cases h
    · rw [if_neg hl] at h ⊢
      by_cases hf : 240 < slSize (putL l k.toNat x)
      · rw [if_pos hf] at h; cases h
      · obtain ⟨a1, a2, a3, a4⟩ := putBad_not hb
        exact ⟨a1, by omega, by omega, odd_of_put hb hl, by omega, by rw [if_neg hf]⟩
theorem putRes_not {lsn : Int} {l : List Sl} {k : Int} {x : Sl} (h : (putRes lsn l k x).2.2 ≠ 0) : (putRes lsn l k x).1 = 0 ∧ (putRes lsn l k x).2.1 = [] := by
  unfold putRes at *
  split
  · exact ⟨rfl, rfl⟩
  · rename_i h1
    rw [if_neg h1] at h
    split
    · exact ⟨rfl, rfl⟩
    · rename_i h2
      rw [if_neg h2] at h
      split
      · exact ⟨rfl, rfl⟩
      · rename_i h3
        rw [if_neg h3] at h
        exact absurd rfl h
theorem putRes_go {lsn : Int} {l : List Sl} {k : Nat} {x : Sl} (h : slGood lsn l = true) (hk : k < 32) (hx : x.odd = false) : putRes lsn l k x = if 240 < slSize (putL l k x) then (0, [], 22) else (lsn, putL l k x, 0) := by
  have hs := odd_size hx
  have hb : putBad lsn l k x = false := by
    unfold putBad
    have h1 : ¬ ((k : Int) < 0) := by omega
    have h2 : ¬ (32 ≤ (k : Int)) := by omega
    simp [Sl.odd] at hx
    simp [h, h1, h2]
    exact hx.1
  unfold putRes
  rw [hb, if_neg (by simp), if_neg (by omega), Int.toNat_natCast]
end Go.Proofs.Ytklmoigpalhlmaa
