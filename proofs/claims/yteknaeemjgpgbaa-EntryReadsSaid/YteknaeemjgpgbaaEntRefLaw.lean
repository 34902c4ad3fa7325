/-
  The reference's reading of an entry, in plain words, is the same.
-/
import Derived.Test.YteknaeemjgpgbaaEntLaw
namespace Go.Proofs.Yteknaeemjgpgbaa
open Go.RowKit Go.Sort NibPure

/-- So many numbers that bytes begin with. -/
def rdN (s : List UInt8) : Nat → Option (List Int × List UInt8)
  | 0 => some ([], s)
  | n + 1 =>
    match rdN s n with
    | none => none
    | some (zs, u) =>
      match dec u with
      | none => none
      | some (z, v) => some (zs ++ [z], v)
theorem rdN_len {s : List UInt8} {n : Nat} {zs : List Int} {u : List UInt8} (h : rdN s n = some (zs, u)) : zs.length = n ∧ u.length ≤ s.length := by
  induction n generalizing zs u with
  | zero => simp [rdN] at h; obtain ⟨rfl, rfl⟩ := h; exact ⟨rfl, Nat.le_refl _⟩
  | succ n ih =>
    unfold rdN at h
    cases h1 : rdN s n with
    | none => rw [h1] at h; cases h
    | some p =>
      obtain ⟨ys, v⟩ := p
      rw [h1] at h
      simp only at h
      cases h2 : dec v with
      | none => rw [h2] at h; cases h
      | some q =>
        obtain ⟨z, t⟩ := q
        rw [h2] at h
        simp at h
        obtain ⟨rfl, rfl⟩ := h
        obtain ⟨a, b⟩ := ih h1
        have := dec_len h2
        exact ⟨by simp [a], by omega⟩
theorem rdN_step {s : List UInt8} {n : Nat} {zs : List Int} {u : List UInt8} (h : rdN s n = some (zs, u)) {z : Int} {v : List UInt8} (hd : dec u = some (z, v)) : rdN s (n + 1) = some (zs ++ [z], v) := by
  unfold rdN
  rw [h]
  simp only
  rw [hd]
theorem rdN_stop {s : List UInt8} {n : Nat} {zs : List Int} {u : List UInt8} (h : rdN s n = some (zs, u)) (hd : dec u = none) : rdN s (n + 1) = none := by
  unfold rdN
  rw [h]
  simp only
  rw [hd]
theorem rdN_mono {s : List UInt8} {n m : Nat} (h : rdN s n = none) (hm : n ≤ m) : rdN s m = none := by
  induction m with
  | zero => rw [show n = 0 by omega] at h; exact h
  | succ m ih =>
    by_cases e : n = m + 1
    · rw [← e]; exact h
    · unfold rdN
      rw [ih (by omega)]
theorem stN_succ (s : List UInt8) (n : Nat) : stN s (n + 1) = ((stN s n).1.setNum n (takeI (stN s n).2.1).1, (takeI (stN s n).2.1).2.1, (stN s n).2.2 || !(takeI (stN s n).2.1).2.2) := rfl
theorem rdN_stN (s : List UInt8) (n : Nat) (hn : n ≤ 9) : rdN s n = if (stN s n).2.2 = true then none else some ((List.range n).map (stN s n).1.num, (stN s n).2.1) := by
  induction n with
  | zero => rfl
  | succ n ih =>
    unfold rdN
    rw [ih (by omega), stN_succ]
    by_cases hb : (stN s n).2.2 = true
    · simp [hb]
    · rw [if_neg hb]
      simp only
      unfold takeI
      cases hd : dec (stN s n).2.1 with
      | none => simp
      | some q =>
        obtain ⟨z, v⟩ := q
        simp only [hb]
        rw [if_neg (by simp)]
        congr 2
        rw [List.range_succ, List.map_append]
        congr 1
        · apply List.map_congr_left
          intro i hi
          have := List.mem_range.1 hi
          rw [num_setNum _ _ _ (by omega) (by omega), if_neg (by omega)]
        · simp [num_setNum _ n n (by omega) (by omega)]
theorem takeSlot_bad (r : List UInt8) : (takeSlot r true).2.2.2 = true := by
  unfold takeSlot
  split
  · rfl
  · split <;> rfl
theorem decE_bad {s : List UInt8} (h : (stN s (stN s 1).1.many).2.2 = true) : decE s = none := by
  unfold decE stEnd
  simp only
  rw [h]
  rw [if_pos]
  left
  split
  · cases hb : (takeSlot (stN s (stN s 1).1.many).2.1 true).2.2.2 with
    | false => rw [takeSlot_bad] at hb; cases hb
    | true => exact takeSlot_bad _
  · exact h
/-- What the reference takes for a slot: used, the data, the rest, whether there was one. -/
def rTake (r : List UInt8) : Bool × List UInt8 × List UInt8 × Bool :=
  if (takeI r).2.2 = false ∨ (takeI r).1 = 0 then (false, [], (takeI r).2.1, (takeI r).2.2)
  else (true, (takeS (takeI r).2.1).1, (takeS (takeI r).2.1).2.1, (takeS (takeI r).2.1).2.2 && decide ((takeI r).1 = 1))
theorem takeI_zero (r : List UInt8) (h : (takeI r).1 ≠ 0) : (takeI r).2.2 = true := by
  unfold takeI at *
  cases hd : dec r with
  | none => rw [hd] at h; exact absurd rfl h
  | some p => rfl
theorem rTake_ok (r : List UInt8) : (takeSlot r false).2.2.2 = !(rTake r).2.2.2 := by
  have h := takeI_zero r
  unfold takeSlot rTake
  generalize takeI r = y at *
  obtain ⟨n, r1, ok⟩ := y
  simp only at h ⊢
  by_cases h0 : n = 0
  · simp [h0]
  · rw [h h0]
    by_cases h1 : n = 1
    · subst h1; simp
    · simp [h0, h1]
theorem rTake_same {r : List UInt8} (hr : (rTake r).2.2.2 = true) : takeSlot r false = ((rTake r).1, (rTake r).2.1, (rTake r).2.2.1, false) := by
  have h := takeI_zero r
  unfold rTake at *
  unfold takeSlot
  generalize takeI r = y at *
  obtain ⟨n, r1, ok⟩ := y
  simp only at h hr ⊢
  by_cases h0 : n = 0
  · subst h0
    simp at hr ⊢
    simp [hr]
  · have hok := h h0
    subst hok
    rw [if_neg (by simp [h0])] at hr ⊢
    simp only [Bool.and_eq_true, decide_eq_true_eq] at hr
    obtain ⟨a, rfl⟩ := hr
    simp [a]
def entOf (zs : List Int) : Ent := ⟨zs.getD 0 0, zs.getD 1 0, zs.getD 2 0, zs.getD 3 0, zs.getD 4 0, zs.getD 5 0, zs.getD 6 0, zs.getD 7 0, false, ⟨#[]⟩, false, ⟨#[]⟩, zs.getD 8 0⟩
theorem setNum_rest (x : Ent) (i j : Nat) (hi : i < 9) (hij : j < i) (v : Int) (h : x.num i = 0) : (x.setNum j v).num i = 0 := by
  rw [num_setNum x i j hi (by omega), if_neg (by omega), h]
theorem stN_rest (s : List UInt8) (n i : Nat) (hi : i < 9) (hn : n ≤ i) : (stN s n).1.num i = 0 := by
  induction n with
  | zero =>
    match i, hi with
    | 0, _ => rfl | 1, _ => rfl | 2, _ => rfl | 3, _ => rfl | 4, _ => rfl | 5, _ => rfl | 6, _ => rfl | 7, _ => rfl | 8, _ => rfl
  | succ n ih => rw [stN_succ]; exact setNum_rest _ _ _ hi (by omega) _ (ih (by omega))
theorem setNum_slots (x : Ent) (j : Nat) (v : Int) : (x.setNum j v).wu = x.wu ∧ (x.setNum j v).wd = x.wd ∧ (x.setNum j v).iu = x.iu ∧ (x.setNum j v).ix = x.ix := by
  match j with
  | 0 => exact ⟨rfl, rfl, rfl, rfl⟩ | 1 => exact ⟨rfl, rfl, rfl, rfl⟩ | 2 => exact ⟨rfl, rfl, rfl, rfl⟩ | 3 => exact ⟨rfl, rfl, rfl, rfl⟩ | 4 => exact ⟨rfl, rfl, rfl, rfl⟩
  | 5 => exact ⟨rfl, rfl, rfl, rfl⟩ | 6 => exact ⟨rfl, rfl, rfl, rfl⟩ | 7 => exact ⟨rfl, rfl, rfl, rfl⟩ | _ + 8 => exact ⟨rfl, rfl, rfl, rfl⟩
theorem stN_slots (s : List UInt8) (n : Nat) : (stN s n).1.wu = false ∧ (stN s n).1.wd = ⟨#[]⟩ ∧ (stN s n).1.iu = false ∧ (stN s n).1.ix = ⟨#[]⟩ := by
  induction n with
  | zero => exact ⟨rfl, rfl, rfl, rfl⟩
  | succ n ih =>
    rw [stN_succ]
    obtain ⟨a, b, c, d⟩ := setNum_slots (stN s n).1 n (takeI (stN s n).2.1).1
    exact ⟨a.trans ih.1, b.trans ih.2.1, c.trans ih.2.2.1, d.trans ih.2.2.2⟩
theorem ent_ext {x y : Ent} (h : ∀ i, i < 9 → x.num i = y.num i) (h1 : x.wu = y.wu) (h2 : x.wd = y.wd) (h3 : x.iu = y.iu) (h4 : x.ix = y.ix) : x = y := by
  obtain ⟨k, c, e, n, l, p, pg, sl, wu, wd, iu, ix, nx⟩ := x
  obtain ⟨k', c', e', n', l', p', pg', sl', wu', wd', iu', ix', nx'⟩ := y
  have a0 : k = k' := h 0 (by omega)
  have a1 : c = c' := h 1 (by omega)
  have a2 : e = e' := h 2 (by omega)
  have a3 : n = n' := h 3 (by omega)
  have a4 : l = l' := h 4 (by omega)
  have a5 : p = p' := h 5 (by omega)
  have a6 : pg = pg' := h 6 (by omega)
  have a7 : sl = sl' := h 7 (by omega)
  have a8 : nx = nx' := h 8 (by omega)
  simp only at h1 h2 h3 h4
  subst a0 a1 a2 a3 a4 a5 a6 a7 a8 h1 h2 h3 h4
  rfl
theorem entOf_num (zs : List Int) (i : Nat) (hi : i < 9) : (entOf zs).num i = zs.getD i 0 := by
  match i, hi with
  | 0, _ => rfl | 1, _ => rfl | 2, _ => rfl | 3, _ => rfl | 4, _ => rfl | 5, _ => rfl | 6, _ => rfl | 7, _ => rfl | 8, _ => rfl
theorem entOf_stN (s : List UInt8) (n : Nat) (_ : n ≤ 9) : entOf ((List.range n).map (stN s n).1.num) = (stN s n).1 := by
  obtain ⟨a, b, c, d⟩ := stN_slots s n
  refine ent_ext (fun i hi => ?_) a.symm b.symm c.symm d.symm
  rw [entOf_num _ _ hi]
  by_cases hin : i < n
  · simp [List.getD, hin]
  · rw [stN_rest s n i hi (by omega)]
    simp [List.getD, hin]
def wantOf (k : Int) : Nat := if k = 1 ∨ k = 2 then 9 else 6
theorem many_want (x : Ent) : x.many = wantOf x.kind := rfl
/-- The whole of what the reference reads. -/
def rDec (s : List UInt8) : Option (Ent × List UInt8) :=
  match rdN s (stN s 1).1.many with
  | none => none
  | some (zs, u) =>
    if (stN s 1).1.many = 9 then
      if (rTake u).2.2.2 = false ∨ (rTake (rTake u).2.2.1).2.2.2 = false then none
      else
        let x : Ent := { entOf zs with wu := (rTake u).1, wd := bs (rTake u).2.1, iu := (rTake (rTake u).2.2.1).1, ix := bs (rTake (rTake u).2.2.1).2.1 }
        if x.good = true then some (x, (rTake (rTake u).2.2.1).2.2.1) else none
    else if (entOf zs).good = true then some (entOf zs, u) else none
theorem rDec_eq (s : List UInt8) : rDec s = decE s := by
  have hm := many_le (stN s 1).1
  unfold rDec
  rw [rdN_stN s _ hm.2]
  by_cases hb : (stN s (stN s 1).1.many).2.2 = true
  · rw [if_pos hb, decE_bad hb]
  · rw [if_neg hb]
    simp only
    rw [entOf_stN s _ hm.2]
    have hk : (stN s (stN s 1).1.many).1.kind = (stN s 1).1.kind := by
      rw [show (stN s 1).1.many = ((stN s 1).1.many - 1) + 1 by omega]
      exact stN_kind s _
    have hb' : (stN s (stN s 1).1.many).2.2 = false := by simpa using hb
    unfold decE stEnd
    simp only
    rw [hk, hb']
    by_cases h9 : (stN s 1).1.kind = 1 ∨ (stN s 1).1.kind = 2
    · have hm9 : (stN s 1).1.many = 9 := by unfold Ent.many; rw [if_pos h9]
      rw [if_pos h9, if_pos hm9]
      by_cases h1 : (rTake (stN s (stN s 1).1.many).2.1).2.2.2 = true
      · rw [rTake_same h1]
        simp only
        by_cases h2 : (rTake (rTake (stN s (stN s 1).1.many).2.1).2.2.1).2.2.2 = true
        · rw [if_neg (by rw [h1, h2]; simp), rTake_same h2]
          simp only
          split
          · rename_i hg
            rw [if_neg (by rw [hg]; simp)]
          · rename_i hg
            rw [if_pos (.inr (by simpa using hg))]
        · rw [if_pos (.inr (by simpa using h2)), if_pos]
          left
          have := rTake_ok (rTake (stN s (stN s 1).1.many).2.1).2.2.1
          rw [this]
          simpa using h2
      · rw [if_pos (.inl (by simpa using h1)), if_pos]
        left
        have h3 := rTake_ok (stN s (stN s 1).1.many).2.1
        have h4 : (takeSlot (stN s (stN s 1).1.many).2.1 false).2.2.2 = true := by rw [h3]; simpa using h1
        rw [h4]
        exact takeSlot_bad _
    · have hm9 : ¬ (stN s 1).1.many = 9 := by unfold Ent.many; rw [if_neg h9]; omega
      rw [if_neg h9, if_neg hm9, hb']
      split
      · rename_i hg
        rw [if_neg (by rw [hg]; simp)]
      · rename_i hg
        rw [if_pos (.inr (by simpa using hg))]
end Go.Proofs.Yteknaeemjgpgbaa
