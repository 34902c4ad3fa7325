/-
  The plain law of entries done and undone.
-/
import Derived.Test.YtpgeiopknjfdmaaPaF
namespace Go.Proofs.Ytpgeiopknjfdmaa
open Go.RowKit Go.Sort
set_option linter.unusedVariables false
set_option linter.unusedSimpArgs false

theorem redo_at {lsn : Int} {l : List Sl} {x : Ent} (h : (redoR lsn l x).2.2.2 = 0) (j : Nat) : slAt (redoR lsn l x).1 (redoR lsn l x).2.1 j = if (redoR lsn l x).2.2.1 = true ∧ (j : Int) = x.slot then x.is else slAt lsn l j := by
  have hg := redo_good h
  obtain ⟨h1, h2, _, h4⟩ := redo_ok h
  rcases h4 with ⟨_, e⟩ | ⟨_, _, k0, k1, ho, hs, e⟩
  · rw [e]
    simp
  · rw [e] at hg ⊢
    simp only at hg ⊢
    rw [slAt_getD hg, slAt_getD h1, putL_getD ((slGood_iff _ _).1 h1).2.2.1 _ _ ho]
    by_cases hj : j = x.slot.toNat
    · rw [if_pos hj, if_pos ⟨trivial, by omega⟩]
    · rw [if_neg hj, if_neg (by omega)]
theorem pa_getD_odd {l : List Sl} (h : l.any Sl.odd = false) (k : Nat) : (l.getD k Sl.none).odd = false := by
  rw [List.getD_eq_getElem?_getD]
  cases hk : l[k]? with
  | none => decide +kernel
  | some x =>
    have := List.any_eq_false.1 h x (List.mem_of_getElem? hk)
    simpa using this
theorem turn_good {x : Ent} {a : Int} (h : x.good = true) (hk : x.kind = 1) : (x.turn a x.lsn).good = true ↔ (x.lsn < a ∧ a ≤ 1099511627776) := by
  simp only [Ent.good, hk, if_true, Bool.and_eq_true, Ent.lsnB, Ent.prevB, Ent.changeB, Ent.pageB, Ent.placeB, decide_eq_true_eq] at h
  obtain ⟨⟨h1, ⟨h2, h3⟩, h4, h5⟩, ⟨⟨h6, h7⟩, ⟨h8, h9⟩, h10, h11⟩, h12⟩ := h
  have e : (x.turn a x.lsn).known = true := h1
  simp only [Ent.good, e]
  simp only [Ent.turn]
  rw [if_neg (by omega), if_pos trivial]
  simp only [Ent.lsnB, Ent.prevB, Ent.changeB, Ent.nextB, Ent.pageB, Ent.placeB, h10, h11, Bool.and_eq_true, decide_eq_true_eq, true_and, and_true]
  omega
/-- Done and undone: the image is as it was but for the number. -/
theorem redo_turn {lsn : Int} {l : List Sl} {x : Ent} {a : Int} (h : (redoR lsn l x).2.2.2 = 0) (hd : (redoR lsn l x).2.2.1 = true) (hk : x.kind = 1) (ht : (x.turn a x.lsn).good = true) :
    redoR (redoR lsn l x).1 (redoR lsn l x).2.1 (x.turn a x.lsn) = (a, l, true, 0) := by
  have hg := redo_good h
  have hat := redo_at h
  obtain ⟨h1, h2, h3, h4⟩ := redo_ok h
  rcases h4 with ⟨_, e⟩ | ⟨hl, hw, k0, k1, ho, hs, e⟩
  · rw [e] at hd; cases hd
  · rw [e] at hg hat ⊢
    simp only at hg hat ⊢
    have hta := (turn_good h2 hk).1 ht
    have hodd := ((slGood_iff _ _).1 h1).2.2.1
    have hss := hat x.slot.toNat
    rw [if_pos ⟨trivial, by omega⟩, show ((x.slot.toNat : Nat) : Int) = x.slot by omega] at hss
    have hwas : x.was = l.getD x.slot.toNat Sl.none := by
      rw [← hw, ← slAt_getD h1 x.slot.toNat, show ((x.slot.toNat : Nat) : Int) = x.slot by omega]
    have hwo : (x.turn a x.lsn).is.odd = false := by
      show x.was.odd = false
      rw [hwas]; exact pa_getD_odd hodd _
    have hback : putL (putL l x.slot.toNat x.is) x.slot.toNat (x.turn a x.lsn).is = l := by
      show putL (putL l x.slot.toNat x.is) x.slot.toNat x.was = l
      rw [hwas]; exact putL_back h1 _ ho
    unfold redoR
    rw [if_neg (by rw [hg, ht]; simp [Ent.chg, Ent.turn])]
    rw [if_neg (by show ¬ a ≤ x.lsn; omega)]
    rw [if_neg (by rw [show (x.turn a x.lsn).slot = x.slot from rfl, hss]; show ¬ slEq x.is x.is = false; rw [(slEq_iff _ _).2 rfl]; simp)]
    have hp : putRes x.lsn (putL l x.slot.toNat x.is) (x.turn a x.lsn).slot (x.turn a x.lsn).is = (x.lsn, l, 0) := by
      have hgo := putRes_go (lsn := x.lsn) (l := putL l x.slot.toNat x.is) (k := x.slot.toNat) (x := (x.turn a x.lsn).is) hg (by omega) hwo
      rw [show ((x.slot.toNat : Nat) : Int) = x.slot by omega, hback] at hgo
      rw [show (x.turn a x.lsn).slot = x.slot from rfl, hgo, if_neg (by have := ((slGood_iff _ _).1 h1).2.2.2.2; omega)]
    rw [hp]
    simp [Ent.turn]
end Go.Proofs.Ytpgeiopknjfdmaa
