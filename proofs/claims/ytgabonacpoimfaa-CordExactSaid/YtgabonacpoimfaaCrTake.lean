/-
  The reference end's Take, whole; calls on it beside other things.
-/
import Derived.Test.YtgabonacpoimfaaCrTakeG
import Derived.Test.YtgabonacpoimfaaCrSend
import Derived.Test.YtgabonacpoimfaaCrOut
import Derived.Test.YtgabonacpoimfaaCrSame
namespace Go.Proofs.Ytgabonacpoimfaa
open Go.RowKit
set_option linter.unusedVariables false
set_option linter.unusedSimpArgs false
theorem rtake_any {u : Nat} {rl re : Option Nat} {E : En} {w : World} (h : RefAt w u rl re (rfOf E)) (hok : E.ok) (x : Gr) (hg : E.gv ≤ 1000000) (ht : E.tk ≤ 900000) :
    Calls Try.prog 18 #[.pointer (some ⟨u, 0, none⟩), x.val] w (RTakePost u rl re (takeE E x) w) := by
  have htk := hok.tk
  by_cases hr : rightE E x = 0
  · obtain ⟨r1, r2, r3, r4, r5, r6, r7⟩ := right_ok hr
    have hab := ack_above hok hr
    have heb := early_bound hok x hr
    obtain ⟨c, up, ep, sq, ak, bd⟩ := x
    simp only at r1 r2 r3 r4 r5 r6 r7 hab
    subst r1
    obtain ⟨sn, hs⟩ : ∃ sn : Nat, sq = (sn : Int) := ⟨sq.toNat, by omega⟩
    obtain ⟨an, ha⟩ : ∃ an : Nat, ak = (an : Int) := ⟨ak.toNat, by omega⟩
    have hsn : sq.toNat = sn := by omega
    have hY : earlyE E ⟨c, up, E.ep, sq, ak, bd⟩ = earlyT E.ea E.gt sn bd := by
      unfold earlyE earlyT
      simp only [hsn]
      congr 1
      rw [hs]
      simp
    rw [hY] at heb
    have hlen : (rfOf E).L.length = E.op.length := numF_len _ _
    have hmost := hok.most
    have key := rtake_core (u := u) (rl := rl) (re := re) (w := w) (ep := E.ep) (L0 := (rfOf E).L) (gv := E.gv) (gt := E.gt) (ea0 := E.ea) (ow0 := E.ow) h c up sq ak sn an hs ha bd (by omega) (by omega) (fun e => r6 (by omega)) r7 (by omega) (by omega) (by have := heb.2; omega) hg (by omega) heb.1
      ((takeE E ⟨c, up, E.ep, sq, ak, bd⟩).2.1, rfOf (takeE E ⟨c, up, E.ep, sq, ak, bd⟩).1) (fun e => ?_) (fun e => ?_)
    · refine key.mono ?_
      rintro e w' ⟨A, cap, he, h1, h2⟩
      have h0 : (takeE E ⟨c, up, E.ep, sq, ak, bd⟩).2.2 = 0 := by
        unfold takeE
        rw [if_neg (by rw [hr]; simp)]
        split <;> rfl
      exact ⟨A, cap, by rw [h0]; exact he, h1, h2⟩
    · unfold takeE
      rw [if_neg (by rw [hr]; simp), if_pos (by show sq = 0; omega), hab]
      rfl
    · unfold takeE
      rw [if_neg (by rw [hr]; simp), if_neg (by show ¬ sq = 0; omega), hab, hY]
      rfl
  · exact rtake_bad h x hg (by omega) hr
section
variable {F : Nat → Prop} {B : Rsc} (hB : B.Good)
include hB
theorem rsendH (u : Nat) (e : En) (s : ByteArray) (w : World) (hok : e.ok) (hg : e.gv ≤ 1000000) (h : Held F (Star (RefR u (rfOf e)) B) w) :
    Calls Try.prog 12 #[.pointer (some ⟨u, 0, none⟩), .string s] w fun v w' => v = .returned (.int .i64 (sendE e s).2) ∧ Held F (Star (RefR u (rfOf (sendE e s).1)) B) w' ∧ KeptF F w w' := by
  obtain ⟨rl, re, hN, hc⟩ := h.callF hB
  refine (rsend_any hN s hok hg).mono ?_
  rintro v w' ⟨rfl, ho⟩
  exact ⟨rfl, hc _ _ ho⟩
theorem routH (u : Nat) (e : En) (w : World) (hok : e.ok) (hg : e.gv ≤ 1000000) (h : Held F (Star (RefR u (rfOf e)) B) w) :
    Calls Try.prog 16 #[.pointer (some ⟨u, 0, none⟩)] w fun v w' => ∃ A cap, v = .returned (.slice A (outG e).length cap) ∧ RowG 0 w' (.slice A (outG e).length cap) (outG e) ∧ Held F (Star (RefR u (rfOf (outE e))) B) w' ∧ KeptF F w w' := by
  obtain ⟨rl, re, hN, hc⟩ := h.callF hB
  refine (rout_any hN hok hg).mono ?_
  rintro v w' ⟨A, cap, rfl, h1, ho⟩
  exact ⟨A, cap, rfl, h1, hc _ _ ho⟩
theorem rtakeH (u : Nat) (e : En) (x : Gr) (w : World) (hok : e.ok) (hg : e.gv ≤ 1000000) (ht : e.tk ≤ 900000) (h : Held F (Star (RefR u (rfOf e)) B) w) :
    Calls Try.prog 18 #[.pointer (some ⟨u, 0, none⟩), x.val] w fun v w' => ∃ A cap, v = .returned (.tuple #[.slice A (takeE e x).2.1.length cap, .int .i64 (takeE e x).2.2]) ∧ SRow w' (.slice A (takeE e x).2.1.length cap) (takeE e x).2.1 ∧ Held F (Star (RefR u (rfOf (takeE e x).1)) B) w' ∧ KeptF F w w' := by
  obtain ⟨rl, re, hN, hc⟩ := h.callF hB
  refine (rtake_any hN hok x hg ht).mono ?_
  rintro v w' ⟨A, cap, rfl, h1, ho⟩
  exact ⟨A, cap, rfl, h1, hc _ _ ho⟩
end
end Go.Proofs.Ytgabonacpoimfaa
