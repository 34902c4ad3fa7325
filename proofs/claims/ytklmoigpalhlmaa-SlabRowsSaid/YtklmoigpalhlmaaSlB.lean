/-
  Which images can be, and their size: both answers.
-/
import Derived.Test.YtklmoigpalhlmaaSlA
namespace Go.Proofs.Ytklmoigpalhlmaa
open Go.RowKit

theorem slots_small {w : World} {A : Option Addr} {n c : Nat} {l : List Sl} (h : IsSlots w A n c l) (hn : n ≤ 100) : slSize l ≤ 4611686018427387904 := by
  have h1 := slSum_le l 140737488351232 h.size
  have h2 := h.len
  have h3 : l.length * (1 + 140737488351232) ≤ 100 * (1 + 140737488351232) := Nat.mul_le_mul_right _ (by omega)
  unfold slSize; omega
theorem last_here {l : List Sl} {n : Nat} {x : Sl} (hl : l.length = n + 1) (hx : l[n]? = some x) : slLast l = x.u := by
  unfold slLast
  rw [List.getLast?_eq_getElem?, hl]
  simp [hx]
set_option maxRecDepth 100000 in
set_option maxHeartbeats 1000000 in
theorem pgood_any (lsn : Int) (A : Option Addr) (n c : Nat) (l : List Sl) (w : World) (h : IsSlots w A n c l) :
    Calls Try.prog 16 #[.agg #[.int .i64 lsn, .slice A n c]] w fun r w' => r = .returned (.bool (slGood lsn l)) ∧ Below w.heap.size w w' := by
  have hcap := h.cap
  have hmost := h.most
  have hlen := h.len
  obtain ⟨G, hG⟩ : ∃ G, slGood lsn l = G := ⟨_, rfl⟩
  rw [hG]
  have HG := Lib.hid hG
  clear hG
  have H := Lib.hid h
  clear h
  by_cases l1 : lsn < 0
  · go_enter Try.func16, Try.ntmps16
    go_wp2_with fail
    go_ret
    exact ⟨by rw [← HG.out]; simp [slGood]; omega, bnew _ _⟩
  by_cases l2 : 1099511627776 < lsn
  · go_enter Try.func16, Try.ntmps16
    go_wp2_with fail
    go_ret
    exact ⟨by rw [← HG.out]; simp [slGood]; omega, bnew _ _⟩
  by_cases l3 : 32 < n
  · go_enter Try.func16, Try.ntmps16
    go_wp2_with fail
    go_ret
    exact ⟨by rw [← HG.out]; simp [slGood]; omega, bnew _ _⟩
  have CO := Lib.hid (fun w h => hasOdd_any A n c l w h)
  have CS := Lib.hid (fun w h => size_any A n c l w h (slots_small H.out (by omega)))
  cases ho : l.any Sl.odd with
  | true =>
    have HR : Hid (G = false) := Lib.hid (by rw [← HG.out]; simp [slGood, ho])
    rw [ho] at CO
    clear ho
    go_enter Try.func16, Try.ntmps16
    go_wp2_with fail
    refine (CO.out _ (H.out.alloc _)).mono ?_
    rintro e w1 ⟨rfl, b1⟩
    go_wp2_with fail
    go_ret
    exact ⟨by rw [HR.out]; rfl, bup (bnew _ _) b1⟩
  | false =>
    rw [ho] at CO
    have Ho := Lib.hid ho
    clear ho
    by_cases n0 : n = 0
    · subst n0
      have hl0 : l = [] := List.eq_nil_of_length_eq_zero hlen
      have hs : slSize l = 9 := by rw [hl0]; rfl
      have HR : Hid (G = true) := Lib.hid (by rw [← HG.out, hl0]; simp [slGood, slLast, slSize, slSum]; omega)
      rw [hs] at CS
      clear hs hl0
      go_enter Try.func16, Try.ntmps16
      go_wp2_with fail
      refine (CO.out _ (H.out.alloc _)).mono ?_
      rintro e w1 ⟨rfl, b1⟩
      have H1 := Lib.hid ((H.out.alloc _).below b1)
      have K := (Has.new w _).below b1
      have k1 := K.cell 1 _ rfl
      go_wp2_with fail
      refine (CS.out _ H1.out).mono ?_
      rintro e w2 ⟨rfl, b2⟩
      go_wp2_with fail
      go_ret
      exact ⟨by rw [HR.out]; rfl, bup (bup (bnew _ _) b1) b2⟩
    · obtain ⟨m, rfl⟩ : ∃ m, n = m + 1 := ⟨n - 1, by omega⟩
      obtain ⟨b, off, x, rfl, hx, hbl, h1, h2, hs⟩ := H.out.at (show m < m + 1 by omega)
      have hlast := last_here hlen hx
      obtain ⟨S, hS⟩ : ∃ S, slSize l = S := ⟨_, rfl⟩
      rw [hS] at CS
      have HR : Hid (G = (x.u && decide ((S : Int) ≤ 240))) := Lib.hid (by
        rw [← HG.out]
        unfold slGood
        rw [Ho.out, hlast, hS, decide_eq_true (p := 0 ≤ lsn ∧ lsn ≤ 1099511627776) (by omega), decide_eq_true (p := l.length ≤ 32) (by omega)]
        simp only [Bool.true_and, Bool.not_false]
        congr 1
        simp only [decide_eq_decide]
        omega)
      clear hx hlast hS
      obtain ⟨u, d⟩ := x
      simp only at h1 h2 hs HR
      cases u with
      | false =>
        go_enter Try.func16, Try.ntmps16
        go_wp2_with fail
        refine (CO.out _ (H.out.alloc _)).mono ?_
        rintro e w1 ⟨rfl, b1⟩
        have H1 := Lib.hid ((H.out.alloc _).below b1)
        have K := (Has.new w _).below b1
        have k1 := K.cell 1 _ rfl
        have k2 := ((bup (bnew w _) b1).cell (p := ⟨b, off + m * 2, none⟩) hbl).trans h1
        go_wp2_with fail
        go_ret
        exact ⟨by rw [HR.out]; rfl, bup (bnew _ _) b1⟩
      | true =>
        go_enter Try.func16, Try.ntmps16
        go_wp2_with fail
        refine (CO.out _ (H.out.alloc _)).mono ?_
        rintro e w1 ⟨rfl, b1⟩
        have H1 := Lib.hid ((H.out.alloc _).below b1)
        have K := (Has.new w _).below b1
        have k1 := K.cell 1 _ rfl
        have k2 := ((bup (bnew w _) b1).cell (p := ⟨b, off + m * 2, none⟩) hbl).trans h1
        go_wp2_with fail
        refine (CS.out _ H1.out).mono ?_
        rintro e w2 ⟨rfl, b2⟩
        go_wp2_with fail
        go_ret
        exact ⟨by rw [HR.out]; rfl, bup (bup (bnew _ _) b1) b2⟩
/-- An image's size; 0 if it can't be. -/
def pgSize (lsn : Int) (l : List Sl) : Nat := if slGood lsn l then slSize l else 0
set_option maxRecDepth 100000 in
set_option maxHeartbeats 1000000 in
theorem psize_any (lsn : Int) (A : Option Addr) (n c : Nat) (l : List Sl) (w : World) (h : IsSlots w A n c l) :
    Calls Try.prog 18 #[.agg #[.int .i64 lsn, .slice A n c]] w fun r w' => r = .returned (.int .i64 (pgSize lsn l : Nat)) ∧ Below w.heap.size w w' := by
  have CG := Lib.hid (fun w h => pgood_any lsn A n c l w h)
  cases hg : slGood lsn l with
  | false =>
    have HR : Hid (pgSize lsn l = 0) := Lib.hid (by simp [pgSize, hg])
    rw [hg] at CG
    have H := Lib.hid h
    clear h hg
    go_enter Try.func18, Try.ntmps18
    go_wp2_with fail
    refine (CG.out _ (H.out.alloc _)).mono ?_
    rintro e w1 ⟨rfl, b1⟩
    go_wp2_with fail
    go_ret
    exact ⟨by rw [HR.out]; rfl, bup (bnew _ _) b1⟩
  | true =>
    have hg2 := (slGood_iff lsn l).1 hg
    have CS := Lib.hid (fun w h => size_any A n c l w h (by omega))
    have HR : Hid (pgSize lsn l = slSize l) := Lib.hid (by simp [pgSize, hg])
    rw [hg] at CG
    have H := Lib.hid h
    clear h hg hg2
    go_enter Try.func18, Try.ntmps18
    go_wp2_with fail
    refine (CG.out _ (H.out.alloc _)).mono ?_
    rintro e w1 ⟨rfl, b1⟩
    have H1 := Lib.hid ((H.out.alloc _).below b1)
    have K := (Has.new w _).below b1
    have k1 := K.cell 1 _ rfl
    go_wp2_with fail
    refine (CS.out _ H1.out).mono ?_
    rintro e w2 ⟨rfl, b2⟩
    go_wp2_with fail
    go_ret
    exact ⟨by rw [HR.out]; rfl, bup (bup (bnew _ _) b1) b2⟩
end Go.Proofs.Ytklmoigpalhlmaa
