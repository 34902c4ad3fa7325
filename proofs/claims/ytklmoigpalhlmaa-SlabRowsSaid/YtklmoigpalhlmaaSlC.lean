/-
  The reference: which images can be, and their size.
-/
import Derived.Test.YtklmoigpalhlmaaSlB
namespace Go.Proofs.Ytklmoigpalhlmaa
open Go.RowKit
set_option linter.unusedVariables false

theorem good_rfSize {lsn : Int} {l : List Sl} (h : slGood lsn l = true) : rfSize l = slSize l ∧ slSize l ≤ 240 := by
  obtain ⟨_, h2, h3, _, h5⟩ := (slGood_iff lsn l).1 h
  exact ⟨rfSize_eq l (any_odd_sizes h3) (by omega), h5⟩
theorem odd_not {x : Sl} {l : List Sl} {k : Nat} (hx : l[k]? = some x) (h : x.odd = true) (lsn : Int) : slGood lsn l = false := by
  have : l.any Sl.odd = true := List.any_eq_true.2 ⟨x, List.mem_of_getElem? hx, h⟩
  simp [slGood, this]
theorem rfSize_lt (l : List Sl) : rfSize l ≤ 100000 := by
  unfold rfSize
  have h := rfSum_le (l.take 33)
  have h2 : (l.take 33).length ≤ 33 := by simp; omega
  have h3 : (l.take 33).length * 1001 ≤ 33 * 1001 := Nat.mul_le_mul_right _ h2
  omega
set_option maxRecDepth 100000 in
set_option maxHeartbeats 2000000 in
theorem rgood_any (lsn : Int) (A : Option Addr) (n c : Nat) (l : List Sl) (w : World) (h : IsSlots w A n c l) :
    Calls Try.prog 17 #[.agg #[.int .i64 lsn, .slice A n c]] w fun r w' => r = .returned (.bool (slGood lsn l)) ∧ Below w.heap.size w w' := by
  have hcap := h.cap
  have hmost := h.most
  have hlen := h.len
  obtain ⟨G, hG⟩ : ∃ G, slGood lsn l = G := ⟨_, rfl⟩
  rw [hG]
  have HG := Lib.hid hG
  clear hG
  have H := Lib.hid h
  clear h
  by_cases l1 : lsn < 0
  · go_enter Try.func17, Try.ntmps17
    go_wp2_with fail
    go_ret
    exact ⟨by rw [← HG.out]; simp [slGood]; omega, bnew _ _⟩
  by_cases l2 : 1099511627776 < lsn
  · go_enter Try.func17, Try.ntmps17
    go_wp2_with fail
    go_ret
    exact ⟨by rw [← HG.out]; simp [slGood]; omega, bnew _ _⟩
  by_cases l3 : 32 < n
  · go_enter Try.func17, Try.ntmps17
    go_wp2_with fail
    go_ret
    exact ⟨by rw [← HG.out]; simp [slGood]; omega, bnew _ _⟩
  have CS := Lib.hid (fun w h => refSize_any lsn A n c l w h)
  obtain ⟨S, hS⟩ : ∃ S, rfSize l = S := ⟨_, rfl⟩
  rw [hS] at CS
  have HS := Lib.hid hS
  have hS2 : S ≤ 100000 := by rw [← hS]; exact rfSize_lt l
  clear hS
  by_cases l4 : 240 < S
  · have HR : Hid (G = false) := Lib.hid (by
      rw [← HG.out]
      cases hg : slGood lsn l with
      | false => rfl
      | true => have := good_rfSize hg; have := HS.out; omega)
    have l5 : (240 : Int) < (S : Int) := by omega
    go_enter Try.func17, Try.ntmps17
    go_wp2_with fail
    refine (CS.out _ (H.out.alloc _)).mono ?_
    rintro e w1 ⟨rfl, b1⟩
    go_wp2_with fail
    go_ret
    exact ⟨by rw [HR.out]; rfl, bup (bnew _ _) b1⟩
  have l5 : (S : Int) ≤ 240 := by omega
  go_enter Try.func17, Try.ntmps17
  go_wp2_with fail
  refine (CS.out _ (H.out.alloc _)).mono ?_
  rintro e w1 ⟨rfl, b1⟩
  have K1 := Lib.hid ((Has.new w _).below b1)
  have B1 := Lib.hid (bup (bnew w _) b1)
  have H1 := Lib.hid ((H.out.alloc _).below b1)
  clear b1
  go_wp2_with fail
  go_loopw [3] (fun i wr => ∃ k : Nat, k ≤ n ∧ i = .int .i64 k ∧ Hid ((l.take k).any Sl.odd = false) ∧ Below w1.heap.size w1 wr) (fun i _ => n - (intOf i).toNat)
  case atStart => exact ⟨0, by omega, rfl, Lib.hid rfl, Below.refl _ _⟩
  case round =>
    obtain ⟨k, hk, rfl, Hn, hb⟩ := hrel
    have k1 := (K1.out.below hb).cell 1 _ rfl
    by_cases hlt : k < n
    · obtain ⟨b, off, x, rfl, hx, hbl, h1, h2, hs⟩ := (H1.out.below hb).at hlt
      have HX := Lib.hid (fun hp => odd_not hx hp lsn)
      have HY := Lib.hid (fun hp => any_take_snoc hx Hn.out hp)
      have Hb := Lib.hid hb
      have hd : x.odd = ((!x.u && !x.d.toList.isEmpty) || decide (200 < x.d.size)) := rfl
      clear hx hb
      obtain ⟨u, d⟩ := x
      simp only at h1 h2 hs hd
      have HD := Lib.hid hd
      clear hd
      by_cases hz : 200 < d.size <;> by_cases he : d.toList = [] <;> cases u <;>
      · go_wp2_with fail
        all_goals
          first
          | (go_ret
             refine ⟨?_, bup B1.out (bup Hb.out (bnew _ _))⟩
             rw [← HG.out, HX.out (by rw [HD.out]; simp [hz, he])]; rfl)
          | (go_roundw
             case rel => exact ⟨k + 1, by omega, by go_num, HY.out (by rw [HD.out]; simp [hz, he]), bup Hb.out (bnew _ _)⟩
             case measure => simp [intOf]; omega)
    · have hkn : l.take k = l := List.take_of_length_le (by omega)
      rw [hkn] at Hn
      have Hb := Lib.hid hb
      clear hkn hb
      have HX : Hid (slGood lsn l = slLast l) := Lib.hid (by
        have h5 := rfSize_eq l (any_odd_sizes Hn.out) (by omega)
        have h6 := HS.out
        unfold slGood
        rw [Hn.out, decide_eq_true (p := 0 ≤ lsn ∧ lsn ≤ 1099511627776) (by omega), decide_eq_true (p := l.length ≤ 32) (by omega), decide_eq_true (p := slSize l ≤ 240) (by omega)]
        simp)
      by_cases n0 : n = 0
      · subst n0
        have hl0 : l = [] := List.eq_nil_of_length_eq_zero hlen
        have HL : Hid (slLast l = true) := Lib.hid (by rw [hl0]; rfl)
        clear hl0
        go_wp2_with fail
        go_ret
        exact ⟨by rw [← HG.out, HX.out, HL.out]; rfl, bup B1.out Hb.out⟩
      · obtain ⟨m, rfl⟩ : ∃ m, n = m + 1 := ⟨n - 1, by omega⟩
        obtain ⟨b, off, x, rfl, hx, hbl, h1, h2, hs⟩ := (H1.out.below Hb.out).at (show m < m + 1 by omega)
        have HL := Lib.hid (last_here hlen hx)
        clear hx
        go_wp2_with fail
        go_ret
        exact ⟨by rw [← HG.out, HX.out, HL.out]; rfl, bup B1.out Hb.out⟩
set_option maxRecDepth 100000 in
set_option maxHeartbeats 1000000 in
theorem rsize_any (lsn : Int) (A : Option Addr) (n c : Nat) (l : List Sl) (w : World) (h : IsSlots w A n c l) :
    Calls Try.prog 19 #[.agg #[.int .i64 lsn, .slice A n c]] w fun r w' => r = .returned (.int .i64 (pgSize lsn l : Nat)) ∧ Below w.heap.size w w' := by
  have CG := Lib.hid (fun w h => rgood_any lsn A n c l w h)
  cases hg : slGood lsn l with
  | false =>
    have HR : Hid (pgSize lsn l = 0) := Lib.hid (by simp [pgSize, hg])
    rw [hg] at CG
    have H := Lib.hid h
    clear h hg
    go_enter Try.func19, Try.ntmps19
    go_wp2_with fail
    refine (CG.out _ (H.out.alloc _)).mono ?_
    rintro e w1 ⟨rfl, b1⟩
    go_wp2_with fail
    go_ret
    exact ⟨by rw [HR.out]; rfl, bup (bnew _ _) b1⟩
  | true =>
    have hg2 := good_rfSize hg
    have CS := Lib.hid (fun w h => refSize_any lsn A n c l w h)
    have HR : Hid (pgSize lsn l = rfSize l) := Lib.hid (by simp [pgSize, hg, hg2.1])
    rw [hg] at CG
    have H := Lib.hid h
    clear h hg hg2
    go_enter Try.func19, Try.ntmps19
    go_wp2_with fail
    refine (CG.out _ (H.out.alloc _)).mono ?_
    rintro e w1 ⟨rfl, b1⟩
    have H1 := Lib.hid ((H.out.alloc _).below b1)
    have K := (Has.new w _).below b1
    have k0 := K.cell 0 _ rfl
    have k1 := K.cell 1 _ rfl
    go_wp2_with fail
    refine (CS.out _ H1.out).mono ?_
    rintro e w2 ⟨rfl, b2⟩
    go_wp2_with fail
    go_ret
    exact ⟨by rw [HR.out]; rfl, bup (bup (bnew _ _) b1) b2⟩
/-- What is more than a statement of layer 3 asks. -/
def slGreat (l : List Sl) : Bool := decide (100 < l.length) || l.any fun x => decide (4096 < x.d.size)
end Go.Proofs.Ytklmoigpalhlmaa
