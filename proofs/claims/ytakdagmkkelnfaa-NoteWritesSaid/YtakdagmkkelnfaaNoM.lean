/-
  Whether two messages are the same, as the document says it.
-/
import Derived.Test.YtakdagmkkelnfaaNoOpen
namespace Go.Proofs.Ytakdagmkkelnfaa
open Go.RowKit Go.Sort NibPure SumPure
set_option linter.unusedVariables false
set_option linter.unusedSimpArgs false
theorem entNeqBin (x y : Ent) (w : World) : (binOp .neq 64 x.val y.val).run Try.prog w = .ok (.bool (!x.eqB y)) w := by
  have h := entEqIn 9997 x y w
  obtain ⟨k, c, e, n, l, p, pg, sl, wu, wd, iu, ix, nx⟩ := x
  obtain ⟨k', c', e', n', l', p', pg', sl', wu', wd', iu', ix', nx'⟩ := y
  simp only [Ent.val, Ent.row] at h ⊢
  rw [run_neq_struct, h]
  rfl
theorem txnNeqBin (c c' e e' n n' : Int) (w : World) : (binOp .neq 26 (.agg #[.int .i64 c, .int .i64 e, .int .i64 n]) (.agg #[.int .i64 c', .int .i64 e', .int .i64 n'])).run Try.prog w = .ok (.bool (!(c == c' && (e == e' && (n == n' && true))))) w := by
  rw [run_neq_struct, txnEqIn 9998 c c' e e' n n' w]
  rfl
noncomputable def sameM (a b : Ms) : Bool := @decide (a = b) (Classical.propDecidable _)
theorem sameM_iff {a b : Ms} : sameM a b = true ↔ a = b := by unfold sameM; exact @decide_eq_true_iff _ (Classical.propDecidable _)

set_option maxHeartbeats 64000000 in
set_option maxRecDepth 100000 in
theorem msame_any (m : Ms) (A : Option Addr) (sn sc : Nat) (B : Option Addr) (en ec : Nat) (m' : Ms) (A' : Option Addr) (sn' sc' : Nat) (B' : Option Addr) (en' ec' : Nat) (w : World) (hS : IsSlots w A sn sc m.sl) (hE : IsEnts w B en ec m.en) (hS' : IsSlots w A' sn' sc' m'.sl) (hE' : IsEnts w B' en' ec' m'.en) :
    Calls Try.prog 12 #[.agg (m.row A sn sc B en ec), .agg (m'.row A' sn' sc' B' en' ec')] w fun r w' => r = .returned (.bool (sameM m m')) ∧ Below w.heap.size w w' := by
  obtain ⟨G, hG⟩ : ∃ G, sameM m m' = G := ⟨_, rfl⟩
  rw [hG]
  have HG : Hid (G = true ↔ m = m') := Lib.hid (by rw [← hG]; exact sameM_iff)
  clear hG
  have l1 := hE.len
  have l2 := hE'.len
  have hcap := hE.cap
  have hmost := hE.most
  have hcap2 := hE'.cap
  have hmost2 := hE'.most
  obtain ⟨k, pg, x, nd, n, tc, te, tn, lsn, sl, el⟩ := m
  obtain ⟨k', pg', x', nd', n', tc', te', tn', lsn', sl', el'⟩ := m'
  simp only at hS hE hS' hE' l1 l2
  have HS := Lib.hid hS
  have HE := Lib.hid hE
  have HS' := Lib.hid hS'
  have HE' := Lib.hid hE'
  clear hS hE hS' hE'
  have HG : Hid (G = true ↔ (k = k' ∧ pg = pg' ∧ x = x' ∧ nd = nd' ∧ n = n' ∧ (tc = tc' ∧ te = te' ∧ tn = tn') ∧ (lsn = lsn' ∧ sl = sl') ∧ el = el')) := Lib.hid (by
    rw [HG.out]
    simp only [Ms.mk.injEq]
    constructor
    · rintro ⟨a, b, c, d, e, f, g, h, i, j, l⟩; exact ⟨a, b, c, d, e, ⟨f, g, h⟩, ⟨i, j⟩, l⟩
    · rintro ⟨a, b, c, d, e, ⟨f, g, h⟩, ⟨i, j⟩, l⟩; exact ⟨a, b, c, d, e, f, g, h, i, j, l⟩)
  obtain ⟨tb, htb⟩ : ∃ tb, (tc == tc' && (te == te' && (tn == tn' && true))) = tb := ⟨_, rfl⟩
  have CT := fun w => txnNeqBin tc tc' te te' tn tn' w
  rw [htb] at CT
  have HT : Hid (tb = true ↔ (tc = tc' ∧ te = te' ∧ tn = tn')) := Lib.hid (by rw [← htb]; simp)
  clear htb
  have CP := Lib.hid (fun w h1 h2 => psame_any lsn A sn sc sl lsn' A' sn' sc' sl' w h1 h2)
  obtain ⟨pb, hpb⟩ : ∃ pb, pgSame lsn sl lsn' sl' = pb := ⟨_, rfl⟩
  rw [hpb] at CP
  have HP : Hid (pb = true ↔ (lsn = lsn' ∧ sl = sl')) := Lib.hid (by rw [← hpb]; exact pgSame_iff _ _ _ _)
  clear hpb
  simp only [Ms.row, msgC]
  go_enter Try.func12, Try.ntmps12
  go_upto_region 1 with (fail)
  generalize hwa : World.alloc _ _ = wa
  have BW : Below w.heap.size w wa := by rw [← hwa]; exact bup (bnew _ _) (bnew _ _)
  have X : Has wa w.heap.size (.cells #[.int .i64 k, .int .i64 pg, .bool x, .bool nd, .int .i64 n, .int .i64 tc, .int .i64 te, .int .i64 tn, .int .i64 lsn, .slice A sn sc, .slice B en ec] 32) := by rw [← hwa]; exact (Has.new _ _).alloc _
  have Y : Has wa (w.heap.size + 1) (.cells #[.int .i64 k', .int .i64 pg', .bool x', .bool nd', .int .i64 n', .int .i64 tc', .int .i64 te', .int .i64 tn', .int .i64 lsn', .slice A' sn' sc', .slice B' en' ec'] 32) := by rw [← hwa]; exact Has.new1 _ _ _
  clear hwa
  replace BW := Lib.hid BW
  replace X := Lib.hid X
  replace Y := Lib.hid Y
  replace HS := Lib.hid (HS.out.below BW.out)
  replace HE := Lib.hid (HE.out.below BW.out)
  replace HS' := Lib.hid (HS'.out.below BW.out)
  replace HE' := Lib.hid (HE'.out.below BW.out)
  have x0 := X.out.cell 0 _ rfl
  have x1 := X.out.cell 1 _ rfl
  have x2 := X.out.cell 2 _ rfl
  have x3 := X.out.cell 3 _ rfl
  have x4 := X.out.cell 4 _ rfl
  have x5 := X.out.cell 5 _ rfl
  have x6 := X.out.cell 6 _ rfl
  have x7 := X.out.cell 7 _ rfl
  have x8 := X.out.cell 8 _ rfl
  have x9 := X.out.cell 9 _ rfl
  have x10 := X.out.cell 10 _ rfl
  have y0 := Y.out.cell 0 _ rfl
  have y1 := Y.out.cell 1 _ rfl
  have y2 := Y.out.cell 2 _ rfl
  have y3 := Y.out.cell 3 _ rfl
  have y4 := Y.out.cell 4 _ rfl
  have y5 := Y.out.cell 5 _ rfl
  have y6 := Y.out.cell 6 _ rfl
  have y7 := Y.out.cell 7 _ rfl
  have y8 := Y.out.cell 8 _ rfl
  have y9 := Y.out.cell 9 _ rfl
  have y10 := Y.out.cell 10 _ rfl
  by_cases h : k = k'
  case neg =>
    obtain rfl : G = false := by cases G with | false => rfl | true => exact absurd ((HG.out.1 rfl).1) h
    go_wp2_with fail
    go_ret
    exact ⟨rfl, BW.out⟩
  subst h
  by_cases h : pg = pg'
  case neg =>
    obtain rfl : G = false := by cases G with | false => rfl | true => exact absurd ((HG.out.1 rfl).2.1) h
    go_wp2_with fail
    go_ret
    exact ⟨rfl, BW.out⟩
  subst h
  by_cases h : x = x'
  case neg =>
    obtain rfl : G = false := by cases G with | false => rfl | true => exact absurd ((HG.out.1 rfl).2.2.1) h
    cases x <;> cases x' <;> first | exact absurd rfl h | skip
    all_goals
      go_wp2_with fail
      go_ret
      exact ⟨rfl, BW.out⟩
  subst h
  by_cases h : nd = nd'
  case neg =>
    obtain rfl : G = false := by cases G with | false => rfl | true => exact absurd ((HG.out.1 rfl).2.2.2.1) h
    cases nd <;> cases nd' <;> first | exact absurd rfl h | skip
    all_goals
      go_wp2_with fail
      go_ret
      exact ⟨rfl, BW.out⟩
  subst h
  by_cases h : n = n'
  case neg =>
    obtain rfl : G = false := by cases G with | false => rfl | true => exact absurd ((HG.out.1 rfl).2.2.2.2.1) h
    go_wp2_with fail
    go_ret
    exact ⟨rfl, BW.out⟩
  subst h
  cases tb with
  | false =>
    obtain rfl : G = false := by cases G with | false => rfl | true => exact absurd (HT.out.2 (HG.out.1 rfl).2.2.2.2.2.1) (by simp)
    go_wp2_with fail
    go_ret
    exact ⟨rfl, BW.out⟩
  | true =>
  go_wp2_with fail
  refine (CP.out _ HS.out HS'.out).mono ?_
  rintro e w2 ⟨rfl, b2⟩
  clear x0 x1 x2 x3 x4 x5 x6 x7 x8 x9 x10 y0 y1 y2 y3 y4 y5 y6 y7 y8 y9 y10
  have BW := Lib.hid (bup BW.out b2)
  have X := Lib.hid (X.out.below b2)
  have Y := Lib.hid (Y.out.below b2)
  have HE := Lib.hid (HE.out.below b2)
  have HE' := Lib.hid (HE'.out.below b2)
  clear b2 CP CT HS HS'
  have x10 := X.out.cell 10 _ rfl
  have y10 := Y.out.cell 10 _ rfl
  cases pb with
  | false =>
    obtain rfl : G = false := by cases G with | false => rfl | true => exact absurd (HP.out.2 (HG.out.1 rfl).2.2.2.2.2.2.1) (by simp)
    go_wp2_with fail
    go_ret
    exact ⟨rfl, BW.out⟩
  | true =>
  by_cases hn : en = en'
  case neg =>
    obtain rfl : G = false := by cases G with | false => rfl | true => exact absurd (show en = en' by have := (HG.out.1 rfl).2.2.2.2.2.2.2; rw [← l1, ← l2, this]) hn
    go_wp2_with fail
    go_ret
    exact ⟨rfl, BW.out⟩
  subst hn
  have HG : Hid (G = true ↔ el = el') := Lib.hid (by
    have g := HG.out
    have t' : tc = tc' ∧ te = te' ∧ tn = tn' := by first | exact HT.out.1 rfl | exact HT.out.1 trivial
    have p' : lsn = lsn' ∧ sl = sl' := by first | exact HP.out.1 rfl | exact HP.out.1 trivial
    exact ⟨fun h => (g.1 h).2.2.2.2.2.2.2, fun h => g.2 (by refine ⟨?_, ?_, ?_, ?_, ?_, t', p', h⟩ <;> first | rfl | trivial)⟩)
  clear HT HP
  go_wp2_with fail
  go_loopw [5] (fun i wr => ∃ j : Nat, j ≤ en ∧ i = .int .i64 j ∧ Hid (el.take j = el'.take j) ∧ Hid (Below w2.heap.size w2 wr)) (fun i _ => en - (intOf i).toNat)
  case atStart => exact ⟨0, by omega, rfl, Lib.hid rfl, Lib.hid (Below.refl _ _)⟩
  case round =>
    obtain ⟨j, hj, rfl, Hn, Hb⟩ := hrel
    clear x10 y10
    have z1 := (X.out.below Hb.out).cell 10 _ rfl
    have z2 := (Y.out.below Hb.out).cell 10 _ rfl
    by_cases hlt : j < en
    · obtain ⟨a, ha⟩ : ∃ a, el[j]? = some a := ⟨_, List.getElem?_eq_getElem (by omega)⟩
      obtain ⟨b, hb⟩ : ∃ b, el'[j]? = some b := ⟨_, List.getElem?_eq_getElem (by omega)⟩
      obtain ⟨b1, o1, rfl, hl1, E1⟩ := HE.out.here ha
      obtain ⟨b2, o2, rfl, hl2, E2⟩ := HE'.out.here hb
      obtain ⟨x0, x1, x2, x3, x4, x5, x6, x7, x8, x9, x10, x11, x12⟩ := E1.below hl1 Hb.out
      obtain ⟨y0, y1, y2, y3, y4, y5, y6, y7, y8, y9, y10, y11, y12⟩ := E2.below hl2 Hb.out
      clear E1 E2
      have i1 : (0 : Int) ≤ (j : Int) := by omega
      have i2 : (j : Int) < (en : Int) := by omega
      have CE := fun w => entNeqBin a b w
      simp only [Ent.val, Ent.row] at CE
      cases he : a.eqB b with
      | false =>
        rw [he] at CE
        obtain rfl : G = false := by
          cases G with
          | false => rfl
          | true =>
            have := HG.out.1 rfl
            subst this
            rw [ha] at hb
            have h2 := (eqB_iff a b).2 (by simpa using hb)
            rw [h2] at he; cases he
        clear ha hb he
        go_wp2_with fail
        go_quiet (fail)
        go_wp2_with fail
        go_ret
        exact ⟨rfl, bup BW.out (bup Hb.out (draws_below _ _))⟩
      | true =>
        rw [he] at CE
        have HX : Hid (el.take (j + 1) = el'.take (j + 1)) := Lib.hid (by rw [List.take_add_one, List.take_add_one, Hn.out, ha, hb, (eqB_iff a b).1 he])
        clear ha hb he
        go_wp2_with fail
        go_quiet (fail)
        go_wp2_with fail
        go_roundw
        case rel => exact ⟨j + 1, by omega, by go_num, HX, Lib.hid (bup Hb.out (draws_below _ _))⟩
        case measure => simp [intOf]; omega
    · obtain rfl : G = true := by
        have := Hn.out
        rw [List.take_of_length_le (by omega), List.take_of_length_le (by omega)] at this
        exact HG.out.2 this
      go_wp2_with fail
      go_ret
      exact ⟨rfl, bup BW.out Hb.out⟩
end Go.Proofs.Ytakdagmkkelnfaa
