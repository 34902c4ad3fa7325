/-
  patch.All.
-/
import Derived.Test.YtpgeiopknjfdmaaPaF
import Derived.StillTailTactics
namespace Go.Proofs.Ytpgeiopknjfdmaa
open Go.RowKit Go.Sort
set_option linter.unusedVariables false
set_option linter.unusedSimpArgs false
set_option maxRecDepth 100000 in
set_option maxHeartbeats 8000000 in
theorem all_any (lsn : Int) (A : Option Addr) (n c : Nat) (l : List Sl) (page : Int) (B : Option Addr) (m d : Nat) (L : List Ent) (w : World) (h : IsSlots w A n c l) (h2 : IsEnts w B m d L) :
    Calls Try.prog 16 #[.agg #[.int .i64 lsn, .slice A n c], .int .i64 page, .slice B m d] w (PageOut (allR lsn l page L) w) := by
  have hcapB := h2.cap
  have hmostB := h2.most
  have hlenB := h2.len
  have HE := Lib.hid h2
  have CG := fun w h => pgood_any lsn A n c l w h
  obtain ⟨R, hR⟩ : ∃ R, allR lsn l page L = R := ⟨_, rfl⟩
  rw [hR]
  unfold allR at hR
  obtain ⟨b1, h1⟩ : ∃ b, slGood lsn l = b := ⟨_, rfl⟩
  rw [h1] at CG hR
  obtain ⟨fs, hu⟩ := pageUnd
  have Hu := Lib.hid hu
  have H := Lib.hid h
  have hlen := h.len
  clear hu h h2
  replace CG := Lib.hid CG
  go_enter Try.func16, Try.ntmps16
  go_upto_region 1 with (fail)
  generalize hw0 : World.alloc (World.alloc w _) _ = w0
  have P0 : Hid (Has w0 w.heap.size (.cells #[.int .i64 lsn, .slice A n c] 24)) := Lib.hid (by rw [← hw0]; exact (Has.new w _).alloc _)
  have Z0 : Hid (Has w0 (w.heap.size + 1) (.cells #[.int .i64 0, .slice none 0 0] 24)) := Lib.hid (by rw [← hw0]; exact Has.new1 w _ _)
  have B0 : Hid (Below w.heap.size w w0) := Lib.hid (by rw [← hw0]; exact bup (bnew w _) (bnew _ _))
  have I0 := Lib.hid (H.out.below B0.out)
  clear hw0
  have p0 := P0.out.cell 0 _ rfl
  have p1 := P0.out.cell 1 _ rfl
  go_wp2_with fail
  refine (CG.out _ I0.out).mono ?_
  rintro e w1 ⟨rfl, b1'⟩
  have P1 := Lib.hid (P0.out.below b1')
  have Z1 := Lib.hid (Z0.out.below b1')
  have B1 := Lib.hid (bup B0.out b1')
  have I1 := Lib.hid (I0.out.below b1')
  clear b1' P0 Z0 B0 I0 p0 p1
  have p0 := P1.out.cell 0 _ rfl
  have p1 := P1.out.cell 1 _ rfl
  cases b1 with
  | false =>
    have HR : Hid (R = (0, [], 1)) := Lib.hid (by rw [← hR, if_neg (by simp)])
    clear hR
    go_wp2_with ((with_reducible refine at_store rfl ?_); refine wpList_put_row rfl _ _ _ rfl rfl (w.heap.size + 1) _ rfl rfl _ _ Z1.out (by kernel_rfl) rfl (by first | kernel_rfl | simp [Value.oneCell']) ?_; intro w9 Z9 B9)
    (try simp only [Exit.inBlock, Exit.then])
    refine bodyPost_ret (v := .tuple #[.agg #[.int .i64 0, .slice none 0 0], .int .i64 1]) ?_ rfl ⟨none, 0, 0, by rw [HR.out], by rw [HR.out]; exact IsSlots.nil _, ?_⟩
    · refine Eq.trans (results_cell_one (p := 6) (u := 7) ?_ _ _ (w.heap.size + 1) _ _ _ fs ?_ Z9 Hu.out (by kernel_rfl)) ?_
      all_goals rfl
    · exact B1.out.trans (B9.below (by omega) B1.out.size)
  | true =>
  rw [if_pos rfl] at hR
  have HG0 := Lib.hid h1
  have hn32 : n ≤ 32 := by have := ((slGood_iff lsn l).1 h1).2.1; omega
  have CK := fun w h => clone_any A n c l w h (by omega)
  replace CK := Lib.hid CK
  have HR := Lib.hid hR
  clear hR h1
  go_wp2_with fail
  refine (CK.out _ I1.out).mono ?_
  rintro e w4 ⟨A4, c4, rfl, I4, b4⟩
  have P4 := Lib.hid (P1.out.below b4)
  have Z4 := Lib.hid (Z1.out.below b4)
  have B4 := Lib.hid (bup B1.out b4)
  replace I4 := Lib.hid I4
  clear b4 P1 Z1 B1 I1 p0 p1
  have p0 := P4.out.cell 0 _ rfl
  have p1 := P4.out.cell 1 _ rfl
  have f1 := P4.out.free 1
  go_upto_region 4 with (fail)
  have P5 := Lib.hid (P4.out.set 1 (.slice A4 n c4))
  have Z5 := Lib.hid (Z4.out.setOther (show w.heap.size + 1 ≠ w.heap.size by omega) 1 (.slice A4 n c4))
  have B5 := Lib.hid (B4.out.setCell (p := ⟨w.heap.size, 1, none⟩) (Nat.le_refl _) (.slice A4 n c4))
  have I5 := Lib.hid (I4.out.apart P4.out (But.set w.heap.size 1 w4 (.slice A4 n c4)))
  generalize hw5 : World.setCell _ _ _ = w5
  rw [hw5] at P5 Z5 B5 I5
  simp only [List.setIfInBounds_toArray, List.set_cons_succ, List.set_cons_zero] at P5
  clear hw5 P4 Z4 B4 I4 p0 p1 f1
  have D0 : Hid (allF page (lsn, l, 0) (L.take 0) = (lsn, l, 0)) := Lib.hid rfl
  go_wp2_with fail
  go_loopw [23] (fun i wr => ∃ (j : Nat) (ln : Int) (q : List Sl) (A' : Option Addr) (n' c' : Nat), j ≤ m ∧ i = .int .i64 j ∧ Hid (allF page (lsn, l, 0) (L.take j) = (ln, q, 0)) ∧ Hid (slGood ln q = true) ∧ Hid (Has wr w.heap.size (.cells #[.int .i64 ln, .slice A' n' c'] 24)) ∧ Hid (Has wr (w.heap.size + 1) (.cells #[.int .i64 0, .slice none 0 0] 24)) ∧ Hid (IsSlots wr A' n' c' q) ∧ Hid (Below w.heap.size w wr)) (fun i _ => m - (intOf i).toNat)
  case atStart => exact ⟨0, lsn, l, A4, n, c4, by omega, rfl, D0, HG0, P5, Z5, I5, B5⟩
  case round =>
    clear D0 HG0 P5 Z5 I5 B5
    obtain ⟨j, ln, q, A', n', c', hj, rfl, Dj, GQ, P, Z, I, B⟩ := hrel
    have hn' : n' ≤ 100 := by have := ((slGood_iff ln q).1 GQ.out).2.1; have := I.out.len; omega
    have hzz := Z.out.lt
    by_cases hlt : j < m
    · obtain ⟨x, hx⟩ : ∃ x, L[j]? = some x := ⟨_, List.getElem?_eq_getElem (by omega)⟩
      obtain ⟨b, off, hA, hbl, E⟩ := (HE.out.below B.out).here hx
      subst hA
      obtain ⟨hsw, hsi⟩ := HE.out.small x (List.mem_of_getElem? hx)
      have CC := fun w => changes_any x w
      have HSkip : Hid (x.chg = false ∨ x.page ≠ page → allF page (lsn, l, 0) (L.take (j + 1)) = (ln, q, 0)) := Lib.hid (fun hs => by
        rw [allF_take hx, Dj.out, allStep_skip hs])
      have HGo : Hid (x.chg = true → x.page = page → allF page (lsn, l, 0) (L.take (j + 1)) = if (redoR ln q x).2.2.2 ≠ 0 then (0, [], (redoR ln q x).2.2.2) else ((redoR ln q x).1, (redoR ln q x).2.1, 0)) := Lib.hid (fun h1 h2 => by
        rw [allF_take hx, Dj.out, allStep_go h1 h2])
      have HRG : Hid ((redoR ln q x).2.2.2 = 0 → slGood (redoR ln q x).1 (redoR ln q x).2.1 = true) := Lib.hid redo_good
      have CR := fun w h => redo_any ln A' n' c' q x w h hn' hsw hsi
      obtain ⟨R4, hR4⟩ : ∃ R4, redoR ln q x = R4 := ⟨_, rfl⟩
      rw [hR4] at HGo HRG CR
      obtain ⟨r1, r2, r3, r4⟩ := R4
      obtain ⟨ch, hch⟩ : ∃ ch, x.chg = ch := ⟨_, rfl⟩
      rw [hch] at CC HSkip HGo
      clear hx hR4 hch Dj
      obtain ⟨k, cl, ep, mm, ls, pv, pg, sl, wu, wd, iu, ix, nx⟩ := x
      simp only [Ent.val, Ent.row] at CC HSkip HGo HRG CR E hsw hsi
      replace CC := Lib.hid CC
      replace CR := Lib.hid CR
      obtain ⟨x0, x1, x2, x3, x4, x5, x6, x7, x8, x9, x10, x11, x12⟩ := E
      go_upto_region 7 with (fail)
      have X6 := Lib.hid (Has.new wr (.cells #[.int .i64 k, .int .i64 cl, .int .i64 ep, .int .i64 mm, .int .i64 ls, .int .i64 pv, .int .i64 pg, .int .i64 sl, .bool wu, .string wd, .bool iu, .string ix, .int .i64 nx] 30))
      have P6 := Lib.hid (P.out.alloc (.cells #[.int .i64 k, .int .i64 cl, .int .i64 ep, .int .i64 mm, .int .i64 ls, .int .i64 pv, .int .i64 pg, .int .i64 sl, .bool wu, .string wd, .bool iu, .string ix, .int .i64 nx] 30))
      have Z6 := Lib.hid (Z.out.alloc (.cells #[.int .i64 k, .int .i64 cl, .int .i64 ep, .int .i64 mm, .int .i64 ls, .int .i64 pv, .int .i64 pg, .int .i64 sl, .bool wu, .string wd, .bool iu, .string ix, .int .i64 nx] 30))
      have I6 := Lib.hid (I.out.below (bnew wr (.cells #[.int .i64 k, .int .i64 cl, .int .i64 ep, .int .i64 mm, .int .i64 ls, .int .i64 pv, .int .i64 pg, .int .i64 sl, .bool wu, .string wd, .bool iu, .string ix, .int .i64 nx] 30)))
      have B6 := Lib.hid (bup B.out (bnew wr (.cells #[.int .i64 k, .int .i64 cl, .int .i64 ep, .int .i64 mm, .int .i64 ls, .int .i64 pv, .int .i64 pg, .int .i64 sl, .bool wu, .string wd, .bool iu, .string ix, .int .i64 nx] 30)))
      generalize hw6 : World.alloc wr _ = w6
      rw [hw6] at X6 P6 Z6 I6 B6
      clear hw6 P Z I B x0 x1 x2 x3 x4 x5 x6 x7 x8 x9 x10 x11 x12
      obtain ⟨x0, x1, x2, x3, x4, x5, x6, x7, x8, x9, x10, x11, x12⟩ := EntAt.of X6.out
      go_wp2_with fail
      refine (CC.out _).mono ?_
      rintro e w7 ⟨rfl, b7⟩
      have X7 := Lib.hid (X6.out.below b7)
      have P7 := Lib.hid (P6.out.below b7)
      have Z7 := Lib.hid (Z6.out.below b7)
      have I7 := Lib.hid (I6.out.below b7)
      have B7 := Lib.hid (bup B6.out b7)
      clear b7 X6 P6 Z6 I6 B6 x0 x1 x2 x3 x4 x5 x6 x7 x8 x9 x10 x11 x12
      obtain ⟨x0, x1, x2, x3, x4, x5, x6, x7, x8, x9, x10, x11, x12⟩ := EntAt.of X7.out
      have hpp : (pg != page) = true ∨ ((pg != page) = false ∧ pg = page) := by
        by_cases hp : pg = page
        · exact .inr ⟨by simp [hp], hp⟩
        · exact .inl (by simp [hp])
      cases ch with
      | false =>
        have HS := Lib.hid (HSkip.out (.inl rfl))
        clear HSkip HGo HRG hpp
        go_wp2_with fail
        go_roundw
        case rel => exact ⟨j + 1, ln, q, A', n', c', by omega, by go_num, HS, GQ, P7, Z7, I7, B7⟩
        case measure => simp [intOf]; omega
      | true =>
      rcases hpp with hpp | ⟨hpp, hpe⟩
      case inl =>
        have HS := Lib.hid (HSkip.out (.inr (by simpa using hpp)))
        clear HSkip HGo HRG
        go_wp2_with fail
        go_roundw
        case rel => exact ⟨j + 1, ln, q, A', n', c', by omega, by go_num, HS, GQ, P7, Z7, I7, B7⟩
        case measure => simp [intOf]; omega
      have HS := HGo.out rfl hpe
      try simp only at HS
      clear HSkip HGo hpe
      have p0 := P7.out.cell 0 _ rfl
      have p1 := P7.out.cell 1 _ rfl
      by_cases hr4 : r4 = 0
      · subst hr4
        rw [if_neg (by simp)] at HS
        replace HS := Lib.hid HS
        have GR := Lib.hid (HRG.out rfl)
        clear HRG
        go_wp2_with fail
        refine (CR.out _ I7.out).mono ?_
        rintro e w8 ⟨A8, n8, c8, rfl, I8, b8⟩
        have P9 := Lib.hid ((P7.out.below b8).alloc (.cells #[.int .i64 r1, .slice A8 n8 c8] 24))
        have Z9 := Lib.hid ((Z7.out.below b8).alloc (.cells #[.int .i64 r1, .slice A8 n8 c8] 24))
        have Q9 := Lib.hid (Has.new w8 (.cells #[.int .i64 r1, .slice A8 n8 c8] 24))
        have I9 := Lib.hid (I8.alloc (.cells #[.int .i64 r1, .slice A8 n8 c8] 24))
        have B9 := Lib.hid (bup (bup B7.out b8) (bnew w8 (.cells #[.int .i64 r1, .slice A8 n8 c8] 24)))
        clear b8 I8 P7 Z7 X7 I7 B7 p0 p1 x0 x1 x2 x3 x4 x5 x6 x7 x8 x9 x10 x11 x12
        go_upto_region 9 with (fail)
        generalize hw9 : World.alloc w8 _ = w9
        rw [hw9] at P9 Z9 Q9 I9 B9
        clear hw9
        have q0 := Q9.out.cell 0 _ rfl
        have q1 := Q9.out.cell 1 _ rfl
        go_wp2_with ((with_reducible refine at_store rfl ?_); refine wpList_put_row rfl _ _ _ rfl rfl w.heap.size _ rfl rfl _ _ P9.out (by kernel_rfl) rfl (by first | kernel_rfl | simp [Value.oneCell']) ?_; intro w10 P10 B10)
        go_roundw
        case rel => exact ⟨j + 1, r1, r2, A8, n8, c8, by omega, by go_num, HS, GR, Lib.hid P10, Lib.hid (Z9.out.but B10 (by omega)), Lib.hid (I9.out.apart P9.out B10), Lib.hid (B9.out.trans (B10.below (Nat.le_refl _) B9.out.size))⟩
        case measure => simp [intOf]; omega
      · rw [if_pos hr4] at HS
        have HR : Hid (R = (0, [], r4)) := Lib.hid (by rw [← HR.out, allF_end (by rw [HS]; exact hr4), HS])
        have hqb : ((r4 : Int) != 0) = true := by simp [hr4]
        clear HRG HS hr4
        go_wp2_with fail
        refine (CR.out _ I7.out).mono ?_
        rintro e w8 ⟨A8, n8, c8, rfl, I8, b8⟩
        have ZA := Lib.hid ((Z7.out.below b8).alloc (.cells #[.int .i64 r1, .slice A8 n8 c8] 24))
        have BA := Lib.hid (bup (bup B7.out b8) (bnew w8 (.cells #[.int .i64 r1, .slice A8 n8 c8] 24)))
        clear b8 I8 P7 Z7 X7 I7 B7 p0 p1 x0 x1 x2 x3 x4 x5 x6 x7 x8 x9 x10 x11 x12
        go_upto_region 9 with (fail)
        generalize hw9 : World.alloc w8 _ = wA
        rw [hw9] at ZA BA
        clear hw9
        go_wp2_with ((with_reducible refine at_store rfl ?_); refine wpList_put_row rfl _ _ _ rfl rfl (w.heap.size + 1) _ rfl rfl _ _ ZA.out (by kernel_rfl) rfl (by first | kernel_rfl | simp [Value.oneCell']) ?_; intro w9 Z9 B9)
        (try simp only [Exit.inBlock, Exit.then])
        refine bodyPost_ret (v := .tuple #[.agg #[.int .i64 0, .slice none 0 0], .int .i64 r4]) ?_ rfl ⟨none, 0, 0, by rw [HR.out], by rw [HR.out]; exact IsSlots.nil _, ?_⟩
        · refine Eq.trans (results_cell_one (p := 6) (u := 7) ?_ _ _ (w.heap.size + 1) _ _ _ fs ?_ Z9 Hu.out (by kernel_rfl)) ?_
          all_goals rfl
        · exact BA.out.trans (B9.below (by omega) BA.out.size)
    · obtain rfl : j = m := by omega
      have HR : Hid (R = (ln, q, 0)) := Lib.hid (by rw [← HR.out, ← Dj.out, List.take_of_length_le (by omega)])
      clear Dj hlt hj
      have p0 := P.out.cell 0 _ rfl
      have p1 := P.out.cell 1 _ rfl
      go_wp2_with ((with_reducible refine at_store rfl ?_); refine wpList_put_row rfl _ _ _ rfl rfl (w.heap.size + 1) _ rfl rfl _ _ Z.out (by kernel_rfl) rfl (by first | kernel_rfl | simp [Value.oneCell']) ?_; intro w9 Z9 B9)
      (try simp only [Exit.inBlock, Exit.then])
      refine bodyPost_ret (v := .tuple #[.agg #[.int .i64 ln, .slice A' n' c'], .int .i64 0]) ?_ rfl ⟨A', n', c', by rw [HR.out], by rw [HR.out]; exact I.out.apart Z.out B9, ?_⟩
      · refine Eq.trans (results_cell_one (p := 6) (u := 7) ?_ _ _ (w.heap.size + 1) _ _ _ fs ?_ Z9 Hu.out (by kernel_rfl)) ?_
        all_goals rfl
      · exact B.out.trans (B9.below (by omega) B.out.size)
end Go.Proofs.Ytpgeiopknjfdmaa
