/-
  The reference's All.
-/
import Derived.Test.YtpgeiopknjfdmaaPaF
import Derived.Test.YtpgeiopknjfdmaaPaC
import Derived.Test.YtpgeiopknjfdmaaSlLaw0
import Derived.StillTailTactics
namespace Go.Proofs.Ytpgeiopknjfdmaa
open Go.RowKit Go.Sort
set_option linter.unusedVariables false
set_option linter.unusedSimpArgs false
set_option maxRecDepth 100000 in
set_option maxHeartbeats 16000000 in
theorem rall_any (lsn : Int) (A : Option Addr) (n c : Nat) (l : List Sl) (page : Int) (B : Option Addr) (m d : Nat) (L : List Ent) (w : World) (h : IsSlots w A n c l) (h2 : IsEnts w B m d L) :
    Calls Try.prog 17 #[.agg #[.int .i64 lsn, .slice A n c], .int .i64 page, .slice B m d] w (PageOut (allR lsn l page L) w) := by
  have hcapB := h2.cap
  have hmostB := h2.most
  have hlenB := h2.len
  have HE := Lib.hid h2
  have CG := fun w h => rgood_any lsn A n c l w h
  obtain ⟨R, hR⟩ : ∃ R, allR lsn l page L = R := ⟨_, rfl⟩
  rw [hR]
  unfold allR at hR
  obtain ⟨b1, h1⟩ : ∃ b, slGood lsn l = b := ⟨_, rfl⟩
  rw [h1] at CG hR
  obtain ⟨fs, hu⟩ := pageUnd
  have Hu := Lib.hid hu
  have H := Lib.hid h
  have hlen := h.len
  clear hu h h2
  replace CG := Lib.hid CG
  go_enter Try.func17, Try.ntmps17
  go_upto_region 1 with (fail)
  generalize hw0 : World.alloc (World.alloc w _) _ = w0
  have P0 : Hid (Has w0 w.heap.size (.cells #[.int .i64 lsn, .slice A n c] 24)) := Lib.hid (by rw [← hw0]; exact (Has.new w _).alloc _)
  have Z0 : Hid (Has w0 (w.heap.size + 1) (.cells #[.int .i64 0, .slice none 0 0] 24)) := Lib.hid (by rw [← hw0]; exact Has.new1 w _ _)
  have B0 : Hid (Below w.heap.size w w0) := Lib.hid (by rw [← hw0]; exact bup (bnew w _) (bnew _ _))
  have I0 := Lib.hid (H.out.below B0.out)
  clear hw0
  have p0 := P0.out.cell 0 _ rfl
  have p1 := P0.out.cell 1 _ rfl
  go_wp2_with fail
  refine (CG.out _ I0.out).mono ?_
  rintro e w1 ⟨rfl, b1'⟩
  have P1 := Lib.hid (P0.out.below b1')
  have Z1 := Lib.hid (Z0.out.below b1')
  have B1 := Lib.hid (bup B0.out b1')
  have I1 := Lib.hid (I0.out.below b1')
  clear b1' P0 Z0 B0 I0 p0 p1
  have p0 := P1.out.cell 0 _ rfl
  have p1 := P1.out.cell 1 _ rfl
  cases b1 with
  | false =>
    have HR : Hid (R = (0, [], 1)) := Lib.hid (by rw [← hR, if_neg (by simp)])
    clear hR
    go_wp2_with ((with_reducible refine at_store rfl ?_); refine wpList_put_row rfl _ _ _ rfl rfl (w.heap.size + 1) _ rfl rfl _ _ Z1.out (by kernel_rfl) rfl (by first | kernel_rfl | simp [Value.oneCell']) ?_; intro w9 Z9 B9)
    (try simp only [Exit.inBlock, Exit.then])
    refine bodyPost_ret (v := .tuple #[.agg #[.int .i64 0, .slice none 0 0], .int .i64 1]) ?_ rfl ⟨none, 0, 0, by rw [HR.out], by rw [HR.out]; exact IsSlots.nil _, ?_⟩
    · refine Eq.trans (results_cell_one (p := 6) (u := 7) ?_ _ _ (w.heap.size + 1) _ _ _ fs ?_ Z9 Hu.out (by kernel_rfl)) ?_
      all_goals rfl
    · exact B1.out.trans (B9.below (by omega) B1.out.size)
  | true =>
  rw [if_pos rfl] at hR
  have HG0 := Lib.hid h1
  have HR := Lib.hid hR
  clear hR h1 p0 p1
  have D0 : Hid (allF page (lsn, l, 0) (L.take 0) = (lsn, l, 0)) := Lib.hid rfl
  go_wp2_with fail
  go_loopw [8] (fun i wr => ∃ (j : Nat) (ln : Int) (q : List Sl) (A' : Option Addr) (n' c' : Nat), j ≤ m ∧ i = .int .i64 j ∧ Hid (allF page (lsn, l, 0) (L.take j) = (ln, q, 0)) ∧ Hid (slGood ln q = true) ∧ Hid (Has wr w.heap.size (.cells #[.int .i64 ln, .slice A' n' c'] 24)) ∧ Hid (Has wr (w.heap.size + 1) (.cells #[.int .i64 0, .slice none 0 0] 24)) ∧ Hid (IsSlots wr A' n' c' q) ∧ Hid (Below w.heap.size w wr)) (fun i _ => m - (intOf i).toNat)
  case atStart => exact ⟨0, lsn, l, A, n, c, by omega, rfl, D0, HG0, P1, Z1, I1, B1⟩
  case round =>
    clear D0 HG0 P1 Z1 I1 B1
    obtain ⟨j, ln, q, A', n', c', hj, rfl, Dj, GQ, P, Z, I, B⟩ := hrel
    have hn' : n' ≤ 100 := by have := ((slGood_iff ln q).1 GQ.out).2.1; have := I.out.len; omega
    have hzz := Z.out.lt
    by_cases hlt : j < m
    · obtain ⟨x, hx⟩ : ∃ x, L[j]? = some x := ⟨_, List.getElem?_eq_getElem (by omega)⟩
      obtain ⟨b, off, hA, hbl, E⟩ := (HE.out.below B.out).here hx
      subst hA
      obtain ⟨hsw, hsi⟩ := HE.out.small x (List.mem_of_getElem? hx)
      have HSkip : Hid (x.chg = false ∨ x.page ≠ page → allF page (lsn, l, 0) (L.take (j + 1)) = (ln, q, 0)) := Lib.hid (fun hs => by
        rw [allF_take hx, Dj.out, allStep_skip hs])
      have HGo : Hid (x.chg = true → x.page = page → allF page (lsn, l, 0) (L.take (j + 1)) = if (redoR ln q x).2.2.2 ≠ 0 then (0, [], (redoR ln q x).2.2.2) else ((redoR ln q x).1, (redoR ln q x).2.1, 0)) := Lib.hid (fun h1 h2 => by
        rw [allF_take hx, Dj.out, allStep_go h1 h2])
      have HRG : Hid ((redoR ln q x).2.2.2 = 0 → slGood (redoR ln q x).1 (redoR ln q x).2.1 = true) := Lib.hid redo_good
      have CR := fun w h => rredo_any ln A' n' c' q x w h hn' hsw hsi
      obtain ⟨R4, hR4⟩ : ∃ R4, redoR ln q x = R4 := ⟨_, rfl⟩
      rw [hR4] at HGo HRG CR
      obtain ⟨r1, r2, r3, r4⟩ := R4
      have hkc : (x.chg = false ∧ (x.kind != 1) = true ∧ (x.kind != 2) = true) ∨ (x.chg = true ∧ (x.kind != 1) = false) ∨ (x.chg = true ∧ (x.kind != 1) = true ∧ (x.kind != 2) = false) := by
        unfold Ent.chg
        cases h1 : (x.kind == 1) <;> cases h2 : (x.kind == 2) <;> simp [bne, h1, h2]
      obtain ⟨ch, hch⟩ : ∃ ch, x.chg = ch := ⟨_, rfl⟩
      rw [hch] at hkc HSkip HGo
      clear hx hR4 hch Dj
      obtain ⟨k, cl, ep, mm, ls, pv, pg, sl, wu, wd, iu, ix, nx⟩ := x
      simp only [Ent.val, Ent.row] at hkc HSkip HGo HRG CR E hsw hsi
      replace CR := Lib.hid CR
      obtain ⟨x0, x1, x2, x3, x4, x5, x6, x7, x8, x9, x10, x11, x12⟩ := E
      have hpp : (pg != page) = true ∨ ((pg != page) = false ∧ pg = page) := by
        by_cases hp : pg = page
        · exact .inr ⟨by simp [hp], hp⟩
        · exact .inl (by simp [hp])
      rcases hkc with ⟨rfl, hk1, hk2⟩ | hkc
      · have HS := Lib.hid (HSkip.out (.inl rfl))
        clear HSkip HGo HRG hpp
        go_wp2_with fail
        go_roundw
        case rel => exact ⟨j + 1, ln, q, A', n', c', by omega, by go_num, HS, GQ, P, Z, I, B⟩
        case measure => simp [intOf]; omega
      rcases hpp with hpp | ⟨hpp, hpe⟩
      · have HS := Lib.hid (HSkip.out (.inr (by simpa using hpp)))
        clear HSkip HGo HRG
        rcases hkc with ⟨rfl, hk1⟩ | ⟨rfl, hk1, hk2⟩ <;>
        · go_wp2_with fail
          go_roundw
          case rel => exact ⟨j + 1, ln, q, A', n', c', by omega, by go_num, HS, GQ, P, Z, I, B⟩
          case measure => simp [intOf]; omega
      rcases hkc with ⟨rfl, hk1⟩ | ⟨rfl, hk1, hk2⟩
      · have HS := HGo.out rfl hpe
        try simp only at HS
        clear HSkip HGo hpe
        obtain ⟨w7, hw7⟩ : ∃ w7 : World, w7 = wr := ⟨_, rfl⟩
        rw [← hw7] at P Z I B x0 x1 x2 x3 x4 x5 x6 x7 x8 x9 x10 x11 x12 hzz hbl ⊢
        clear hw7
        have p0 := P.out.cell 0 _ rfl
        have p1 := P.out.cell 1 _ rfl
        have hz0 : w.heap.size < w7.heap.size := P.out.lt
        go_upto_region 7 with (fail)
        go_cut [9, 11] from 45 to 54 (fun v9 v11 wx => ∃ gq A8 n8 c8, v9 = .pointer (some ⟨gq, 0, none⟩) ∧ v11 = .int .i64 r4 ∧ Hid (Has wx gq (.cells #[.int .i64 r1, .slice A8 n8 c8] 24)) ∧ Hid (IsSlots wx A8 n8 c8 r2) ∧ Hid (Below w7.heap.size w7 wx))
        case first =>
          go_region_law ((go_simp; go_at_call 12; refine (CR.out _ (by repeat (first | exact I.out | refine IsSlots.drew ?_ | refine IsSlots.alloc ?_ _))).mono ?_; rintro e w8 ⟨A8, n8, c8, rfl, I8, b8⟩; obtain ⟨hc5, hf5⟩ := bcell b8; have hz5 := b8.size))
          all_goals
            clear hc5 hf5 hz5 p0 p1 x0 x1 x2 x3 x4 x5 x6 x7 x8 x9 x10 x11 x12
            go_wp2_with fail
            go_meet
            first
            | exact ⟨_, _, _, _, rfl, rfl, close_out (by repeat (first | exact Below.refl _ _ | refine Below.drew ?_ | refine bup ?_ (bnew _ _))) b8 I8⟩
            | exact ⟨_, _, _, _, rfl, rfl, close_in (by repeat (first | exact Below.refl _ _ | refine Below.drew ?_ | refine bup ?_ (bnew _ _))) (by simp) (by repeat (first | exact Has.new _ _ | exact Has.new1 _ _ _ | refine Has.drew ?_ | refine Has.alloc ?_ _)) b8 I8⟩
        case rest =>
        obtain ⟨gq, A8, n8, c8, rfl, rfl, Q9, I9, BX⟩ := hcut
        have P9 := Lib.hid (P.out.below BX.out)
        have Z9 := Lib.hid (Z.out.below BX.out)
        have B9 := Lib.hid (bup B.out BX.out)
        clear P Z I B BX p0 p1 x0 x1 x2 x3 x4 x5 x6 x7 x8 x9 x10 x11 x12
        have q0 := Q9.out.cell 0 _ rfl
        have q1 := Q9.out.cell 1 _ rfl
        by_cases hr4 : r4 = 0
        · subst hr4
          rw [if_neg (by simp)] at HS
          replace HS := Lib.hid HS
          have GR := Lib.hid (HRG.out rfl)
          clear HRG
          go_wp2_with ((with_reducible refine at_store rfl ?_); refine wpList_put_row rfl _ _ _ rfl rfl w.heap.size _ rfl rfl _ _ P9.out (by kernel_rfl) rfl (by first | kernel_rfl | simp [Value.oneCell']) ?_; intro w10 P10 B10)
          go_roundw
          case rel => exact ⟨j + 1, r1, r2, A8, n8, c8, by omega, by go_num, HS, GR, Lib.hid P10, Lib.hid (Z9.out.but B10 (by omega)), Lib.hid (I9.out.apart P9.out B10), Lib.hid (B9.out.trans (B10.below (Nat.le_refl _) B9.out.size))⟩
          case measure => simp [intOf]; omega
        · rw [if_pos hr4] at HS
          have HR : Hid (R = (0, [], r4)) := Lib.hid (by rw [← HR.out, allF_end (by rw [HS]; exact hr4), HS])
          have hqb : ((r4 : Int) != 0) = true := by simp [hr4]
          clear HRG HS hr4
          go_wp2_with ((with_reducible refine at_store rfl ?_); refine wpList_put_row rfl _ _ _ rfl rfl (w.heap.size + 1) _ rfl rfl _ _ Z9.out (by kernel_rfl) rfl (by first | kernel_rfl | simp [Value.oneCell']) ?_; intro w11 Z11 B11)
          (try simp only [Exit.inBlock, Exit.then])
          refine bodyPost_ret (v := .tuple #[.agg #[.int .i64 0, .slice none 0 0], .int .i64 r4]) ?_ rfl ⟨none, 0, 0, by rw [HR.out], by rw [HR.out]; exact IsSlots.nil _, ?_⟩
          · refine Eq.trans (results_cell_one (p := 6) (u := 7) ?_ _ _ (w.heap.size + 1) _ _ _ fs ?_ Z11 Hu.out (by kernel_rfl)) ?_
            all_goals rfl
          · exact B9.out.trans (B11.below (by omega) B9.out.size)
      · have HS := HGo.out rfl hpe
        try simp only at HS
        clear HSkip HGo hpe
        obtain ⟨w7, hw7⟩ : ∃ w7 : World, w7 = wr := ⟨_, rfl⟩
        rw [← hw7] at P Z I B x0 x1 x2 x3 x4 x5 x6 x7 x8 x9 x10 x11 x12 hzz hbl ⊢
        clear hw7
        have p0 := P.out.cell 0 _ rfl
        have p1 := P.out.cell 1 _ rfl
        have hz0 : w.heap.size < w7.heap.size := P.out.lt
        go_upto_region 7 with (fail)
        go_cut [9, 11] from 45 to 54 (fun v9 v11 wx => ∃ gq A8 n8 c8, v9 = .pointer (some ⟨gq, 0, none⟩) ∧ v11 = .int .i64 r4 ∧ Hid (Has wx gq (.cells #[.int .i64 r1, .slice A8 n8 c8] 24)) ∧ Hid (IsSlots wx A8 n8 c8 r2) ∧ Hid (Below w7.heap.size w7 wx))
        case first =>
          go_region_law ((go_simp; go_at_call 12; refine (CR.out _ (by repeat (first | exact I.out | refine IsSlots.drew ?_ | refine IsSlots.alloc ?_ _))).mono ?_; rintro e w8 ⟨A8, n8, c8, rfl, I8, b8⟩; obtain ⟨hc5, hf5⟩ := bcell b8; have hz5 := b8.size))
          all_goals
            clear hc5 hf5 hz5 p0 p1 x0 x1 x2 x3 x4 x5 x6 x7 x8 x9 x10 x11 x12
            go_wp2_with fail
            go_meet
            first
            | exact ⟨_, _, _, _, rfl, rfl, close_out (by repeat (first | exact Below.refl _ _ | refine Below.drew ?_ | refine bup ?_ (bnew _ _))) b8 I8⟩
            | exact ⟨_, _, _, _, rfl, rfl, close_in (by repeat (first | exact Below.refl _ _ | refine Below.drew ?_ | refine bup ?_ (bnew _ _))) (by simp) (by repeat (first | exact Has.new _ _ | exact Has.new1 _ _ _ | refine Has.drew ?_ | refine Has.alloc ?_ _)) b8 I8⟩
        case rest =>
        obtain ⟨gq, A8, n8, c8, rfl, rfl, Q9, I9, BX⟩ := hcut
        have P9 := Lib.hid (P.out.below BX.out)
        have Z9 := Lib.hid (Z.out.below BX.out)
        have B9 := Lib.hid (bup B.out BX.out)
        clear P Z I B BX p0 p1 x0 x1 x2 x3 x4 x5 x6 x7 x8 x9 x10 x11 x12
        have q0 := Q9.out.cell 0 _ rfl
        have q1 := Q9.out.cell 1 _ rfl
        by_cases hr4 : r4 = 0
        · subst hr4
          rw [if_neg (by simp)] at HS
          replace HS := Lib.hid HS
          have GR := Lib.hid (HRG.out rfl)
          clear HRG
          go_wp2_with ((with_reducible refine at_store rfl ?_); refine wpList_put_row rfl _ _ _ rfl rfl w.heap.size _ rfl rfl _ _ P9.out (by kernel_rfl) rfl (by first | kernel_rfl | simp [Value.oneCell']) ?_; intro w10 P10 B10)
          go_roundw
          case rel => exact ⟨j + 1, r1, r2, A8, n8, c8, by omega, by go_num, HS, GR, Lib.hid P10, Lib.hid (Z9.out.but B10 (by omega)), Lib.hid (I9.out.apart P9.out B10), Lib.hid (B9.out.trans (B10.below (Nat.le_refl _) B9.out.size))⟩
          case measure => simp [intOf]; omega
        · rw [if_pos hr4] at HS
          have HR : Hid (R = (0, [], r4)) := Lib.hid (by rw [← HR.out, allF_end (by rw [HS]; exact hr4), HS])
          have hqb : ((r4 : Int) != 0) = true := by simp [hr4]
          clear HRG HS hr4
          go_wp2_with ((with_reducible refine at_store rfl ?_); refine wpList_put_row rfl _ _ _ rfl rfl (w.heap.size + 1) _ rfl rfl _ _ Z9.out (by kernel_rfl) rfl (by first | kernel_rfl | simp [Value.oneCell']) ?_; intro w11 Z11 B11)
          (try simp only [Exit.inBlock, Exit.then])
          refine bodyPost_ret (v := .tuple #[.agg #[.int .i64 0, .slice none 0 0], .int .i64 r4]) ?_ rfl ⟨none, 0, 0, by rw [HR.out], by rw [HR.out]; exact IsSlots.nil _, ?_⟩
          · refine Eq.trans (results_cell_one (p := 6) (u := 7) ?_ _ _ (w.heap.size + 1) _ _ _ fs ?_ Z11 Hu.out (by kernel_rfl)) ?_
            all_goals rfl
          · exact B9.out.trans (B11.below (by omega) B9.out.size)
    · obtain rfl : j = m := by omega
      have HR : Hid (R = (ln, q, 0)) := Lib.hid (by rw [← HR.out, ← Dj.out, List.take_of_length_le (by omega)])
      clear Dj hlt hj
      have p0 := P.out.cell 0 _ rfl
      have p1 := P.out.cell 1 _ rfl
      go_wp2_with ((with_reducible refine at_store rfl ?_); refine wpList_put_row rfl _ _ _ rfl rfl (w.heap.size + 1) _ rfl rfl _ _ Z.out (by kernel_rfl) rfl (by first | kernel_rfl | simp [Value.oneCell']) ?_; intro w9 Z9 B9)
      (try simp only [Exit.inBlock, Exit.then])
      refine bodyPost_ret (v := .tuple #[.agg #[.int .i64 ln, .slice A' n' c'], .int .i64 0]) ?_ rfl ⟨A', n', c', by rw [HR.out], by rw [HR.out]; exact I.out.apart Z.out B9, ?_⟩
      · refine Eq.trans (results_cell_one (p := 6) (u := 7) ?_ _ _ (w.heap.size + 1) _ _ _ fs ?_ Z9 Hu.out (by kernel_rfl)) ?_
        all_goals rfl
      · exact B.out.trans (B9.below (by omega) B.out.size)
end Go.Proofs.Ytpgeiopknjfdmaa
