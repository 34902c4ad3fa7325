/-
  The reference's Decode.
-/
import Derived.Test.YtklmoigpalhlmaaSlDec
import Derived.StillTailTactics
import Derived.Deep.RegionLaw
namespace Go.Proofs.Ytklmoigpalhlmaa
open Go.RowKit
set_option linter.unusedVariables false
set_option linter.unusedSimpArgs false

theorem getN_high {S : List UInt8} (hS : S.length = 240) (h : getN (S.take 8) ≤ 1099511627776) : (S.getD 0 0).toNat = 0 ∧ (S.getD 1 0).toNat = 0 := by
  match S, hS with
  | a0 :: a1 :: a2 :: a3 :: a4 :: a5 :: a6 :: a7 :: r, _ =>
    simp [getN] at h ⊢
    omega
theorem pgDec_high {S : List UInt8} (h : (S.getD 0 0).toNat ≠ 0 ∨ (S.getD 1 0).toNat ≠ 0) : pgDec S = none := by
  cases hd : pgDec S with
  | none => rfl
  | some p =>
    exfalso
    unfold pgDec at hd
    split at hd
    · rename_i hS
      split at hd
      · cases hd
      · split at hd
        · rename_i hg
          have h1 := ((slGood_iff _ _).1 hg.1).1
          have := getN_high hS (by omega)
          omega
        · cases hd
    · cases hd
theorem getN_two {S : List UInt8} (hS : 2 ≤ S.length) (h0 : (S.getD 0 0).toNat = 0) (h1 : (S.getD 1 0).toNat = 0) : getN (S.take 2) = 0 := by
  match S, hS with
  | a0 :: a1 :: r, _ =>
    simp at h0 h1
    simp [getN, h0, h1]
theorem getN_take {S : List UInt8} {i : Nat} (h : i < S.length) : getN (S.take (i + 1)) = getN (S.take i) * 256 + (S.getD i 0).toNat := by
  rw [List.take_add_one, List.getElem?_eq_getElem h]
  simp only [Option.toList]
  rw [getN_snoc, List.getD_eq_getElem?_getD, List.getElem?_eq_getElem h]
  rfl
set_option maxRecDepth 100000 in
set_option maxHeartbeats 8000000 in
theorem rdec_early (S : List UInt8) (hS : S.length ≤ 9223372036854775807) (h : S.length ≠ 240 ∨ (S.length = 240 ∧ (S.getD 0 0).toNat ≠ 0) ∨ (S.length = 240 ∧ (S.getD 0 0).toNat = 0 ∧ (S.getD 1 0).toNat ≠ 0)) (w : World) :
    Calls Try.prog 29 #[.string (bs S)] w (PageOut (0, [], 4) w) := by
  obtain ⟨fs, hpu⟩ := pageUnd
  have Hu := Lib.hid hpu
  clear hpu
  obtain ⟨B, hBe⟩ : ∃ B, bs S = B := ⟨_, rfl⟩
  have hBs : B.size = S.length := by rw [← hBe, bs_size]
  have hat : ∀ k (h : k < B.size), B[k].toNat = (S.getD k 0).toNat := fun k h => by subst hBe; rw [bs_at]
  rw [hBe]
  have cases3 : (B.size ≠ 240) ∨ (∃ h0 : 0 < B.size, B.size = 240 ∧ B[0].toNat ≠ 0) ∨ (∃ (h0 : 0 < B.size) (h1 : 1 < B.size), B.size = 240 ∧ B[0].toNat = 0 ∧ B[1].toNat ≠ 0) := by
    rcases h with h | ⟨h, h0⟩ | ⟨h, h0, h1⟩
    · exact .inl (by omega)
    · exact .inr (.inl ⟨by omega, by omega, by rw [hat]; exact h0⟩)
    · exact .inr (.inr ⟨by omega, by omega, by omega, by rw [hat]; exact h0, by rw [hat]; exact h1⟩)
  clear hat h hBe
  rw [← hBs] at hS
  clear hBs
  rcases cases3 with h | ⟨hz, h, h0⟩ | ⟨hz, hz1, h, h0, h1⟩
  · have hb : ((B.size : Int) != 240) = true := by simp; omega
    go_enter Try.func29, Try.ntmps29
    go_wp2_with ((with_reducible refine at_store rfl ?_); refine wpList_put_row rfl _ _ _ rfl rfl w.heap.size _ rfl rfl _ _ (Has.new w _) (by kernel_rfl) rfl (by first | kernel_rfl | simp [Value.oneCell']) ?_; intro w8 Z8 B8)
    (try simp only [Exit.inBlock, Exit.then])
    refine bodyPost_ret (v := .tuple #[.agg #[.int .i64 0, .slice none 0 0], .int .i64 4]) ?_ rfl ⟨none, 0, 0, rfl, IsSlots.nil _, ?_⟩
    · refine Eq.trans (results_cell_one (p := 2) (u := 3) ?_ _ _ w.heap.size _ _ _ fs ?_ Z8 Hu.out (by kernel_rfl)) ?_
      all_goals rfl
    · exact (bnew w _).trans (B8.below (Nat.le_refl _) (bnew w _).size)
  · have hb : ((B[0].toNat : Int) != 0) = true := by simp; omega
    go_enter Try.func29, Try.ntmps29
    go_wp2_with ((with_reducible refine at_store rfl ?_); refine wpList_put_row rfl _ _ _ rfl rfl w.heap.size _ rfl rfl _ _ (Has.new w _) (by kernel_rfl) rfl (by first | kernel_rfl | simp [Value.oneCell']) ?_; intro w8 Z8 B8)
    (try simp only [Exit.inBlock, Exit.then])
    refine bodyPost_ret (v := .tuple #[.agg #[.int .i64 0, .slice none 0 0], .int .i64 4]) ?_ rfl ⟨none, 0, 0, rfl, IsSlots.nil _, ?_⟩
    · refine Eq.trans (results_cell_one (p := 2) (u := 3) ?_ _ _ w.heap.size _ _ _ fs ?_ Z8 Hu.out (by kernel_rfl)) ?_
      all_goals rfl
    · exact (bnew w _).trans (B8.below (Nat.le_refl _) (bnew w _).size)
  · have hb0 : ((B[0].toNat : Int) != 0) = false := by simp; omega
    have hb : ((B[1].toNat : Int) != 0) = true := by simp; omega
    clear h0
    go_enter Try.func29, Try.ntmps29
    go_wp2_with ((with_reducible refine at_store rfl ?_); refine wpList_put_row rfl _ _ _ rfl rfl w.heap.size _ rfl rfl _ _ (Has.new w _) (by kernel_rfl) rfl (by first | kernel_rfl | simp [Value.oneCell']) ?_; intro w8 Z8 B8)
    (try simp only [Exit.inBlock, Exit.then])
    refine bodyPost_ret (v := .tuple #[.agg #[.int .i64 0, .slice none 0 0], .int .i64 4]) ?_ rfl ⟨none, 0, 0, rfl, IsSlots.nil _, ?_⟩
    · refine Eq.trans (results_cell_one (p := 2) (u := 3) ?_ _ _ w.heap.size _ _ _ fs ?_ Z8 Hu.out (by kernel_rfl)) ?_
      all_goals rfl
    · exact (bnew w _).trans (B8.below (Nat.le_refl _) (bnew w _).size)
theorem RowS.keep {base : Nat} {w w' : World} {v : Value} {q : List Sl} {g : Nat} (h : RowS base w v q) (hb : But g w w') (hg : g < base) : RowS base w' v q := by
  refine ownsRow_other h (row := some g) ⟨hb.os, hb.tape, hb.output, hb.size, fun k hk hne => hb.block k hk (fun e => hne (by rw [e]))⟩ ?_
  intro g' hg' e
  cases e
  have := (World.ownsRow.lt h _ hg').1
  omega
theorem rdOne_at {S : List UInt8} (hS : S.length = 240) {a m : Nat} (ha : a < 240) (hm : (S.getD a 0).toNat = m) :
    rdOne (S.drop a) = if m = 255 then some (Sl.none, S.drop (a + 1)) else if 240 < a + 1 + m then none else some (⟨true, bs ((S.drop (a + 1)).take m)⟩, S.drop (a + 1 + m)) := by
  have hd : S.drop a = S.getD a 0 :: S.drop (a + 1) := by
    rw [List.drop_eq_getElem_cons (by omega), List.getD_eq_getElem?_getD, List.getElem?_eq_getElem (by omega)]; rfl
  rw [hd]
  simp only [rdOne]
  rw [hm, List.length_drop, List.drop_drop, hS]
  by_cases h1 : m = 255
  · rw [if_pos h1, if_pos h1]
  · rw [if_neg h1, if_neg h1]
    by_cases h2 : 240 < a + 1 + m
    · rw [if_pos (by omega), if_pos h2]
    · rw [if_neg (by omega), if_neg h2]
theorem bs_mid (r : List UInt8) (i j : Nat) : (bs r).extract i j = bs ((r.drop i).take (j - i)) := by
  apply ByteArray.ext
  apply Array.ext'
  simp [bs, ByteArray.data_extract, List.extract_eq_take_drop]
set_option maxRecDepth 100000 in
set_option maxHeartbeats 8000000 in
theorem rdec_in (S : List UInt8) (hS : S.length = 240) (h0 : (S.getD 0 0).toNat = 0) (h1 : (S.getD 1 0).toNat = 0) (w : World) :
    Calls Try.prog 29 #[.string (bs S)] w (PageOut (pgDecR (pgDec S)) w) := by
  obtain ⟨fs, hpu⟩ := pageUnd
  have Hu := Lib.hid hpu
  have HS := Lib.hid hS
  obtain ⟨B, hBe⟩ : ∃ B, bs S = B := ⟨_, rfl⟩
  have hB : B.size = 240 := by rw [← hBe, bs_size, hS]
  have hat : ∀ k (h : k < B.size), B[k].toNat = (S.getD k 0).toNat := fun k h => by subst hBe; rw [bs_at]
  have b0l : 0 < B.size := by omega
  have b1l : 1 < B.size := by omega
  have hb0 : ((B[0].toNat : Int) != 0) = false := by rw [hat, h0]; rfl
  have hb1 : ((B[1].toNat : Int) != 0) = false := by rw [hat, h1]; rfl
  have HB := Lib.hid hBe
  have HAT := Lib.hid hat
  have HN2 := Lib.hid (getN_two (by omega) h0 h1)
  have HNT := Lib.hid (fun i (h : i < 240) => getN_take (S := S) (i := i) (by omega))
  have HNL : Hid (∀ i, i ≤ 8 → getN (S.take i) < 281474976710656) := Lib.hid (fun i hi => by
    match S, hS with
    | a0 :: a1 :: a2 :: a3 :: a4 :: a5 :: a6 :: a7 :: r, _ =>
      simp at h0 h1
      have q2 := a2.toNat_lt
      have q3 := a3.toNat_lt
      have q4 := a4.toNat_lt
      have q5 := a5.toNat_lt
      have q6 := a6.toNat_lt
      have q7 := a7.toNat_lt
      match i, hi with
      | 0, _ => simp [getN]
      | 1, _ => simp [getN, h0]
      | 2, _ => simp [getN, h0, h1]
      | 3, _ => simp [getN, h0, h1]; omega
      | 4, _ => simp [getN, h0, h1]; omega
      | 5, _ => simp [getN, h0, h1]; omega
      | 6, _ => simp [getN, h0, h1]; omega
      | 7, _ => simp [getN, h0, h1]; omega
      | 8, _ => simp [getN, h0, h1]; omega)
  rw [hBe]
  clear hBe hS hat h0 h1
  go_enter Try.func29, Try.ntmps29
  go_upto_region 4 with (fail)
  generalize hw1 : World.alloc (World.alloc w _) _ = w1
  have Z := Lib.hid (by rw [← hw1]; exact (Has.new w _).alloc _ : Has w1 w.heap.size (.cells #[.int .i64 0, .slice none 0 0] 24))
  have P := Lib.hid (by rw [← hw1]; exact Has.new1 w _ _ : Has w1 (w.heap.size + 1) (.cells #[.int .i64 0, .slice none 0 0] 24))
  have B1 := Lib.hid (by rw [← hw1]; exact bup (bnew w _) (bnew _ _) : Below w.heap.size w w1)
  have hz1 : w.heap.size + 1 < w1.heap.size := P.out.lt
  clear hw1 hb0 hb1 b0l b1l
  go_wp2_with fail
  go_loopw [5] (fun i wr => ∃ j : Nat, 2 ≤ j ∧ j ≤ 8 ∧ i = .int .i64 j ∧ Hid (Has wr (w.heap.size + 1) (.cells #[.int .i64 (getN (S.take j) : Nat), .slice none 0 0] 24)) ∧ Hid (Has wr w.heap.size (.cells #[.int .i64 0, .slice none 0 0] 24)) ∧ Hid (Below w.heap.size w wr)) (fun i _ => 8 - (intOf i).toNat)
  case atStart => exact ⟨2, by omega, by omega, rfl, by rw [HN2.out]; exact P, Z, B1⟩
  case round =>
    clear P Z B1 hz1
    obtain ⟨j, hj2, hj8, rfl, P, Z, B1⟩ := hrel
    have hz1 : w.heap.size + 1 < wr.heap.size := P.out.lt
    by_cases hlt : j < 8
    · have hjB : j < B.size := by omega
      have hNT := HNT.out j (by omega)
      have hNL := HNL.out j (by omega)
      rw [← HAT.out j hjB] at hNT
      have hbj : B[j].toNat < 256 := B[j].toNat_lt
      have HNJ := Lib.hid hNT
      obtain ⟨x, hx⟩ : ∃ x, getN (S.take j) = x := ⟨_, rfl⟩
      rw [hx] at P hNL HNJ
      clear hNT hx
      have p0 := P.out.cell 0 _ rfl
      have f0 := P.out.free 0
      have hj0 : (0 : Int) ≤ (j : Int) := by omega
      obtain ⟨y, hy⟩ : ∃ y, B[j].toNat = y := ⟨_, rfl⟩
      have hidx : ∀ w, (Instr.index 9 (.string B) (.int .i64 (j : Int))).run Try.prog w = .ok (.int .u8 (y : Int)) w := by
        intro w
        rw [run_index_string (P := Try.prog) w 9 B .i64 j Try.underlying9]
        simp [hjB, ← hy]
      rw [hy] at hbj HNJ
      clear hy
      have hw1 : IntKind.i64.wrap (256 * (x : Int)) = 256 * x := IntWalk.i64_in _ (by omega)
      have hw2 : IntKind.i64.wrap (256 * (x : Int) + y) = 256 * x + y := IntWalk.i64_in _ (by omega)
      have HX : Hid (Has (wr.setCell ⟨w.heap.size + 1, 0, none⟩ (.int .i64 (256 * x + y))) (w.heap.size + 1) (.cells #[.int .i64 (getN (S.take (j + 1)) : Nat), .slice none 0 0] 24)) := Lib.hid (by
        have e := HNJ.out
        rw [show ((getN (S.take (j + 1)) : Nat) : Int) = 256 * x + y by rw [e]; push_cast; omega]
        exact P.out.set 0 _)
      go_upto_region 7 with (fail)
      go_still_tail 9, (by kernel_rfl)
      change wpList _ _ _ _ _ wr.drew
      have P' : Hid (Has wr.drew (w.heap.size + 1) (.cells #[.int .i64 x, .slice none 0 0] 24)) := P
      have ZX : Hid (Has (wr.setCell ⟨w.heap.size + 1, 0, none⟩ (.int .i64 (256 * x + y))) w.heap.size (.cells #[.int .i64 0, .slice none 0 0] 24)) := Lib.hid (Z.out.setOther (by omega) _ _)
      have BX : Hid (Below w.heap.size w (wr.setCell ⟨w.heap.size + 1, 0, none⟩ (.int .i64 (256 * x + y)))) := Lib.hid (B1.out.setCell (p := ⟨w.heap.size + 1, 0, none⟩) (by show w.heap.size ≤ w.heap.size + 1; omega) _)
      go_wp2_with fail
      go_roundw
      case rel => exact ⟨j + 1, by omega, by omega, by go_num, Lib.hid HX.out.drew, Lib.hid ZX.out.drew, Lib.hid BX.out.drew⟩
      case measure => simp [intOf]; omega
    · obtain rfl : j = 8 := by omega
      rw [show ((8 : Nat) : Int) = (8 : Int) from rfl]
      have h8l : 8 < B.size := by omega
      obtain ⟨lim, hlim⟩ : ∃ lim, B[8].toNat = lim := ⟨_, rfl⟩
      have hlim8 : lim < 256 := by rw [← hlim]; exact B[8].toNat_lt
      have HLIM : Hid ((S.getD 8 0).toNat = lim) := Lib.hid (by rw [← HAT.out 8 h8l]; exact hlim)
      have hNL := HNL.out 8 (by omega)
      obtain ⟨N, hN⟩ : ∃ N, getN (S.take 8) = N := ⟨_, rfl⟩
      have HN := Lib.hid hN
      rw [hN] at P hNL
      obtain ⟨w2, rfl⟩ : ∃ w2 : World, w2 = wr := ⟨_, rfl⟩
      have D0 : Hid (rdSt (S.drop 9) 0 = some ([], S.drop 9)) := Lib.hid rfl
      have R0 := Lib.hid (RowS.nil w2.heap.size w2)
      have hHP : Hid (∀ o : Option (List Sl × List UInt8), rdSt (S.drop 9) lim = o → pgDec S = match o with | none => none | some (l, u) => if slGood (N : Int) l = true ∧ pgBytes (N : Int) l = S then some ((N : Int), l) else none) := Lib.hid (fun o ho => by
        unfold pgDec
        rw [if_pos HS.out, HLIM.out, ho, HN.out]
        cases o with
        | none => rfl
        | some p => rfl)
      clear hN HN2 HNT HNL hlt hj2 hj8
      go_wp2_with fail
      go_loopw [6, 7] (fun at_ i wr => ∃ (k a : Nat) (l : List Sl) (v : Value), k ≤ lim ∧ 9 ≤ a ∧ a ≤ 240 ∧ at_ = .int .i64 a ∧ i = .int .i64 k ∧ Hid (rdSt (S.drop 9) k = some (l, S.drop a)) ∧ Hid (Has wr (w.heap.size + 1) (.cells #[.int .i64 (N : Int), v] 24)) ∧ Hid (Has wr w.heap.size (.cells #[.int .i64 0, .slice none 0 0] 24)) ∧ Hid (RowS w2.heap.size wr v l) ∧ Hid (Below w.heap.size w wr) ∧ w2.heap.size ≤ wr.heap.size) (fun _ i _ => lim - (intOf i).toNat)
      case atStart => exact ⟨0, 9, [], _, by omega, by omega, by omega, rfl, rfl, D0, P, Z, R0, B1, Nat.le_refl _⟩
      case round =>
        clear D0 P Z R0 B1
        obtain ⟨k, a, l, v, hk, ha9, ha, rfl, rfl, D, P, Z, R, B1, hz2⟩ := hrel
        obtain ⟨A', cap, rfl, hc1, hc2⟩ := R.out.form
        have p0 := P.out.cell 0 _ rfl
        have p1 := P.out.cell 1 _ rfl
        have f1 := P.out.free 1
        by_cases hlt : k < lim
        · by_cases ha2 : 240 ≤ a
          · have HR : Hid (pgDecR (pgDec S) = (0, [], 4)) := Lib.hid (by
              have hd : S.drop a = [] := List.drop_eq_nil_of_le (by rw [HS.out]; exact ha2)
              have h1 := D.out
              rw [hd] at h1
              rw [hHP.out none (rdSt_mono (rdSt_stop h1 rfl) (show k + 1 ≤ lim by omega))]; rfl)
            go_wp2_with ((with_reducible refine at_store rfl ?_); refine wpList_put_row rfl _ _ _ rfl rfl w.heap.size _ rfl rfl _ _ Z.out (by kernel_rfl) rfl (by first | kernel_rfl | simp [Value.oneCell']) ?_; intro w8 Z8 B8)
            (try simp only [Exit.inBlock, Exit.then])
            refine bodyPost_ret (v := .tuple #[.agg #[.int .i64 0, .slice none 0 0], .int .i64 4]) ?_ rfl ⟨none, 0, 0, by rw [HR.out], by rw [HR.out]; exact IsSlots.nil _, ?_⟩
            · refine Eq.trans (results_cell_one (p := 2) (u := 3) ?_ _ _ w.heap.size _ _ _ fs ?_ Z8 Hu.out (by kernel_rfl)) ?_
              all_goals rfl
            · exact B1.out.trans (B8.below (Nat.le_refl _) B1.out.size)
          · have haB : a < B.size := by omega
            obtain ⟨m, hm⟩ : ∃ m, B[a].toNat = m := ⟨_, rfl⟩
            have hm256 : m < 256 := by rw [← hm]; exact B[a].toNat_lt
            have HO := rdOne_at HS.out (show a < 240 by omega) (show (S.getD a 0).toNat = m by rw [← HAT.out a haB]; exact hm)
            obtain ⟨hl1, _, hl3⟩ := rdSt_len D.out
            have hl256 : l.length ≤ 256 := by omega
            clear hl1 hl3
            by_cases h255 : m = 255
            · rw [if_pos h255] at HO
              have D2 := Lib.hid (rdSt_step D.out HO)
              have hb : ((m : Int) == 255) = true := by simp [h255]
              clear HO h255
              go_wp2_with (at_builtin; refine grow_new slotElem rfl (.tmp 56) (.tmp 58) rfl w2.heap.size _ _ l.length (flat l) rfl (by exact R.out) 1 #[.bool false, .string ⟨#[]⟩] rfl rfl (by simp [Value.oneCell']) (by omega) (by omega) hz2 ?_; intro v6 w6 R6 g6 b6; obtain ⟨A6, cap6, rfl, h61, h62⟩ := ownsRow_form R6; have P6 := Lib.hid (P.out.low b6 hz1); have p61 := P6.out.cell 1 _ rfl; have f61 := P6.out.free 1)
              go_roundw
              case rel =>
                have hB6 := B1.out.trans (b6.mono (show w.heap.size ≤ w2.heap.size by omega))
                refine ⟨k + 1, a + 1, l ++ [Sl.none], _, by omega, by omega, by omega, by go_num, by go_num, D2, Lib.hid (P6.out.set 1 _), Lib.hid ((Z.out.low b6 (by omega)).setOther (by omega) _ _), Lib.hid ((RowS.snoc R6).keep (But.set (w.heap.size + 1) 1 _ _) hz1), Lib.hid (hB6.setCell (p := ⟨w.heap.size + 1, 1, none⟩) (by show w.heap.size ≤ w.heap.size + 1; omega) _), ?_⟩
                have := b6.size
                simp; omega
              case measure => simp [intOf]; omega
            · rw [if_neg h255] at HO
              have hb : ((m : Int) == 255) = false := by simp; omega
              by_cases hlong : 240 < a + 1 + m
              · rw [if_pos hlong] at HO
                have HR : Hid (pgDecR (pgDec S) = (0, [], 4)) := Lib.hid (by
                  rw [hHP.out none (rdSt_mono (rdSt_stop D.out HO) (show k + 1 ≤ lim by omega))]; rfl)
                clear HO h255
                go_wp2_with ((with_reducible refine at_store rfl ?_); refine wpList_put_row rfl _ _ _ rfl rfl w.heap.size _ rfl rfl _ _ Z.out (by kernel_rfl) rfl (by first | kernel_rfl | simp [Value.oneCell']) ?_; intro w8 Z8 B8)
                (try simp only [Exit.inBlock, Exit.then])
                refine bodyPost_ret (v := .tuple #[.agg #[.int .i64 0, .slice none 0 0], .int .i64 4]) ?_ rfl ⟨none, 0, 0, by rw [HR.out], by rw [HR.out]; exact IsSlots.nil _, ?_⟩
                · refine Eq.trans (results_cell_one (p := 2) (u := 3) ?_ _ _ w.heap.size _ _ _ fs ?_ Z8 Hu.out (by kernel_rfl)) ?_
                  all_goals rfl
                · exact B1.out.trans (B8.below (Nat.le_refl _) B1.out.size)
              · rw [if_neg hlong] at HO
                have D2 := Lib.hid (rdSt_step D.out HO)
                have hV : B.extract (a + 1) (a + 1 + m) = bs ((S.drop (a + 1)).take m) := by
                  rw [← HB.out, bs_mid, show a + 1 + m - (a + 1) = m by omega]
                obtain ⟨X, hX⟩ : ∃ X, bs ((S.drop (a + 1)).take m) = X := ⟨_, rfl⟩
                rw [hX] at hV D2
                have hV' : B.extract (a + 1) ((a : Int) + 1 + (m : Int)).toNat = X := by rw [show ((a : Int) + 1 + (m : Int)).toNat = a + 1 + m by omega]; exact hV
                clear HO h255 hX
                go_upto_region 20 with (fail)
                have hw1 : IntKind.i64.wrap ((a : Int) + 1 + m) = (a : Int) + 1 + m := IntWalk.i64_in _ (by omega)
                have ha1 : (0 : Int) ≤ (a : Int) + 1 := by omega
                have ha2' : (0 : Int) ≤ (a : Int) + 1 + m := by omega
                have ha3' : (a : Int) + 1 ≤ (a : Int) + 1 + m := by omega
                have ha4' : (a : Int) + 1 + m ≤ 240 := by omega
                have HRow : RowS w2.heap.size (wr.alloc (.cells #[.bool true, .string X] 33)).drew (.slice A' l.length cap) l := ownsRow_below R.out ((bnew wr _).drew)
                have HNew := news_at (Has.new wr (.cells #[.bool true, .string X] 33)).drew
                have HP : Has (wr.alloc (.cells #[.bool true, .string X] 33)).drew (w.heap.size + 1) (.cells #[.int .i64 (N : Int), .slice A' l.length cap] 24) := (P.out.alloc _).drew
                replace HRow := Lib.hid HRow
                replace HNew := Lib.hid HNew
                replace HP := Lib.hid HP
                have HB : w2.heap.size ≤ (wr.alloc (.cells #[.bool true, .string X] 33)).drew.heap.size := by simp; omega
                replace HB := Lib.hid HB
                have hz3 : w.heap.size + 1 < wr.heap.size := by omega
                go_region_law ((refine step_grow_old (w := (wr.alloc (.cells #[.bool true, .string X] 33)).drew) slotElem (by rfl) (.tmp 67) (.tmp 75) (by rfl) w2.heap.size (.slice A' l.length cap) l.length (flat l) (by rfl) HRow.out (some ⟨wr.heap.size, 0, none⟩) 1 1 [.bool true, .string X] (by rfl) rfl (.inr ⟨_, rfl, HNew.out⟩) (by simp [Value.oneCell']) (by omega) (by omega) HB.out ?_; intro v6 w6 R6 g6 b6; obtain ⟨A6, cap6, rfl, h61, h62⟩ := ownsRow_form R6; have P6 := Lib.hid (HP.out.low b6 hz1); have p61 := P6.out.cell 1 _ rfl; have f61 := P6.out.free 1))
                all_goals
                  go_wp2_with fail
                  go_roundw
                  case rel =>
                    have hB6 := ((bup B1.out (bnew wr (.cells #[.bool true, .string X] 33))).drew).trans (b6.mono (show w.heap.size ≤ w2.heap.size by omega))
                    refine ⟨k + 1, a + 1 + m, l ++ [⟨true, X⟩], _, by omega, by omega, by omega, by go_num, by go_num, D2, Lib.hid (P6.out.set 1 _), Lib.hid (((Z.out.alloc _).drew.low b6 (by omega)).setOther (by omega) _ _), Lib.hid ((RowS.snoc R6).keep (But.set (w.heap.size + 1) 1 _ _) hz1), Lib.hid (hB6.setCell (p := ⟨w.heap.size + 1, 1, none⟩) (by show w.heap.size ≤ w.heap.size + 1; omega) _), ?_⟩
                    have := b6.size
                    simp at this ⊢; omega
                  case measure => simp [intOf]; omega
        · obtain rfl : k = lim := by omega
          have HP := Lib.hid (hHP.out _ D.out)
          obtain ⟨hl1, _, hl3⟩ := rdSt_len D.out
          have HI := R.out.slots (fun x hx => by have := hl3 x hx; omega)
          obtain ⟨A2, cap2, hv2, I⟩ := HI
          obtain ⟨rfl, rfl⟩ : A' = A2 ∧ cap = cap2 := by cases hv2; exact ⟨rfl, rfl⟩
          have HI := Lib.hid I
          have HSP := Lib.hid (fun hg => pgDec_split HS.out (by rw [HLIM.out]; exact D.out) hg)
          have HNn := HN.out
          rw [HNn] at HSP
          have CG := fun w h => rgood_any (N : Int) A' l.length cap l w h
          have HLEN : Hid (l.length ≤ 256) := Lib.hid (by omega)
          clear hl1 hl3 hv2 I R D hHP HLIM hlt HNn
          go_wp2_with fail
          go_loop [6] (fun at_ => ∃ b : Nat, a ≤ b ∧ b ≤ 240 ∧ at_ = .int .i64 b ∧ Hid (∀ i, a ≤ i → i < b → (S.getD i 0) = 0)) (fun at_ => 240 - (intOf at_).toNat)
          case atStart => exact ⟨a, by omega, by omega, rfl, Lib.hid (fun i h1 h2 => by omega)⟩
          case round =>
            obtain ⟨b, hab, hb240, rfl, HZ⟩ := hrel
            by_cases hlt : b < 240
            · have hbB : b < B.size := by omega
              obtain ⟨m, hm⟩ : ∃ m, B[b].toNat = m := ⟨_, rfl⟩
              have HM : Hid ((S.getD b 0).toNat = m) := Lib.hid (by rw [← HAT.out b hbB]; exact hm)
              by_cases hm0 : m = 0
              · have HZ2 : Hid (∀ i, a ≤ i → i < b + 1 → (S.getD i 0) = 0) := Lib.hid (fun i h1 h2 => by
                  by_cases e : i = b
                  · subst e; exact UInt8.toNat_inj.1 (HM.out.trans hm0)
                  · exact HZ.out i h1 (by omega))
                have hbb : ((m : Int) != 0) = false := by simp [hm0]
                clear hm0
                go_wp2_with fail
                go_round
                case rel => exact ⟨b + 1, by omega, by omega, by go_num, HZ2⟩
                case measure => simp [intOf]; omega
              · have HR : Hid (pgDecR (pgDec S) = (0, [], 4)) := Lib.hid (by
                  have hp : pgDec S = if slGood (N : Int) l = true ∧ pgBytes (N : Int) l = S then some ((N : Int), l) else none := HP.out
                  rw [hp, if_neg]; rfl
                  rintro ⟨hg, he⟩
                  have hz := (HSP.out hg).1 he (S.getD b 0) (by
                    rw [List.mem_iff_getElem?]
                    refine ⟨b - a, ?_⟩
                    have hbl : b < S.length := by rw [HS.out]; exact hlt
                    rw [List.getElem?_drop, show a + (b - a) = b by omega, List.getD_eq_getElem?_getD, List.getElem?_eq_getElem hbl]; rfl)
                  have := HM.out
                  rw [hz] at this
                  exact hm0 this.symm)
                have hbb : ((m : Int) != 0) = true := by simp; omega
                clear hm0
                go_wp2_with ((with_reducible refine at_store rfl ?_); refine wpList_put_row rfl _ _ _ rfl rfl w.heap.size _ rfl rfl _ _ Z.out (by kernel_rfl) rfl (by first | kernel_rfl | simp [Value.oneCell']) ?_; intro w8 Z8 B8)
                (try simp only [Exit.inBlock, Exit.then])
                refine bodyPost_ret (v := .tuple #[.agg #[.int .i64 0, .slice none 0 0], .int .i64 4]) ?_ rfl ⟨none, 0, 0, by rw [HR.out], by rw [HR.out]; exact IsSlots.nil _, ?_⟩
                · refine Eq.trans (results_cell_one (p := 2) (u := 3) ?_ _ _ w.heap.size _ _ _ fs ?_ Z8 Hu.out (by kernel_rfl)) ?_
                  all_goals rfl
                · exact B1.out.trans (B8.below (Nat.le_refl _) B1.out.size)
            · obtain rfl : b = 240 := by omega
              rw [show ((240 : Nat) : Int) = (240 : Int) from rfl]
              have HZZ : Hid (∀ x ∈ S.drop a, x = 0) := Lib.hid (fun x hx => by
                obtain ⟨i, hi⟩ := List.mem_iff_getElem?.1 hx
                rw [List.getElem?_drop] at hi
                have hil := (List.getElem?_eq_some_iff.1 hi).1
                have := HZ.out (a + i) (by omega) (by rw [HS.out] at hil; exact hil)
                rw [List.getD_eq_getElem?_getD, hi] at this
                exact this)
              have hp : pgDec S = if slGood (N : Int) l = true ∧ pgBytes (N : Int) l = S then some ((N : Int), l) else none := HP.out
              have hcapA := HI.out.cap
              have hmostA := HI.out.most
              cases hg : slGood (N : Int) l with
              | false =>
                rw [hg] at CG hp
                replace CG := Lib.hid CG
                have HR : Hid (pgDecR (pgDec S) = (0, [], 4)) := Lib.hid (by rw [hp, if_neg (by simp)]; rfl)
                clear hp hg
                go_wp2_with fail
                refine (CG.out _ HI.out).mono ?_
                rintro e w5 ⟨rfl, b5⟩
                have Z5 := Lib.hid (Z.out.below b5)
                have B5 := Lib.hid (bup B1.out b5)
                clear b5
                go_wp2_with ((with_reducible refine at_store rfl ?_); refine wpList_put_row rfl _ _ _ rfl rfl w.heap.size _ rfl rfl _ _ Z5.out (by kernel_rfl) rfl (by first | kernel_rfl | simp [Value.oneCell']) ?_; intro w8 Z8 B8)
                (try simp only [Exit.inBlock, Exit.then])
                refine bodyPost_ret (v := .tuple #[.agg #[.int .i64 0, .slice none 0 0], .int .i64 4]) ?_ rfl ⟨none, 0, 0, by rw [HR.out], by rw [HR.out]; exact IsSlots.nil _, ?_⟩
                · refine Eq.trans (results_cell_one (p := 2) (u := 3) ?_ _ _ w.heap.size _ _ _ fs ?_ Z8 Hu.out (by kernel_rfl)) ?_
                  all_goals rfl
                · exact B5.out.trans (B8.below (Nat.le_refl _) B5.out.size)
              | true =>
                have heq := (HSP.out hg).2 HZZ.out
                rw [if_pos ⟨hg, heq⟩] at hp
                rw [hg] at CG
                replace CG := Lib.hid CG
                have HR : Hid (pgDecR (pgDec S) = ((N : Int), l, 0)) := Lib.hid (by rw [hp]; rfl)
                clear hp hg heq
                go_wp2_with fail
                refine (CG.out _ HI.out).mono ?_
                rintro e w5 ⟨rfl, b5⟩
                have Z5 := Lib.hid (Z.out.below b5)
                have P5 := Lib.hid (P.out.below b5)
                have B5 := Lib.hid (bup B1.out b5)
                have I5 := Lib.hid (HI.out.below b5)
                have q0 := P5.out.cell 0 _ rfl
                have q1 := P5.out.cell 1 _ rfl
                clear b5
                go_wp2_with ((with_reducible refine at_store rfl ?_); refine wpList_put_row rfl _ _ _ rfl rfl w.heap.size _ rfl rfl _ _ Z5.out (by kernel_rfl) rfl (by first | kernel_rfl | simp [Value.oneCell']) ?_; intro w8 Z8 B8)
                (try simp only [Exit.inBlock, Exit.then])
                refine bodyPost_ret (v := .tuple #[.agg #[.int .i64 (N : Int), .slice A' l.length cap], .int .i64 0]) ?_ rfl ⟨A', l.length, cap, by rw [HR.out], by rw [HR.out]; exact I5.out.apart Z5.out B8, ?_⟩
                · refine Eq.trans (results_cell_one (p := 2) (u := 3) ?_ _ _ w.heap.size _ _ _ fs ?_ Z8 Hu.out (by kernel_rfl)) ?_
                  all_goals rfl
                · exact B5.out.trans (B8.below (Nat.le_refl _) B5.out.size)
theorem rdec_any (s : ByteArray) (hs : s.size ≤ 9223372036854775807) (w : World) :
    Calls Try.prog 29 #[.string s] w (PageOut (pgDecR (pgDec s.data.toList)) w) := by
  have hl : s.data.toList.length = s.size := Array.length_toList
  by_cases h : s.size = 240
  · by_cases h0 : (s.data.toList.getD 0 0).toNat = 0
    · by_cases h1 : (s.data.toList.getD 1 0).toNat = 0
      · exact rdec_in s.data.toList (by omega) h0 h1 w
      · rw [pgDec_high (.inr h1)]
        exact rdec_early s.data.toList (by omega) (.inr (.inr ⟨by omega, h0, h1⟩)) w
    · rw [pgDec_high (.inl h0)]
      exact rdec_early s.data.toList (by omega) (.inr (.inl ⟨by omega, h0⟩)) w
  · have : pgDec s.data.toList = none := by unfold pgDec; rw [if_neg (by omega)]
    rw [this]
    exact rdec_early s.data.toList (by omega) (.inl (by omega)) w
end Go.Proofs.Ytklmoigpalhlmaa
