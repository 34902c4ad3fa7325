/-
  An image off the beginning of bytes.
-/
import Derived.Test.YtakdagmkkelnfaaNoF
import Derived.RegionTactic
import Derived.BigRegion
namespace Go.Proofs.Ytakdagmkkelnfaa
open Go.RowKit Go.Sort NibPure SumPure
set_option linter.unusedVariables false
set_option linter.unusedSimpArgs false
theorem But.join {b g : Nat} {w w1 w2 : World} (h : But b w w1) (k : But g w1 w2) (hg : w.heap.size ≤ g) : But b w w2 :=
  ⟨k.os.trans h.os, k.tape.trans h.tape, k.output.trans h.output, Nat.le_trans h.size k.size, fun j hj hb => (k.block j (Nat.lt_of_lt_of_le hj h.size) (by omega)).trans (h.block j hj hb)⟩
theorem But.after {b : Nat} {w w1 w2 : World} (h : But b w w1) (k : Below w1.heap.size w1 w2) : But b w w2 := h.trans (But.of k)
/-- A block that holds a text and a flag holds no slots. -/
theorem IsSlots.apartS {w w' : World} {A : Option Addr} {n c g : Nat} {l : List Sl} {s : ByteArray} {q : Bool} {t : TypeId} {fr : Nat × Nat} (h : IsSlots w A n c l) (hg : Has w g (.cells #[.string s, .bool q] t fr)) (hb : But g w w') : IsSlots w' A n c l := by
  refine h.but2 hb fun hn b off e => ?_
  rintro rfl
  subst e
  obtain ⟨b', off', x, e2, hx, _, c1, c2, _⟩ := h.at hn
  obtain ⟨rfl, rfl⟩ : b' = b ∧ off' = off := by cases e2; exact ⟨rfl, rfl⟩
  unfold Has at hg
  simp only [World.cell?, hg, Nat.zero_mul, Nat.add_zero] at c1 c2
  match off', c1, c2 with
  | 0, c1, _ => simp at c1
  | 1, _, c2 => simp at c2
  | j + 2, c1, _ => simp at c1
def ImgPost (b : Nat) (R : (Int × List Sl) × Sc) (w : World) (e : Ending) (w' : World) : Prop :=
  ∃ A n c, e = .returned (.agg #[.int .i64 R.1.1, .slice A n c]) ∧ IsSlots w' A n c R.1.2 ∧ Has w' b (.cells #[.string (bs R.2.1), .bool R.2.2] 52) ∧ But b w w'
set_option maxRecDepth 100000 in
set_option maxHeartbeats 8000000 in
theorem nscP_any (b : Nat) (r : List UInt8) (bad : Bool) (w : World) (hr : r.length ≤ 9223372036854775807) (h : Has w b (.cells #[.string (bs r), .bool bad] 52)) :
    Calls Try.prog 24 #[.pointer (some ⟨b, 0, none⟩)] w (ImgPost b (scP (r, bad)) w) := by
  obtain ⟨fs, hpu⟩ := pageUnd
  have Hu := Lib.hid hpu
  clear hpu
  have H := Lib.hid h
  have h0 := h.cell 0 _ rfl
  have h1 := h.cell 1 _ rfl
  have hf0 := h.free 0
  have hf1 := h.free 1
  have hbl := h.lt
  have hsz := bs_size r
  have hne : w.heap.size ≠ b := by omega
  clear h
  by_cases hs : r.length < 240
  · have hR : scP (r, bad) = ((0, []), r, true) := by unfold scP; rw [if_pos hs]
    rw [hR]
    clear hR
    obtain ⟨U, hU⟩ : ∃ U, bs r = U := ⟨_, rfl⟩
    rw [hU] at h0 hsz
    have HU := Lib.hid hU
    have hUs : (U.size : Int) < 240 := by omega
    clear hU hsz
    go_enter Try.func24, Try.ntmps24
    go_wp2_with fail
    (try simp only [Exit.inBlock, Exit.then])
    refine bodyPost_ret (v := .agg #[.int .i64 0, .slice none 0 0]) ?_ rfl ⟨none, 0, 0, rfl, IsSlots.nil _, ?_, ?_⟩
    · exact results_cell_row rfl _ _ w.heap.size _ _ _ _ rfl (Has.at _ _ (by simp)) Hu.out rfl (by kernel_rfl)
    · exact (H.out.set 1 _).alloc _
    · exact (But.set b 1 w _).trans (But.of (bnew _ _))
  · have hle : 240 ≤ r.length := by omega
    have CD := Lib.hid (fun w => pdec_any (bs (r.take 240)) (by rw [bs_size, List.length_take]; omega) w)
    rw [bs_data] at CD
    have hR : scP (r, bad) = (((pgDecR (pgDec (r.take 240))).1, (pgDecR (pgDec (r.take 240))).2.1), r.drop 240, bad || ((pgDecR (pgDec (r.take 240))).2.2 != 0)) := by unfold scP; rw [if_neg hs]
    rw [hR]
    have her := pgDecR_form (r.take 240)
    obtain ⟨R, hRe⟩ : ∃ R, pgDecR (pgDec (r.take 240)) = R := ⟨_, rfl⟩
    rw [hRe] at CD her ⊢
    obtain ⟨lsn, sl, er⟩ := R
    simp only at her ⊢
    have her : er = 0 ∨ er = 4 := her.imp id (fun h => h.1)
    clear hR hRe
    obtain ⟨U, hU⟩ : ∃ U, bs r = U := ⟨_, rfl⟩
    have hU1 : U.extract 0 240 = bs (r.take 240) := by rw [← hU]; exact bs_take r 240
    have hU2 : U.extract 240 U.size = bs (r.drop 240) := by rw [← hU]; exact bs_skip r 240 _ (bs_size r)
    rw [hU] at h0 hsz H
    have hUs : (240 : Int) ≤ (U.size : Int) := by omega
    have hUm : U.size ≤ 9223372036854775807 := by omega
    have HU2 := Lib.hid hU2
    clear hU hsz hU2 hs hle hr
    go_enter Try.func24, Try.ntmps24
    go_wp2_with fail
    refine (CD.out _).mono ?_
    rintro e w1 ⟨A, n, c, rfl, hI, b1⟩
    have I5 := Lib.hid (hI.alloc (.cells #[.int .i64 lsn, .slice A n c] 29))
    have G5 := Lib.hid (((Has.new w (.cells #[.int .i64 0, .slice none 0 0] 29)).below b1).alloc (.cells #[.int .i64 lsn, .slice A n c] 29))
    have H5 := Lib.hid (((H.out.alloc (.cells #[.int .i64 0, .slice none 0 0] 29)).below b1).alloc (.cells #[.int .i64 lsn, .slice A n c] 29))
    have P5 := Lib.hid (Has.new w1 (.cells #[.int .i64 lsn, .slice A n c] 29))
    have B5 : Hid (But b w (w1.alloc (.cells #[.int .i64 lsn, .slice A n c] 29))) := Lib.hid (But.of (bup (bup (bnew w _) b1) (bnew w1 _)))
    have hne3 : w1.heap.size ≠ b := by have := b1.size; simp at this; omega
    have hge3 : w.heap.size ≤ w1.heap.size := by have := b1.size; simp at this; omega
    clear hI b1 CD h0 h1 hf0 hf1 hU1
    go_upto_region 5 with (fail)
    generalize World.alloc w1 _ = w5 at I5 G5 H5 P5 B5 ⊢
    have h0 := H5.out.cell 0 _ rfl
    have h1 := H5.out.cell 1 _ rfl
    have hf0 := H5.out.free 0
    have hf1 := H5.out.free 1
    have hbl5 := H5.out.lt
    have hU2 := HU2.out
    cases bad with
    | false =>
      rcases her with rfl | rfl
      · go_region
        all_goals
          clear h0 h1 hf0 hf1 hbl5 hU2
          go_upto_region 6 with (fail)
          have K6 : Hid (But b w5 (((w5.setCell ⟨b, 0, none⟩ (.string (bs (r.drop 240)))).setCell ⟨b, 1, none⟩ (.bool false)).drew)) := Lib.hid (((But.set b 0 w5 _).trans (But.set b 1 _ _)).after ((Below.refl _ _).drew))
          have H6 : Hid (Has (((w5.setCell ⟨b, 0, none⟩ (.string (bs (r.drop 240)))).setCell ⟨b, 1, none⟩ (.bool false)).drew) b (.cells #[.string (bs (r.drop 240)), .bool false] 52)) := Lib.hid (((H5.out.set 0 _).set 1 _).drew)
          generalize World.drew _ = w6 at K6 H6 ⊢
          have G6 := Lib.hid (G5.out.but K6.out hne)
          have P6 := Lib.hid (P5.out.but K6.out hne3)
          have I6 := Lib.hid (I5.out.apartS H5.out K6.out)
          have p0 := P6.out.cell 0 _ rfl
          have p1 := P6.out.cell 1 _ rfl
          go_wp2_with ((with_reducible refine at_store rfl ?_); refine wpList_put_row rfl _ _ _ rfl rfl w.heap.size _ rfl rfl _ _ G6.out (by kernel_rfl) rfl (by first | kernel_rfl | simp [Value.oneCell']) ?_; intro w8 Z8 B8)
          (try simp only [Exit.inBlock, Exit.then])
          refine bodyPost_ret (v := .agg #[.int .i64 lsn, .slice A n c]) ?_ rfl ⟨A, n, c, rfl, I6.out.apart G6.out B8, ?_, ?_⟩
          · exact results_cell_row rfl _ _ w.heap.size _ _ _ _ rfl Z8 Hu.out rfl (by kernel_rfl)
          · exact H6.out.but B8 hne.symm
          · exact (B5.out.trans K6.out).join B8 (Nat.le_refl _)
      · go_region
        all_goals
          clear h0 h1 hf0 hf1 hbl5 hU2
          go_upto_region 6 with (fail)
          have K6 : Hid (But b w5 (((w5.setCell ⟨b, 0, none⟩ (.string (bs (r.drop 240)))).setCell ⟨b, 1, none⟩ (.bool true)).drew)) := Lib.hid (((But.set b 0 w5 _).trans (But.set b 1 _ _)).after ((Below.refl _ _).drew))
          have H6 : Hid (Has (((w5.setCell ⟨b, 0, none⟩ (.string (bs (r.drop 240)))).setCell ⟨b, 1, none⟩ (.bool true)).drew) b (.cells #[.string (bs (r.drop 240)), .bool true] 52)) := Lib.hid (((H5.out.set 0 _).set 1 _).drew)
          generalize World.drew _ = w6 at K6 H6 ⊢
          have G6 := Lib.hid (G5.out.but K6.out hne)
          have P6 := Lib.hid (P5.out.but K6.out hne3)
          have I6 := Lib.hid (I5.out.apartS H5.out K6.out)
          have p0 := P6.out.cell 0 _ rfl
          have p1 := P6.out.cell 1 _ rfl
          go_wp2_with ((with_reducible refine at_store rfl ?_); refine wpList_put_row rfl _ _ _ rfl rfl w.heap.size _ rfl rfl _ _ G6.out (by kernel_rfl) rfl (by first | kernel_rfl | simp [Value.oneCell']) ?_; intro w8 Z8 B8)
          (try simp only [Exit.inBlock, Exit.then])
          refine bodyPost_ret (v := .agg #[.int .i64 lsn, .slice A n c]) ?_ rfl ⟨A, n, c, rfl, I6.out.apart G6.out B8, ?_, ?_⟩
          · exact results_cell_row rfl _ _ w.heap.size _ _ _ _ rfl Z8 Hu.out rfl (by kernel_rfl)
          · exact H6.out.but B8 hne.symm
          · exact (B5.out.trans K6.out).join B8 (Nat.le_refl _)
    | true =>
      rcases her with rfl | rfl
      · go_region
        all_goals
          clear h0 h1 hf0 hf1 hbl5 hU2
          go_upto_region 6 with (fail)
          have K6 : Hid (But b w5 (((w5.setCell ⟨b, 0, none⟩ (.string (bs (r.drop 240)))).setCell ⟨b, 1, none⟩ (.bool true)).drew)) := Lib.hid (((But.set b 0 w5 _).trans (But.set b 1 _ _)).after ((Below.refl _ _).drew))
          have H6 : Hid (Has (((w5.setCell ⟨b, 0, none⟩ (.string (bs (r.drop 240)))).setCell ⟨b, 1, none⟩ (.bool true)).drew) b (.cells #[.string (bs (r.drop 240)), .bool true] 52)) := Lib.hid (((H5.out.set 0 _).set 1 _).drew)
          generalize World.drew _ = w6 at K6 H6 ⊢
          have G6 := Lib.hid (G5.out.but K6.out hne)
          have P6 := Lib.hid (P5.out.but K6.out hne3)
          have I6 := Lib.hid (I5.out.apartS H5.out K6.out)
          have p0 := P6.out.cell 0 _ rfl
          have p1 := P6.out.cell 1 _ rfl
          go_wp2_with ((with_reducible refine at_store rfl ?_); refine wpList_put_row rfl _ _ _ rfl rfl w.heap.size _ rfl rfl _ _ G6.out (by kernel_rfl) rfl (by first | kernel_rfl | simp [Value.oneCell']) ?_; intro w8 Z8 B8)
          (try simp only [Exit.inBlock, Exit.then])
          refine bodyPost_ret (v := .agg #[.int .i64 lsn, .slice A n c]) ?_ rfl ⟨A, n, c, rfl, I6.out.apart G6.out B8, ?_, ?_⟩
          · exact results_cell_row rfl _ _ w.heap.size _ _ _ _ rfl Z8 Hu.out rfl (by kernel_rfl)
          · exact H6.out.but B8 hne.symm
          · exact (B5.out.trans K6.out).join B8 (Nat.le_refl _)
      · go_region
        all_goals
          clear h0 h1 hf0 hf1 hbl5 hU2
          go_upto_region 6 with (fail)
          have K6 : Hid (But b w5 (((w5.setCell ⟨b, 0, none⟩ (.string (bs (r.drop 240)))).setCell ⟨b, 1, none⟩ (.bool true)).drew)) := Lib.hid (((But.set b 0 w5 _).trans (But.set b 1 _ _)).after ((Below.refl _ _).drew))
          have H6 : Hid (Has (((w5.setCell ⟨b, 0, none⟩ (.string (bs (r.drop 240)))).setCell ⟨b, 1, none⟩ (.bool true)).drew) b (.cells #[.string (bs (r.drop 240)), .bool true] 52)) := Lib.hid (((H5.out.set 0 _).set 1 _).drew)
          generalize World.drew _ = w6 at K6 H6 ⊢
          have G6 := Lib.hid (G5.out.but K6.out hne)
          have P6 := Lib.hid (P5.out.but K6.out hne3)
          have I6 := Lib.hid (I5.out.apartS H5.out K6.out)
          have p0 := P6.out.cell 0 _ rfl
          have p1 := P6.out.cell 1 _ rfl
          go_wp2_with ((with_reducible refine at_store rfl ?_); refine wpList_put_row rfl _ _ _ rfl rfl w.heap.size _ rfl rfl _ _ G6.out (by kernel_rfl) rfl (by first | kernel_rfl | simp [Value.oneCell']) ?_; intro w8 Z8 B8)
          (try simp only [Exit.inBlock, Exit.then])
          refine bodyPost_ret (v := .agg #[.int .i64 lsn, .slice A n c]) ?_ rfl ⟨A, n, c, rfl, I6.out.apart G6.out B8, ?_, ?_⟩
          · exact results_cell_row rfl _ _ w.heap.size _ _ _ _ rfl Z8 Hu.out rfl (by kernel_rfl)
          · exact H6.out.but B8 hne.symm
          · exact (B5.out.trans K6.out).join B8 (Nat.le_refl _)
end Go.Proofs.Ytakdagmkkelnfaa
