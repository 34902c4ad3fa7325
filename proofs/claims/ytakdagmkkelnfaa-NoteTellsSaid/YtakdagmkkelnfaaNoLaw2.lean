/-
  Whatever body has its right check ahead is read as a right message, or refused by its form.
-/
import Derived.Test.YtakdagmkkelnfaaNoM
namespace Go.Proofs.Ytakdagmkkelnfaa
open Go.RowKit Go.Sort NibPure SumPure
set_option linter.unusedVariables false
set_option linter.unusedSimpArgs false
theorem forms (l : List UInt8) : ((decM (withSum l)).2 = 4 ∧ (decM (withSum l)).1 = Ms.zero) ∨ ((decM (withSum l)).2 = 0 ∧ (decM (withSum l)).1.good = true) := by
  have hl := highN_len (sum l) 4
  unfold decM
  rw [if_neg (by rw [withSum_len]; omega), withSum_take, withSum_drop, getN_highN _ _ (by have := sum_lt l; omega), if_neg (by simp)]
  cases h : decB l with
  | none => left; exact ⟨rfl, rfl⟩
  | some m => right; exact ⟨rfl, (decB_ok h).1⟩
theorem top4_get (n : Nat) (j : Nat) (hj : j < 4) : (byteVals (highN n 4))[j]? = some (.int .u8 ((n / 256 ^ (4 - 1 - j) % 256 : Nat) : Int)) := by
  unfold highN
  rw [hiK_get n 4 4 j hj, if_pos (by omega)]
theorem top4_conv (n : Nat) (w : World) :
    (convert 37 9 (.slice (some ⟨w.heap.size, 0, none⟩) 4 4)).run Try.prog (w.alloc (.cells #[.int .u8 ((n : Int) / 16777216 % 256), .int .u8 ((n : Int) / 65536 % 256), .int .u8 ((n : Int) / 256 % 256), .int .u8 ((n : Int) % 256)] 5)) =
      .ok (.string (bs (highN n 4))) (w.alloc (.cells #[.int .u8 ((n : Int) / 16777216 % 256), .int .u8 ((n : Int) / 65536 % 256), .int .u8 ((n : Int) / 256 % 256), .int .u8 ((n : Int) % 256)] 5)) := by
  have hlen := highN_len n 4
  have key : (.slice (some ⟨w.heap.size, 0, none⟩) 4 4 : Value) = .slice (some ⟨w.heap.size, 0, none⟩) (highN n 4).length 4 := by rw [hlen]
  rw [key]
  refine run_convert_bytes_back _ 37 9 5 ⟨w.heap.size, 0, none⟩ 4 (highN n 4) Try.underlying37 Try.underlying5 Try.underlying9 ?_
  intro j hj
  have hH := Has.new w (.cells #[.int .u8 ((n : Int) / 16777216 % 256), .int .u8 ((n : Int) / 65536 % 256), .int .u8 ((n : Int) / 256 % 256), .int .u8 ((n : Int) % 256)] 5)
  have hj4 : j < 4 := by rw [hlen] at hj; exact hj
  have g := top4_get n j hj4
  have gx : (byteVals (highN n 4))[j]? = some (.int .u8 (((highN n 4)[j]).toNat : Int)) := by unfold byteVals; rw [List.getElem?_map, List.getElem?_eq_getElem hj]; rfl
  have ge : (((highN n 4)[j]).toNat : Int) = ((n / 256 ^ (4 - 1 - j) % 256 : Nat) : Int) := by
    have := gx.symm.trans g
    simpa using this
  match j, hj4 with
  | 0, _ => exact hH.cell 0 _ (Eq.trans (b := some (Value.int .u8 ((n / 256 ^ (4 - 1 - 0) % 256 : Nat) : Int))) (by simp) (congrArg (fun v => some (Value.int .u8 v)) ge.symm))
  | 1, _ => exact hH.cell 1 _ (Eq.trans (b := some (Value.int .u8 ((n / 256 ^ (4 - 1 - 1) % 256 : Nat) : Int))) (by simp) (congrArg (fun v => some (Value.int .u8 v)) ge.symm))
  | 2, _ => exact hH.cell 2 _ (Eq.trans (b := some (Value.int .u8 ((n / 256 ^ (4 - 1 - 2) % 256 : Nat) : Int))) (by simp) (congrArg (fun v => some (Value.int .u8 v)) ge.symm))
  | 3, _ => exact hH.cell 3 _ (Eq.trans (b := some (Value.int .u8 ((n / 256 ^ (4 - 1 - 3) % 256 : Nat) : Int))) (by simp) (congrArg (fun v => some (Value.int .u8 v)) ge.symm))

set_option maxHeartbeats 64000000 in
set_option maxRecDepth 100000 in
theorem NoteForms_walk (s : ByteArray) (hs : s.size ≤ 140737488351232) (w : World) :
    Calls Try.prog 3 #[.string s] w fun r w' => r = .returned (.bool true) ∧ Below w.heap.size w w' := by
  have CA := Lib.hid (fun w => awake_any w)
  by_cases hbig : (65536 : Int) < (s.size : Int)
  · go_enter Try.func3, Try.ntmps3
    go_wp2_with fail
    refine (CA.out _).mono ?_
    rintro e w1 ⟨rfl, b1⟩
    go_wp2_with fail
    go_ret
    exact ⟨rfl, b1⟩
  obtain ⟨L, hL⟩ : ∃ L, s.data.toList = L := ⟨_, rfl⟩
  obtain ⟨U, hU⟩ : ∃ U, s = U := ⟨_, rfl⟩
  have hsL : s = bs L := by rw [← hL]; exact (bs_self s).symm
  have hll : L.length = s.size := by rw [hsL, bs_size]
  obtain ⟨z, hz⟩ : ∃ z, sum L = z := ⟨_, rfl⟩
  have hzl : z < 4294967296 := by rw [← hz]; exact sum_lt _
  have hzi : (0 : Int) ≤ (z : Int) ∧ (z : Int) < 4294967296 := by omega
  have CS := Lib.hid (fun b w h => sumOf_one L b w (by omega) h)
  rw [← hsL, hz] at CS
  have hadd : ∀ w, (Op.stringOp .add (bs (highN z 4)) s).run Try.prog w = .ok (.string (bs (withSum L))) w := fun w => by
    rw [hsL, show withSum L = highN z 4 ++ L by unfold withSum; rw [hz]]
    exact add_lists' (highN z 4) L (by rw [highN_len]; omega) w
  have HF := Lib.hid (forms L)
  have CD := Lib.hid (fun w => ndec_any (bs (withSum L)) w (by rw [bs_size, withSum_len]; omega))
  rw [bs_data] at CD
  obtain ⟨R, hR⟩ : ∃ R, decM (withSum L) = R := ⟨_, rfl⟩
  rw [hR] at CD HF
  obtain ⟨⟨k, pg, x, nd, nn, tc, te, tn, lsn, sl, el⟩, ee⟩ := R
  have CV := fun w => top4_conv z w
  rw [show (z : Int) / 16777216 % 256 = (z : Int) / 16777216 by omega] at CV
  obtain ⟨V, hV⟩ : ∃ V, bs (highN z 4) = V := ⟨_, rfl⟩
  obtain ⟨T, hT⟩ : ∃ T, bs (withSum L) = T := ⟨_, rfl⟩
  rw [hV] at CV
  rw [hV, hT] at hadd
  rw [hT] at CD
  clear hL hU hsL hll hz hR hV hT
  go_enter Try.func3, Try.ntmps3
  go_wp2_with fail
  refine (CA.out _).mono ?_
  rintro e w1 ⟨rfl, b1⟩
  have BW := Lib.hid b1
  clear b1 CA
  go_wp2_with fail
  refine (CS.out _ _ (Has.new w1 _)).mono ?_
  rintro e w2 ⟨rfl, b2⟩
  have BW := Lib.hid (bup BW.out (bup (bnew w1 _) b2))
  clear b2 CS
  go_wp2_with fail
  refine (CD.out _).mono ?_
  rintro e w4 ⟨cs, rfl, ⟨A, n, c, B, k', d, rfl, hS, hE⟩, b4⟩
  have BW := Lib.hid (bup BW.out (bup (bnew w2 _) b4))
  have HS := Lib.hid hS
  have HE := Lib.hid hE
  clear b4 hS hE CD
  simp only [Ms.row, msgC] at HS HE ⊢
  rcases HF.out with ⟨rfl, hq⟩ | ⟨rfl, hq⟩
  · have CM := Lib.hid (fun w h1 h2 => msame_any ⟨k, pg, x, nd, nn, tc, te, tn, lsn, sl, el⟩ A n c B k' d Ms.zero none 0 0 none 0 0 w h1 h2 (IsSlots.nil _) (IsEnts.nil _))
    rw [show sameM ⟨k, pg, x, nd, nn, tc, te, tn, lsn, sl, el⟩ Ms.zero = true from sameM_iff.2 hq] at CM
    simp only [Ms.row, msgC, Ms.zero] at CM
    clear hq HF
    go_wp2_with ((with_reducible refine at_store rfl ?_); refine wpList_put_row rfl _ _ _ rfl rfl w4.heap.size _ rfl rfl _ _ (Has.new w4 _) (by kernel_rfl) rfl (by first | kernel_rfl | simp [Value.oneCell']) ?_; intro w5 Z5 B5; (have HS := Lib.hid (IsSlots.apartM (m := Ms.zero) (HS.out.alloc _) (Has.new w4 _) B5)); (have HE := Lib.hid (IsEnts.apart (HE.out.below (bnew _ _)) (Has.new w4 _) (by simp) B5)); (have BW := Lib.hid ((bup BW.out (bnew _ _)).trans (B5.below BW.out.size (by have := BW.out.size; simp; omega)))); (have HM := Lib.hid Z5); (clear Z5 B5); (have x0 : w5.cell? ⟨w4.heap.size, 0, none⟩ = some (.int .i64 k) := HM.out.cell 0 _ rfl); (have x1 : w5.cell? ⟨w4.heap.size, 1, none⟩ = some (.int .i64 pg) := HM.out.cell 1 _ rfl); (have x2 : w5.cell? ⟨w4.heap.size, 2, none⟩ = some (.bool x) := HM.out.cell 2 _ rfl); (have x3 : w5.cell? ⟨w4.heap.size, 3, none⟩ = some (.bool nd) := HM.out.cell 3 _ rfl); (have x4 : w5.cell? ⟨w4.heap.size, 4, none⟩ = some (.int .i64 nn) := HM.out.cell 4 _ rfl); (have x5 : w5.cell? ⟨w4.heap.size, 5, none⟩ = some (.int .i64 tc) := HM.out.cell 5 _ rfl); (have x6 : w5.cell? ⟨w4.heap.size, 6, none⟩ = some (.int .i64 te) := HM.out.cell 6 _ rfl); (have x7 : w5.cell? ⟨w4.heap.size, 7, none⟩ = some (.int .i64 tn) := HM.out.cell 7 _ rfl); (have x8 : w5.cell? ⟨w4.heap.size, 8, none⟩ = some (.int .i64 lsn) := HM.out.cell 8 _ rfl); (have x9 : w5.cell? ⟨w4.heap.size, 9, none⟩ = some (.slice A n c) := HM.out.cell 9 _ rfl); (have x10 : w5.cell? ⟨w4.heap.size, 10, none⟩ = some (.slice B k' d) := HM.out.cell 10 _ rfl))
    refine (CM.out _ HS.out HE.out).mono ?_
    rintro e w6 ⟨rfl, b6⟩
    have BW := Lib.hid (bup BW.out b6)
    clear x0 x1 x2 x3 x4 x5 x6 x7 x8 x9 x10 b6
    go_wp2_with fail
    go_ret
    exact ⟨rfl, BW.out⟩
  · have CG := Lib.hid (fun w h1 h2 => ngood_any ⟨k, pg, x, nd, nn, tc, te, tn, lsn, sl, el⟩ A n c B k' d w h1 h2)
    rw [hq] at CG
    simp only [Ms.row, msgC] at CG
    clear hq HF
    go_wp2_with ((with_reducible refine at_store rfl ?_); refine wpList_put_row rfl _ _ _ rfl rfl w4.heap.size _ rfl rfl _ _ (Has.new w4 _) (by kernel_rfl) rfl (by first | kernel_rfl | simp [Value.oneCell']) ?_; intro w5 Z5 B5; (have HS := Lib.hid (IsSlots.apartM (m := Ms.zero) (HS.out.alloc _) (Has.new w4 _) B5)); (have HE := Lib.hid (IsEnts.apart (HE.out.below (bnew _ _)) (Has.new w4 _) (by simp) B5)); (have BW := Lib.hid ((bup BW.out (bnew _ _)).trans (B5.below BW.out.size (by have := BW.out.size; simp; omega)))); (have HM := Lib.hid Z5); (clear Z5 B5); (have x0 : w5.cell? ⟨w4.heap.size, 0, none⟩ = some (.int .i64 k) := HM.out.cell 0 _ rfl); (have x1 : w5.cell? ⟨w4.heap.size, 1, none⟩ = some (.int .i64 pg) := HM.out.cell 1 _ rfl); (have x2 : w5.cell? ⟨w4.heap.size, 2, none⟩ = some (.bool x) := HM.out.cell 2 _ rfl); (have x3 : w5.cell? ⟨w4.heap.size, 3, none⟩ = some (.bool nd) := HM.out.cell 3 _ rfl); (have x4 : w5.cell? ⟨w4.heap.size, 4, none⟩ = some (.int .i64 nn) := HM.out.cell 4 _ rfl); (have x5 : w5.cell? ⟨w4.heap.size, 5, none⟩ = some (.int .i64 tc) := HM.out.cell 5 _ rfl); (have x6 : w5.cell? ⟨w4.heap.size, 6, none⟩ = some (.int .i64 te) := HM.out.cell 6 _ rfl); (have x7 : w5.cell? ⟨w4.heap.size, 7, none⟩ = some (.int .i64 tn) := HM.out.cell 7 _ rfl); (have x8 : w5.cell? ⟨w4.heap.size, 8, none⟩ = some (.int .i64 lsn) := HM.out.cell 8 _ rfl); (have x9 : w5.cell? ⟨w4.heap.size, 9, none⟩ = some (.slice A n c) := HM.out.cell 9 _ rfl); (have x10 : w5.cell? ⟨w4.heap.size, 10, none⟩ = some (.slice B k' d) := HM.out.cell 10 _ rfl))
    refine (CG.out _ HS.out HE.out).mono ?_
    rintro e w6 ⟨rfl, b6⟩
    have BW := Lib.hid (bup BW.out b6)
    clear x0 x1 x2 x3 x4 x5 x6 x7 x8 x9 x10 b6
    go_wp2_with fail
    go_ret
    exact ⟨rfl, BW.out⟩
end Go.Proofs.Ytakdagmkkelnfaa
