/-
  Every bytes are the message that the document says, or are refused, with the error that it says.
-/
import Derived.Test.YtakdagmkkelnfaaNoR7
import Derived.Test.YtakdagmkkelnfaaNoM
namespace Go.Proofs.Ytakdagmkkelnfaa
open Go.RowKit Go.Sort NibPure SumPure
set_option linter.unusedVariables false
set_option linter.unusedSimpArgs false

set_option maxHeartbeats 64000000 in
set_option maxRecDepth 100000 in
theorem NoteReads_walk (s : ByteArray) (hs : s.size ≤ 140737488351232) (w : World) :
    Calls Try.prog 6 #[.string s] w fun r w' => r = .returned (.bool true) ∧ Below w.heap.size w w' := by
  have CA := Lib.hid (fun w => awake_any w)
  by_cases hbig : (65536 : Int) < (s.size : Int)
  · go_enter Try.func6, Try.ntmps6
    go_wp2_with fail
    refine (CA.out _).mono ?_
    rintro e w1 ⟨rfl, b1⟩
    go_wp2_with fail
    go_ret
    exact ⟨rfl, b1⟩
  have CD := Lib.hid (fun w => ndec_any s w (by omega))
  have CR := Lib.hid (fun w => rdc_any s w (by omega))
  obtain ⟨R, hR⟩ : ∃ R, decM s.data.toList = R := ⟨_, rfl⟩
  rw [hR] at CD CR
  clear hR
  obtain ⟨⟨k, pg, x, nd, nn, tc, te, tn, lsn, sl, el⟩, ee⟩ := R
  have hsz : (s.size : Int) ≤ 65536 := by omega
  clear hbig hs
  go_enter Try.func6, Try.ntmps6
  go_wp2_with fail
  refine (CA.out _).mono ?_
  rintro e w1 ⟨rfl, b1⟩
  have BW := Lib.hid b1
  clear b1 CA
  go_wp2_with fail
  refine (CD.out _).mono ?_
  rintro e w4 ⟨cs, rfl, ⟨A, n, c, B, k', d, rfl, hS, hE⟩, b4⟩
  have BW := Lib.hid (bup BW.out b4)
  have HS := Lib.hid hS
  have HE := Lib.hid hE
  clear b4 hS hE CD
  simp only [Ms.row, msgC] at HS HE ⊢
  go_wp2_with ((with_reducible refine at_store rfl ?_); refine wpList_put_row rfl _ _ _ rfl rfl w4.heap.size _ rfl rfl _ _ (Has.new w4 _) (by kernel_rfl) rfl (by first | kernel_rfl | simp [Value.oneCell']) ?_; intro w5 Z5 B5; (have HS := Lib.hid (IsSlots.apartM (m := Ms.zero) (HS.out.alloc _) (Has.new w4 _) B5)); (have HE := Lib.hid (IsEnts.apart (HE.out.below (bnew _ _)) (Has.new w4 _) (by simp) B5)); (have BW := Lib.hid ((bup BW.out (bnew _ _)).trans (B5.below BW.out.size (by have := BW.out.size; simp; omega)))); (have HM := Lib.hid Z5); (clear Z5 B5))
  refine (CR.out _).mono ?_
  rintro e w6 ⟨cs, rfl, ⟨A2, n2, c2, B2, k2, d2, rfl, hS, hE⟩, b6⟩
  have BW := Lib.hid (bup BW.out b6)
  have HS := Lib.hid (HS.out.below b6)
  have HE := Lib.hid (HE.out.below b6)
  have HM := Lib.hid (HM.out.below b6)
  have HS2 := Lib.hid hS
  have HE2 := Lib.hid hE
  have hlt : w4.heap.size < w6.heap.size := HM.out.lt
  obtain ⟨mb, hmb⟩ : ∃ b, w4.heap.size = b := ⟨_, rfl⟩
  rw [hmb] at HM hlt
  (try simp only [hmb])
  have hne : mb ≠ w6.heap.size := by omega
  clear b6 hS hE CR hmb
  simp only [Ms.row, msgC] at HS2 HE2 ⊢
  have CM := Lib.hid (fun w h1 h2 h3 h4 => msame_any ⟨k, pg, x, nd, nn, tc, te, tn, lsn, sl, el⟩ A n c B k' d ⟨k, pg, x, nd, nn, tc, te, tn, lsn, sl, el⟩ A2 n2 c2 B2 k2 d2 w h1 h2 h3 h4)
  rw [show sameM ⟨k, pg, x, nd, nn, tc, te, tn, lsn, sl, el⟩ ⟨k, pg, x, nd, nn, tc, te, tn, lsn, sl, el⟩ = true from sameM_iff.2 rfl] at CM
  simp only [Ms.row, msgC] at CM
  go_wp2_with ((with_reducible refine at_store rfl ?_); refine wpList_put_row rfl _ _ _ rfl rfl w6.heap.size _ rfl rfl _ _ (Has.new w6 _) (by kernel_rfl) rfl (by first | kernel_rfl | simp [Value.oneCell']) ?_; intro w7 Z5 B5; (have HS := Lib.hid (IsSlots.apartM (m := Ms.zero) (HS.out.alloc _) (Has.new w6 _) B5)); (have HE := Lib.hid (IsEnts.apart (HE.out.below (bnew _ _)) (Has.new w6 _) (by simp) B5)); (have HS2 := Lib.hid (IsSlots.apartM (m := Ms.zero) (HS2.out.alloc _) (Has.new w6 _) B5)); (have HE2 := Lib.hid (IsEnts.apart (HE2.out.below (bnew _ _)) (Has.new w6 _) (by simp) B5)); (have HM := Lib.hid ((HM.out.alloc _).but B5 hne)); (have BW := Lib.hid ((bup BW.out (bnew _ _)).trans (B5.below BW.out.size (by have := BW.out.size; simp; omega)))); (have HM2 := Lib.hid Z5); (clear Z5 B5); (have x0 : w7.cell? ⟨mb, 0, none⟩ = some (.int .i64 k) := HM.out.cell 0 _ rfl); (have x1 : w7.cell? ⟨mb, 1, none⟩ = some (.int .i64 pg) := HM.out.cell 1 _ rfl); (have x2 : w7.cell? ⟨mb, 2, none⟩ = some (.bool x) := HM.out.cell 2 _ rfl); (have x3 : w7.cell? ⟨mb, 3, none⟩ = some (.bool nd) := HM.out.cell 3 _ rfl); (have x4 : w7.cell? ⟨mb, 4, none⟩ = some (.int .i64 nn) := HM.out.cell 4 _ rfl); (have x5 : w7.cell? ⟨mb, 5, none⟩ = some (.int .i64 tc) := HM.out.cell 5 _ rfl); (have x6 : w7.cell? ⟨mb, 6, none⟩ = some (.int .i64 te) := HM.out.cell 6 _ rfl); (have x7 : w7.cell? ⟨mb, 7, none⟩ = some (.int .i64 tn) := HM.out.cell 7 _ rfl); (have x8 : w7.cell? ⟨mb, 8, none⟩ = some (.int .i64 lsn) := HM.out.cell 8 _ rfl); (have x9 : w7.cell? ⟨mb, 9, none⟩ = some (.slice A n c) := HM.out.cell 9 _ rfl); (have x10 : w7.cell? ⟨mb, 10, none⟩ = some (.slice B k' d) := HM.out.cell 10 _ rfl); (have y0 : w7.cell? ⟨w6.heap.size, 0, none⟩ = some (.int .i64 k) := HM2.out.cell 0 _ rfl); (have y1 : w7.cell? ⟨w6.heap.size, 1, none⟩ = some (.int .i64 pg) := HM2.out.cell 1 _ rfl); (have y2 : w7.cell? ⟨w6.heap.size, 2, none⟩ = some (.bool x) := HM2.out.cell 2 _ rfl); (have y3 : w7.cell? ⟨w6.heap.size, 3, none⟩ = some (.bool nd) := HM2.out.cell 3 _ rfl); (have y4 : w7.cell? ⟨w6.heap.size, 4, none⟩ = some (.int .i64 nn) := HM2.out.cell 4 _ rfl); (have y5 : w7.cell? ⟨w6.heap.size, 5, none⟩ = some (.int .i64 tc) := HM2.out.cell 5 _ rfl); (have y6 : w7.cell? ⟨w6.heap.size, 6, none⟩ = some (.int .i64 te) := HM2.out.cell 6 _ rfl); (have y7 : w7.cell? ⟨w6.heap.size, 7, none⟩ = some (.int .i64 tn) := HM2.out.cell 7 _ rfl); (have y8 : w7.cell? ⟨w6.heap.size, 8, none⟩ = some (.int .i64 lsn) := HM2.out.cell 8 _ rfl); (have y9 : w7.cell? ⟨w6.heap.size, 9, none⟩ = some (.slice A2 n2 c2) := HM2.out.cell 9 _ rfl); (have y10 : w7.cell? ⟨w6.heap.size, 10, none⟩ = some (.slice B2 k2 d2) := HM2.out.cell 10 _ rfl))
  refine (CM.out _ HS.out HE.out HS2.out HE2.out).mono ?_
  rintro e w8 ⟨rfl, b8⟩
  have BW := Lib.hid (bup BW.out b8)
  clear x0 x1 x2 x3 x4 x5 x6 x7 x8 x9 x10 y0 y1 y2 y3 y4 y5 y6 y7 y8 y9 y10 b8
  go_wp2_with fail
  go_ret
  exact ⟨rfl, BW.out⟩
end Go.Proofs.Ytakdagmkkelnfaa
