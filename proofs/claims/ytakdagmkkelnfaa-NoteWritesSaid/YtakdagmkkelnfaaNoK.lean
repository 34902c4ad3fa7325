/-
  What the document fixes by number is so: awake.
-/
import Derived.Test.YtakdagmkkelnfaaNoJ
namespace Go.Proofs.Ytakdagmkkelnfaa
open Go.RowKit Go.Sort NibPure SumPure
set_option linter.unusedVariables false
set_option linter.unusedSimpArgs false
def awM : Ms := ⟨10, 1, true, false, 0, 0, 0, 0, 0, [], []⟩
theorem awM_good : awM.good = true := by decide +kernel
theorem awM_body : awM.body = [20, 2, 2] := by decide +kernel
theorem awM_enc : awM.encM = (withSum [20, 2, 2], 0) := by unfold Ms.encM; rw [if_pos awM_good, awM_body]
theorem zero_good : Ms.zero.good = false := by decide +kernel
theorem withSum_len (l : List UInt8) : (withSum l).length = l.length + 4 := by unfold withSum; rw [List.length_append, highN_len]; omega
theorem withSum_drop (l : List UInt8) : (withSum l).drop 4 = l := by
  have hl := highN_len (sum l) 4
  unfold withSum; rw [List.drop_append, hl, List.drop_of_length_le (by omega)]; simp
theorem withSum_take (l : List UInt8) : (withSum l).take 4 = highN (sum l) 4 := by
  have hl := highN_len (sum l) 4
  unfold withSum; rw [List.take_append_of_le_length (by omega), List.take_of_length_le (by omega)]
theorem decM_x : decM [120] = (Ms.zero, 3) := by unfold decM; rw [if_pos (by simp)]

set_option maxHeartbeats 64000000 in
set_option maxRecDepth 100000 in
theorem awake_any (w : World) : Calls Try.prog 9 #[] w fun e w' => e = .returned (.bool true) ∧ Below w.heap.size w w' := by
  obtain ⟨U, hU⟩ : ∃ U, bs (withSum [20, 2, 2]) = U := ⟨_, rfl⟩
  have CE := Lib.hid (fun w => nencode_any awM none 0 0 none 0 0 w (IsSlots.nil _) (IsEnts.nil _))
  have CD := Lib.hid (fun w => ndec_any U w (by rw [← hU, bs_size, withSum_len]; decide))
  have CX := Lib.hid (fun w => ndec_any (bs [120]) w (by decide))
  have CG := Lib.hid (fun A n c B k d w h1 h2 => ngood_any awM A n c B k d w h1 h2)
  have CZ := Lib.hid (fun w => ngood_any Ms.zero none 0 0 none 0 0 w (IsSlots.nil _) (IsEnts.nil _))
  rw [awM_enc, hU] at CE
  rw [show U.data.toList = withSum awM.body by rw [← hU, awM_body]; rfl, decM_of awM_good] at CD
  rw [show (bs [120]).data.toList = [120] from rfl, decM_x] at CX
  rw [awM_good] at CG
  rw [zero_good] at CZ
  simp only [Ms.row, awM, Ms.zero] at CE CG CZ
  have hu7 : U.size = 7 := by rw [← hU, bs_size, withSum_len]; rfl
  have hu7i : (U.size : Int) = 7 := by rw [hu7]; rfl
  have hu4 : U.extract 4 7 = { data := #[20, 2, 2] } := by
    have := bs_skip (withSum [20, 2, 2]) 4 7 (by rw [withSum_len]; rfl)
    rw [hU, withSum_drop] at this
    exact this
  have hb : ((⟨#[120]⟩ : ByteArray)) = bs [120] := rfl
  rw [← hb] at CX
  clear hU hb
  go_enter Try.func9, Try.ntmps9
  go_wp2_with fail
  refine (CE.out _).mono ?_
  rintro e w1 ⟨rfl, b1⟩
  have B1 := Lib.hid b1
  clear b1
  go_wp2_with fail
  refine (CD.out _).mono ?_
  rintro e w2 ⟨cs, rfl, ⟨A, n, c, B, k, d, rfl, hS, hE⟩, b2⟩
  have B2 := Lib.hid (bup B1.out b2)
  have HS := Lib.hid hS
  have HE := Lib.hid hE
  clear b2 hS hE
  simp only [Ms.row, msgC, awM] at HS HE ⊢
  have hn0 : n = 0 := by have := HS.out.1; simpa using this.symm
  have hk0 : k = 0 := by have := HE.out.1; simpa using this.symm
  subst hn0
  subst hk0
  go_wp2_with ((with_reducible refine at_store rfl ?_); refine wpList_put_row rfl _ _ _ rfl rfl w2.heap.size _ rfl rfl _ _ (Has.new w2 _) (by kernel_rfl) rfl (by first | kernel_rfl | simp [Value.oneCell']) ?_; intro w3 Z3 B3)
  have HB3 : Hid (Below w.heap.size w w3) := Lib.hid ((bup B2.out (bnew _ _)).trans (B3.below B2.out.size (by have := B2.out.size; simp; omega)))
  have HS3 := Lib.hid ((HS.out.alloc _).but2 B3 (fun h => absurd h (by omega)))
  have HE3 := Lib.hid ((HE.out.below (bnew _ _)).but B3 (fun h => absurd h (by omega)))
  have HM3 := Lib.hid Z3
  clear Z3 B3 HS HE B1 B2
  go_wp2_with fail
  refine (CX.out _).mono ?_
  rintro e w4 ⟨cs, rfl, ⟨A', n', c', B', k', d', rfl, hS, hE⟩, b4⟩
  have HB4 := Lib.hid (bup HB3.out b4)
  have HS4 := Lib.hid (HS3.out.below b4)
  have HE4 := Lib.hid (HE3.out.below b4)
  have HM4 := Lib.hid (HM3.out.below b4)
  clear b4 hS hE HB3 HS3 HE3 HM3
  simp only [Ms.row, msgC, Ms.zero]
  go_wp2_with ((with_reducible refine at_store rfl ?_); refine wpList_put_row rfl _ _ _ rfl rfl w4.heap.size _ rfl rfl _ _ (Has.new w4 _) (by kernel_rfl) rfl (by first | kernel_rfl | simp [Value.oneCell']) ?_; intro w5 Z5 B5; (have HB5 : Hid (Below w.heap.size w w5) := Lib.hid ((bup HB4.out (bnew _ _)).trans (B5.below HB4.out.size (by have := HB4.out.size; simp; omega)))); (have HS5 := Lib.hid ((HS4.out.alloc _).but2 B5 (fun h => absurd h (by omega)))); (have HE5 := Lib.hid ((HE4.out.below (bnew _ _)).but B5 (fun h => absurd h (by omega)))); (have HM5 := Lib.hid ((HM4.out.alloc _).but B5 (by have := HM4.out.lt; omega))); (clear Z5 B5 HS4 HE4 HM4 HB4); (have x0 : w5.cell? ⟨w2.heap.size, 0, none⟩ = some (.int .i64 10) := HM5.out.cell 0 _ rfl); (have x1 : w5.cell? ⟨w2.heap.size, 1, none⟩ = some (.int .i64 1) := HM5.out.cell 1 _ rfl); (have x2 : w5.cell? ⟨w2.heap.size, 2, none⟩ = some (.bool true) := HM5.out.cell 2 _ rfl); (have x3 : w5.cell? ⟨w2.heap.size, 3, none⟩ = some (.bool false) := HM5.out.cell 3 _ rfl); (have x4 : w5.cell? ⟨w2.heap.size, 4, none⟩ = some (.int .i64 0) := HM5.out.cell 4 _ rfl); (have x5 : w5.cell? ⟨w2.heap.size, 5, none⟩ = some (.int .i64 0) := HM5.out.cell 5 _ rfl); (have x6 : w5.cell? ⟨w2.heap.size, 6, none⟩ = some (.int .i64 0) := HM5.out.cell 6 _ rfl); (have x7 : w5.cell? ⟨w2.heap.size, 7, none⟩ = some (.int .i64 0) := HM5.out.cell 7 _ rfl); (have x8 : w5.cell? ⟨w2.heap.size, 8, none⟩ = some (.int .i64 0) := HM5.out.cell 8 _ rfl); (have x9 : w5.cell? ⟨w2.heap.size, 9, none⟩ = some (.slice A 0 c) := HM5.out.cell 9 _ rfl); (have x10 : w5.cell? ⟨w2.heap.size, 10, none⟩ = some (.slice B 0 d) := HM5.out.cell 10 _ rfl))
  refine (CG.out _ _ _ _ _ _ _ HS5.out HE5.out).mono ?_
  rintro e w6 ⟨rfl, b6⟩
  have HB6 := Lib.hid (bup HB5.out b6)
  clear x0 x1 x2 x3 x4 x5 x6 x7 x8 x9 x10 b6
  go_wp2_with fail
  refine (CZ.out _).mono ?_
  rintro e w7 ⟨rfl, b7⟩
  have HB7 := Lib.hid (bup HB6.out b7)
  go_wp2_with fail
  go_ret
  exact ⟨rfl, HB7.out⟩
end Go.Proofs.Ytakdagmkkelnfaa
