/-
  An end that is made, what it says of itself, a text that it is given.
-/
import Derived.Test.YtgabonacpoimfaaCoMem
import Derived.Test.YtgabonacpoimfaaStore
import Derived.Deep.QuietTactic
import Derived.BigQuiet
import Derived.StillTailTactics
import Derived.Deep.CutRange
import Derived.Deep.CutBlock
import Derived.Deep.DeepCutAuto
namespace Go.Proofs.Ytgabonacpoimfaa
open Go.RowKit
set_option linter.unusedVariables false
set_option linter.unusedSimpArgs false

/-- The world behind an end that was just made. -/
def cordWorld (w : World) (ep : Int) : World := (w.alloc (.map #[] 0)).alloc (.cells #[.int .i64 ep, .slice none 0 0, .int .i64 0, .int .i64 0, .map (some w.heap.size), .bool false] 66)
theorem cordWorld_at (w : World) (ep : Int) : EndAt (cordWorld w ep) (w.heap.size + 1) none w.heap.size (En.new ep) :=
  ⟨⟨.slice none 0 0, Has.new1 _ _ _, SRow.nil _, rfl⟩, (MapAt.made w).held (S := fun _ => False) (Kept.of (bnew _ _)) (fun e => e), by omega, by simp, by simp⟩
theorem cordWorld_below (w : World) (ep : Int) : Below w.heap.size w (cordWorld w ep) := bup (bnew w _) (bnew _ _)
set_option maxRecDepth 100000 in
theorem cnew_any (ep : Int) (w : World) (h1 : 1 ≤ ep) (h2 : ep ≤ 1073741824) :
    Calls Try.prog 9 #[.int .i64 ep] w fun e w' => e = .returned (.pointer (some ⟨w.heap.size + 1, 0, none⟩)) ∧ cordWorld w ep = w' := by
  have hmm := @run_makeMap Try.prog
  go_enter Try.func9, Try.ntmps9
  go_wp2_with fail
  go_ret
  exact ⟨rfl, rfl⟩
set_option maxRecDepth 100000 in
theorem cnew_bad (ep : Int) (w : World) (h : ep < 1 ∨ 1073741824 < ep) :
    Calls Try.prog 9 #[.int .i64 ep] w fun e w' => e = .returned (.pointer none) ∧ w = w' := by
  by_cases h1 : ep < 1
  · go_enter Try.func9, Try.ntmps9
    go_wp2_with fail
    go_ret
    exact ⟨rfl, rfl⟩
  · have h2 : 1073741824 < ep := by omega
    clear h
    go_enter Try.func9, Try.ntmps9
    go_wp2_with fail
    go_ret
    exact ⟨rfl, rfl⟩
section
variable {p : Nat} {r : Option Nat} {mb : Nat} {E : En} {w : World}
set_option maxRecDepth 100000 in
theorem epoch_any (h : EndAt w p r mb E) :
    Calls Try.prog 22 #[.pointer (some ⟨p, 0, none⟩)] w fun e w' => e = .returned (.int .i64 E.ep) ∧ w = w' := by
  obtain ⟨A, cap, hp, _, _, h1, h2⟩ := h.open
  have p0 := hp.cell 0 _ rfl
  clear hp h
  go_enter Try.func22, Try.ntmps22
  go_wp2_with fail
  go_ret
  exact ⟨rfl, rfl⟩
set_option maxRecDepth 100000 in
theorem open_any (h : EndAt w p r mb E) :
    Calls Try.prog 20 #[.pointer (some ⟨p, 0, none⟩)] w fun e w' => e = .returned (.int .i64 (E.op.length : Int)) ∧ w = w' := by
  obtain ⟨A, cap, hp, _, _, h1, h2⟩ := h.open
  have p0 := hp.cell 1 _ rfl
  clear hp h
  go_enter Try.func20, Try.ntmps20
  go_wp2_with fail
  go_ret
  exact ⟨rfl, rfl⟩
set_option maxRecDepth 100000 in
theorem got_any (h : EndAt w p r mb E) :
    Calls Try.prog 21 #[.pointer (some ⟨p, 0, none⟩)] w fun e w' => e = .returned (.int .i64 (E.gt : Int)) ∧ w = w' := by
  obtain ⟨A, cap, hp, _, _, h1, h2⟩ := h.open
  have p0 := hp.cell 3 _ rfl
  clear hp h
  go_enter Try.func21, Try.ntmps21
  go_wp2_with fail
  go_ret
  exact ⟨rfl, rfl⟩
set_option maxRecDepth 100000 in
theorem owes_any (h : EndAt w p r mb E) :
    Calls Try.prog 13 #[.pointer (some ⟨p, 0, none⟩)] w fun e w' => e = .returned (.bool (owesE E)) ∧ w = w' := by
  obtain ⟨A, cap, hp, _, _, h1, h2⟩ := h.open
  have p1 := hp.cell 1 _ rfl
  have p5 := hp.cell 5 _ rfl
  clear hp h
  unfold owesE
  obtain ⟨ow, how⟩ : ∃ o, E.ow = o := ⟨_, rfl⟩
  obtain ⟨n, hn⟩ : ∃ n, E.op.length = n := ⟨_, rfl⟩
  rw [how, hn] at p5 p1 ⊢
  rw [hn] at h1
  clear how hn
  cases ow with
  | true =>
    go_enter Try.func13, Try.ntmps13
    go_wp2_with fail
    go_ret
    exact ⟨by simp, rfl⟩
  | false =>
    by_cases h0 : 0 < n
    · go_enter Try.func13, Try.ntmps13
      go_wp2_with fail
      go_ret
      exact ⟨by simp [h0], rfl⟩
    · obtain rfl : n = 0 := by omega
      go_enter Try.func13, Try.ntmps13
      go_wp2_with fail
      go_ret
      exact ⟨by simp, rfl⟩
set_option maxRecDepth 100000 in
set_option maxHeartbeats 2000000 in
theorem cgram_any (h : EndAt w p r mb E) (sq : Int) (bd : ByteArray) :
    Calls Try.prog 26 #[.pointer (some ⟨p, 0, none⟩), .int .i64 sq, .string bd] w fun e w' => e = .returned (.agg #[.int .i64 0, .bool false, .int .i64 E.ep, .int .i64 sq, .int .i64 (E.gt : Int), .string bd]) ∧ Below w.heap.size w w' := by
  obtain ⟨A, cap, hp, _, _, h1, h2⟩ := h.open
  obtain ⟨fs, hu⟩ := gramUnd
  have Hu := Lib.hid hu
  obtain ⟨g, hg⟩ : ∃ g, E.gt = g := ⟨_, rfl⟩
  obtain ⟨ep, he⟩ : ∃ g, E.ep = g := ⟨_, rfl⟩
  rw [hg, he] at hp
  rw [hg, he]
  have P1 := Lib.hid (hp.alloc (.cells #[.int .i64 0, .bool false, .int .i64 0, .int .i64 0, .int .i64 0, .string ⟨#[]⟩] 29))
  have Z1 := Lib.hid (Has.new w (.cells #[.int .i64 0, .bool false, .int .i64 0, .int .i64 0, .int .i64 0, .string ⟨#[]⟩] 29))
  have B1 := Lib.hid (bnew w (.cells #[.int .i64 0, .bool false, .int .i64 0, .int .i64 0, .int .i64 0, .string ⟨#[]⟩] 29))
  clear hp h hu hg he
  go_enter Try.func26, Try.ntmps26
  go_upto_region 1 with (fail)
  generalize World.alloc w _ = w1 at P1 Z1 B1 ⊢
  have p0 := P1.out.cell 0 _ rfl
  have p3 := P1.out.cell 3 _ rfl
  have Z4 := Lib.hid Z1.out.drew
  go_still_tail 11, (by kernel_rfl)
  change wpList _ _ _ _ _ w1.drew
  go_wp2_with ((with_reducible refine at_store rfl ?_); refine wpList_put_row rfl _ _ _ rfl rfl w.heap.size _ rfl rfl _ _ Z4.out (by kernel_rfl) rfl (by first | kernel_rfl | simp [Value.oneCell']) ?_; intro w8 Z8 B8)
  (try simp only [Exit.inBlock, Exit.then])
  refine bodyPost_ret (v := .agg #[.int .i64 0, .bool false, .int .i64 ep, .int .i64 sq, .int .i64 (g : Int), .string bd]) ?_ rfl ⟨rfl, ?_⟩
  · exact results_cell_row rfl _ _ w.heap.size _ _ _ _ rfl Z8 Hu.out rfl (by kernel_rfl)
  · exact (B1.out.drew).trans (B8.below (Nat.le_refl _) B1.out.size)
end
end Go.Proofs.Ytgabonacpoimfaa
