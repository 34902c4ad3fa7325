/-
  The shape of a message's kind; whether a message has nothing but what its shape has.
-/
import Derived.Test.YtakdagmkkelnfaaNoPure
import Derived.RegionTactic
namespace Go.Proofs.Ytakdagmkkelnfaa
open Go.RowKit Go.Sort
set_option linter.unusedVariables false
set_option linter.unusedSimpArgs false
def msgC (k pg : Int) (x need : Bool) (n tc te tn lsn : Int) (A : Option Addr) (sn sc : Nat) (B : Option Addr) (en ec : Nat) : Array Value := #[.int .i64 k, .int .i64 pg, .bool x, .bool need, .int .i64 n, .int .i64 tc, .int .i64 te, .int .i64 tn, .int .i64 lsn, .slice A sn sc, .slice B en ec]
def shC (k : Int) (need : Bool) : Array Value := #[.bool (kP k), .bool (kX k), .bool (kN k), .bool (kT k), .bool (kC k), .bool (kI k need), .bool (kE k)]
theorem shapeUnd : ∃ fs, Try.prog.underlying 55 = some (.struct fs) := ⟨_, Try.underlying55⟩
theorem msgUnd : ∃ fs, Try.prog.underlying 32 = some (.struct fs) := ⟨_, Try.underlying32⟩
theorem nwithin_is {n a b : Int} {c : Bool} (h : decide (a ≤ n ∧ n ≤ b) = c) (w : World) :
    Calls Try.prog 30 #[.int .i64 n, .int .i64 a, .int .i64 b] w fun e w' => e = .returned (.bool c) ∧ w = w' := by
  subst h
  by_cases h1 : a ≤ n
  · by_cases h2 : n ≤ b
    · have e : decide (a ≤ n ∧ n ≤ b) = true := by simp; omega
      rw [e]
      clear e
      go_enter Try.func30, Try.ntmps30
      go_wp2_with fail
      go_ret
      exact ⟨rfl, rfl⟩
    · have e : decide (a ≤ n ∧ n ≤ b) = false := by simp; omega
      rw [e]
      clear e
      go_enter Try.func30, Try.ntmps30
      go_wp2_with fail
      go_ret
      exact ⟨rfl, rfl⟩
  · have e : decide (a ≤ n ∧ n ≤ b) = false := by simp; omega
    rw [e]
    clear e
    go_enter Try.func30, Try.ntmps30
    go_wp2_with fail
    go_ret
    exact ⟨rfl, rfl⟩
set_option maxRecDepth 100000 in
set_option maxHeartbeats 4000000 in
theorem shapeOf_any (k pg : Int) (x need : Bool) (n tc te tn lsn : Int) (A : Option Addr) (sn sc : Nat) (B : Option Addr) (en ec : Nat) (w : World) :
    Calls Try.prog 22 #[.agg (msgC k pg x need n tc te tn lsn A sn sc B en ec)] w fun r w' => r = .returned (.tuple #[.agg (shC k need), .bool (kIs k)]) ∧ Below w.heap.size w w' := by
  obtain ⟨fs, hu⟩ := shapeUnd
  have key : k = 1 ∨ k = 2 ∨ k = 3 ∨ k = 4 ∨ k = 5 ∨ k = 6 ∨ k = 7 ∨ k = 8 ∨ k = 9 ∨ k = 10 ∨ k = 11 ∨ k = 12 ∨ k = 13 ∨ (k < 1 ∨ 13 < k) := by omega
  simp only [msgC]
  rcases key with rfl | rfl | rfl | rfl | rfl | rfl | rfl | rfl | rfl | rfl | rfl | rfl | rfl | hk
  · rw [show shC 1 need = #[.bool true, .bool true, .bool true, .bool false, .bool false, .bool false, .bool false] from rfl, show kIs 1 = true from rfl]
    go_enter Try.func22, Try.ntmps22
    go_wp2_with fail
    (try simp only [Exit.inBlock, Exit.then])
    refine bodyPost_ret (v := .tuple #[.agg #[.bool true, .bool true, .bool true, .bool false, .bool false, .bool false, .bool false], .bool true]) ?_ rfl ⟨rfl, ?_⟩
    case _ => exact Eq.trans (results_cell_one (p := 2) (u := 3) rfl _ _ (w.heap.size + 1) _ _ _ fs rfl (Has.new1 _ _ _) hu (by kernel_rfl)) rfl
    exact bup (bnew _ _) (bnew _ _)
  · rw [show shC 2 need = #[.bool true, .bool true, .bool false, .bool false, .bool false, .bool false, .bool false] from rfl, show kIs 2 = true from rfl]
    go_enter Try.func22, Try.ntmps22
    go_wp2_with fail
    (try simp only [Exit.inBlock, Exit.then])
    refine bodyPost_ret (v := .tuple #[.agg #[.bool true, .bool true, .bool false, .bool false, .bool false, .bool false, .bool false], .bool true]) ?_ rfl ⟨rfl, ?_⟩
    case _ => exact Eq.trans (results_cell_one (p := 2) (u := 3) rfl _ _ (w.heap.size + 1) _ _ _ fs rfl (Has.new1 _ _ _) hu (by kernel_rfl)) rfl
    exact bup (bnew _ _) (bnew _ _)
  · rw [show shC 3 need = #[.bool true, .bool false, .bool false, .bool false, .bool false, .bool false, .bool false] from rfl, show kIs 3 = true from rfl]
    go_enter Try.func22, Try.ntmps22
    go_wp2_with fail
    (try simp only [Exit.inBlock, Exit.then])
    refine bodyPost_ret (v := .tuple #[.agg #[.bool true, .bool false, .bool false, .bool false, .bool false, .bool false, .bool false], .bool true]) ?_ rfl ⟨rfl, ?_⟩
    case _ => exact Eq.trans (results_cell_one (p := 2) (u := 3) rfl _ _ (w.heap.size + 1) _ _ _ fs rfl (Has.new1 _ _ _) hu (by kernel_rfl)) rfl
    exact bup (bnew _ _) (bnew _ _)
  · rw [show shC 4 need = #[.bool false, .bool false, .bool false, .bool false, .bool false, .bool false, .bool true] from rfl, show kIs 4 = true from rfl]
    go_enter Try.func22, Try.ntmps22
    go_wp2_with fail
    (try simp only [Exit.inBlock, Exit.then])
    refine bodyPost_ret (v := .tuple #[.agg #[.bool false, .bool false, .bool false, .bool false, .bool false, .bool false, .bool true], .bool true]) ?_ rfl ⟨rfl, ?_⟩
    case _ => exact Eq.trans (results_cell_one (p := 2) (u := 3) rfl _ _ (w.heap.size + 1) _ _ _ fs rfl (Has.new1 _ _ _) hu (by kernel_rfl)) rfl
    exact bup (bnew _ _) (bnew _ _)
  · rw [show shC 5 need = #[.bool true, .bool false, .bool false, .bool false, .bool false, .bool true, .bool false] from rfl, show kIs 5 = true from rfl]
    go_enter Try.func22, Try.ntmps22
    go_wp2_with fail
    (try simp only [Exit.inBlock, Exit.then])
    refine bodyPost_ret (v := .tuple #[.agg #[.bool true, .bool false, .bool false, .bool false, .bool false, .bool true, .bool false], .bool true]) ?_ rfl ⟨rfl, ?_⟩
    case _ => exact Eq.trans (results_cell_one (p := 2) (u := 3) rfl _ _ (w.heap.size + 1) _ _ _ fs rfl (Has.new1 _ _ _) hu (by kernel_rfl)) rfl
    exact bup (bnew _ _) (bnew _ _)
  · rw [show shC 6 need = #[.bool false, .bool false, .bool false, .bool true, .bool false, .bool false, .bool false] from rfl, show kIs 6 = true from rfl]
    go_enter Try.func22, Try.ntmps22
    go_wp2_with fail
    (try simp only [Exit.inBlock, Exit.then])
    refine bodyPost_ret (v := .tuple #[.agg #[.bool false, .bool false, .bool false, .bool true, .bool false, .bool false, .bool false], .bool true]) ?_ rfl ⟨rfl, ?_⟩
    case _ => exact Eq.trans (results_cell_one (p := 2) (u := 3) rfl _ _ (w.heap.size + 1) _ _ _ fs rfl (Has.new1 _ _ _) hu (by kernel_rfl)) rfl
    exact bup (bnew _ _) (bnew _ _)
  · rw [show shC 7 need = #[.bool false, .bool false, .bool false, .bool false, .bool true, .bool false, .bool false] from rfl, show kIs 7 = true from rfl]
    go_enter Try.func22, Try.ntmps22
    go_wp2_with fail
    (try simp only [Exit.inBlock, Exit.then])
    refine bodyPost_ret (v := .tuple #[.agg #[.bool false, .bool false, .bool false, .bool false, .bool true, .bool false, .bool false], .bool true]) ?_ rfl ⟨rfl, ?_⟩
    case _ => exact Eq.trans (results_cell_one (p := 2) (u := 3) rfl _ _ (w.heap.size + 1) _ _ _ fs rfl (Has.new1 _ _ _) hu (by kernel_rfl)) rfl
    exact bup (bnew _ _) (bnew _ _)
  · rw [show shC 8 need = #[.bool false, .bool false, .bool false, .bool false, .bool true, .bool false, .bool false] from rfl, show kIs 8 = true from rfl]
    go_enter Try.func22, Try.ntmps22
    go_wp2_with fail
    (try simp only [Exit.inBlock, Exit.then])
    refine bodyPost_ret (v := .tuple #[.agg #[.bool false, .bool false, .bool false, .bool false, .bool true, .bool false, .bool false], .bool true]) ?_ rfl ⟨rfl, ?_⟩
    case _ => exact Eq.trans (results_cell_one (p := 2) (u := 3) rfl _ _ (w.heap.size + 1) _ _ _ fs rfl (Has.new1 _ _ _) hu (by kernel_rfl)) rfl
    exact bup (bnew _ _) (bnew _ _)
  · rw [show shC 9 need = #[.bool true, .bool true, .bool true, .bool false, .bool false, .bool need, .bool false] from rfl, show kIs 9 = true from rfl]
    go_enter Try.func22, Try.ntmps22
    go_wp2_with fail
    (try simp only [Exit.inBlock, Exit.then])
    refine bodyPost_ret (v := .tuple #[.agg #[.bool true, .bool true, .bool true, .bool false, .bool false, .bool need, .bool false], .bool true]) ?_ rfl ⟨rfl, ?_⟩
    case _ => exact Eq.trans (results_cell_one (p := 2) (u := 3) rfl _ _ (w.heap.size + 1) _ _ _ fs rfl (Has.new1 _ _ _) hu (by kernel_rfl)) rfl
    exact bup (bnew _ _) (bnew _ _)
  · rw [show shC 10 need = #[.bool true, .bool true, .bool false, .bool false, .bool false, .bool false, .bool false] from rfl, show kIs 10 = true from rfl]
    go_enter Try.func22, Try.ntmps22
    go_wp2_with fail
    (try simp only [Exit.inBlock, Exit.then])
    refine bodyPost_ret (v := .tuple #[.agg #[.bool true, .bool true, .bool false, .bool false, .bool false, .bool false, .bool false], .bool true]) ?_ rfl ⟨rfl, ?_⟩
    case _ => exact Eq.trans (results_cell_one (p := 2) (u := 3) rfl _ _ (w.heap.size + 1) _ _ _ fs rfl (Has.new1 _ _ _) hu (by kernel_rfl)) rfl
    exact bup (bnew _ _) (bnew _ _)
  · rw [show shC 11 need = #[.bool false, .bool false, .bool false, .bool true, .bool false, .bool false, .bool false] from rfl, show kIs 11 = true from rfl]
    go_enter Try.func22, Try.ntmps22
    go_wp2_with fail
    (try simp only [Exit.inBlock, Exit.then])
    refine bodyPost_ret (v := .tuple #[.agg #[.bool false, .bool false, .bool false, .bool true, .bool false, .bool false, .bool false], .bool true]) ?_ rfl ⟨rfl, ?_⟩
    case _ => exact Eq.trans (results_cell_one (p := 2) (u := 3) rfl _ _ (w.heap.size + 1) _ _ _ fs rfl (Has.new1 _ _ _) hu (by kernel_rfl)) rfl
    exact bup (bnew _ _) (bnew _ _)
  · rw [show shC 12 need = #[.bool false, .bool false, .bool false, .bool false, .bool false, .bool false, .bool false] from rfl, show kIs 12 = true from rfl]
    go_enter Try.func22, Try.ntmps22
    go_wp2_with fail
    go_region
    all_goals
      go_wp2_with fail
      (try simp only [Exit.inBlock, Exit.then])
      refine bodyPost_ret (v := .tuple #[.agg #[.bool false, .bool false, .bool false, .bool false, .bool false, .bool false, .bool false], .bool true]) ?_ rfl ⟨rfl, ?_⟩
      case _ => exact Eq.trans (results_cell_one (p := 2) (u := 3) rfl _ _ (w.heap.size + 1) _ _ _ fs rfl ((Has.new1 _ _ _).drew) hu (by kernel_rfl)) rfl
      exact (bup (bnew _ _) (bnew _ _)).drew
  · rw [show shC 13 need = #[.bool false, .bool false, .bool false, .bool false, .bool true, .bool false, .bool false] from rfl, show kIs 13 = true from rfl]
    go_enter Try.func22, Try.ntmps22
    go_wp2_with fail
    (try simp only [Exit.inBlock, Exit.then])
    refine bodyPost_ret (v := .tuple #[.agg #[.bool false, .bool false, .bool false, .bool false, .bool true, .bool false, .bool false], .bool true]) ?_ rfl ⟨rfl, ?_⟩
    case _ => exact Eq.trans (results_cell_one (p := 2) (u := 3) rfl _ _ (w.heap.size + 1) _ _ _ fs rfl (Has.new1 _ _ _) hu (by kernel_rfl)) rfl
    exact bup (bnew _ _) (bnew _ _)
  · have h1 : (k == 1) = false := by simp; omega
    have h2 : (k == 2) = false := by simp; omega
    have h3 : (k == 3) = false := by simp; omega
    have h4 : (k == 4) = false := by simp; omega
    have h5 : (k == 5) = false := by simp; omega
    have h6 : (k == 6) = false := by simp; omega
    have h7 : (k == 7) = false := by simp; omega
    have h8 : (k == 8) = false := by simp; omega
    have h9 : (k == 9) = false := by simp; omega
    have h10 : (k == 10) = false := by simp; omega
    have h11 : (k == 11) = false := by simp; omega
    have h12 : (k == 12) = false := by simp; omega
    have h13 : (k == 13) = false := by simp; omega
    have e1 : shC k need = #[.bool false, .bool false, .bool false, .bool false, .bool false, .bool false, .bool false] := by
      unfold shC kP kX kN kT kC kI kE
      simp [h1, h2, h3, h4, h5, h6, h7, h8, h9, h10, h11, h12, h13]
    have e2 : kIs k = false := by unfold kIs; simp; omega
    rw [e1, e2]
    clear e1 e2
    go_enter Try.func22, Try.ntmps22
    go_wp2_with fail
    go_region
    all_goals
      go_wp2_with fail
      (try simp only [Exit.inBlock, Exit.then])
      refine bodyPost_ret (v := .tuple #[.agg #[.bool false, .bool false, .bool false, .bool false, .bool false, .bool false, .bool false], .bool false]) ?_ rfl ⟨rfl, ?_⟩
      case _ => exact Eq.trans (results_cell_one (p := 2) (u := 3) rfl _ _ (w.heap.size + 1) _ _ _ fs rfl ((Has.new1 _ _ _).drew) hu (by kernel_rfl)) rfl
      exact (bup (bnew _ _) (bnew _ _)).drew
end Go.Proofs.Ytakdagmkkelnfaa
