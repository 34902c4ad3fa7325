/-
  Whether a message has nothing but what its shape has.
-/
import Derived.Test.YtakdagmkkelnfaaNoA
import Derived.BigGuardPart
namespace Go.Proofs.Ytakdagmkkelnfaa
open Go.RowKit Go.Sort
set_option linter.unusedVariables false
set_option linter.unusedSimpArgs false
def bareC (k pg : Int) (x need : Bool) (n tc te tn lsn : Int) (sn en : Nat) : Bool :=
  (kP k || pg == 0) && ((kX k || !x) && ((kN k || !need) && ((kT k || (tc == 0 && (te == 0 && (tn == 0 && true)))) &&
    (((kC k && decide (least k ≤ n)) || n == 0) && ((kI k need || (lsn == 0 && sn == 0)) && ((kE k || en == 0) && (!kC k || decide (least k ≤ n))))))))
theorem txnEqBin (c c' e e' n n' : Int) (w : World) : (binOp .eql 26 (.agg #[.int .i64 c, .int .i64 e, .int .i64 n]) (.agg #[.int .i64 c', .int .i64 e', .int .i64 n'])).run Try.prog w = .ok (.bool (c == c' && (e == e' && (n == n' && true)))) w := by
  rw [run_eql_struct, txnEqIn 9998 c c' e e' n n' w]
  rfl
set_option maxRecDepth 100000 in
set_option maxHeartbeats 8000000 in
theorem bare_pxn (k pg : Int) (x need : Bool) (n tc te tn lsn : Int) (A : Option Addr) (sn sc : Nat) (B : Option Addr) (en ec : Nat) (w : World) (h13 : (k == 13) = false) (b : Bool) (hb : ((true || pg == 0) && ((true || !x) && ((true || !need) && ((false || (tc == 0 && (te == 0 && (tn == 0 && true)))) &&
    (((false && decide (1 ≤ n)) || n == 0) && ((false || (lsn == 0 && sn == 0)) && ((false || en == 0) && (!false || decide (1 ≤ n))))))))) = b) :
    Calls Try.prog 29 #[.agg #[.int .i64 k, .int .i64 pg, .bool x, .bool need, .int .i64 n, .int .i64 tc, .int .i64 te, .int .i64 tn, .int .i64 lsn, .slice A sn sc, .slice B en ec], .agg #[.bool true, .bool true, .bool true, .bool false, .bool false, .bool false, .bool false]] w fun r w' => r = .returned (.bool b) ∧ Below w.heap.size w w' := by
  have CE := txnEqBin tc 0 te 0 tn 0
  obtain ⟨tb, htb⟩ : ∃ tb, (tc == 0 && (te == 0 && (tn == 0 && true))) = tb := ⟨_, rfl⟩
  rw [htb] at CE hb
  clear htb
  cases tb with
  | false =>
    have eb : b = false := by rw [← hb]; simp
    subst eb
    clear hb
    go_enter Try.func29, Try.ntmps29
    simp only [List.append_eq, List.cons_append, List.nil_append]
    go_wp2_with fail
    go_ret
    exact ⟨rfl, bup (bnew _ _) (bnew _ _)⟩
  | true =>
    cases hn0 : (n == 0) with
    | false =>
      have eb : b = false := by rw [← hb]; simp [hn0]
      subst eb
      clear hb
      go_enter Try.func29, Try.ntmps29
      simp only [List.append_eq, List.cons_append, List.nil_append]
      go_wp2_with fail
      go_ret
      exact ⟨rfl, bup (bnew _ _) (bnew _ _)⟩
    | true =>
      cases hlsn : (lsn == 0) with
      | false =>
        have eb : b = false := by rw [← hb]; simp [hn0, hlsn]
        subst eb
        clear hb
        go_enter Try.func29, Try.ntmps29
        simp only [List.append_eq, List.cons_append, List.nil_append]
        go_wp2_with fail
        go_ret
        exact ⟨rfl, bup (bnew _ _) (bnew _ _)⟩
      | true =>
        by_cases hslots : sn = 0
        · subst hslots
          by_cases hents : en = 0
          · subst hents
            have eb : b = true := by rw [← hb]; simp [hn0, hlsn]
            subst eb
            clear hb
            go_enter Try.func29, Try.ntmps29
            simp only [List.append_eq, List.cons_append, List.nil_append]
            go_wp2_with fail
            go_ret
            exact ⟨rfl, bup (bnew _ _) (bnew _ _)⟩
          · have hents1 : ((en : Int) == 0) = false := by simp; omega
            have hents2 : (en == 0) = false := by simp; omega
            have eb : b = false := by rw [← hb]; simp [hn0, hlsn, hents2, hents]
            subst eb
            clear hb
            go_enter Try.func29, Try.ntmps29
            simp only [List.append_eq, List.cons_append, List.nil_append]
            go_wp2_with fail
            go_ret
            exact ⟨rfl, bup (bnew _ _) (bnew _ _)⟩
        · have hslots1 : ((sn : Int) == 0) = false := by simp; omega
          have hslots2 : (sn == 0) = false := by simp; omega
          have eb : b = false := by rw [← hb]; simp [hn0, hlsn, hslots2, hslots]
          subst eb
          clear hb
          go_enter Try.func29, Try.ntmps29
          simp only [List.append_eq, List.cons_append, List.nil_append]
          go_wp2_with fail
          go_ret
          exact ⟨rfl, bup (bnew _ _) (bnew _ _)⟩
set_option maxRecDepth 100000 in
set_option maxHeartbeats 8000000 in
theorem bare_px (k pg : Int) (x need : Bool) (n tc te tn lsn : Int) (A : Option Addr) (sn sc : Nat) (B : Option Addr) (en ec : Nat) (w : World) (h13 : (k == 13) = false) (b : Bool) (hb : ((true || pg == 0) && ((true || !x) && ((false || !need) && ((false || (tc == 0 && (te == 0 && (tn == 0 && true)))) &&
    (((false && decide (1 ≤ n)) || n == 0) && ((false || (lsn == 0 && sn == 0)) && ((false || en == 0) && (!false || decide (1 ≤ n))))))))) = b) :
    Calls Try.prog 29 #[.agg #[.int .i64 k, .int .i64 pg, .bool x, .bool need, .int .i64 n, .int .i64 tc, .int .i64 te, .int .i64 tn, .int .i64 lsn, .slice A sn sc, .slice B en ec], .agg #[.bool true, .bool true, .bool false, .bool false, .bool false, .bool false, .bool false]] w fun r w' => r = .returned (.bool b) ∧ Below w.heap.size w w' := by
  have CE := txnEqBin tc 0 te 0 tn 0
  obtain ⟨tb, htb⟩ : ∃ tb, (tc == 0 && (te == 0 && (tn == 0 && true))) = tb := ⟨_, rfl⟩
  rw [htb] at CE hb
  clear htb
  cases need with
  | true =>
    have eb : b = false := by rw [← hb]; simp
    subst eb
    clear hb
    go_enter Try.func29, Try.ntmps29
    simp only [List.append_eq, List.cons_append, List.nil_append]
    go_wp2_with fail
    go_ret
    exact ⟨rfl, bup (bnew _ _) (bnew _ _)⟩
  | false =>
    cases tb with
    | false =>
      have eb : b = false := by rw [← hb]; simp
      subst eb
      clear hb
      go_enter Try.func29, Try.ntmps29
      simp only [List.append_eq, List.cons_append, List.nil_append]
      go_wp2_with fail
      go_ret
      exact ⟨rfl, bup (bnew _ _) (bnew _ _)⟩
    | true =>
      cases hn0 : (n == 0) with
      | false =>
        have eb : b = false := by rw [← hb]; simp [hn0]
        subst eb
        clear hb
        go_enter Try.func29, Try.ntmps29
        simp only [List.append_eq, List.cons_append, List.nil_append]
        go_wp2_with fail
        go_ret
        exact ⟨rfl, bup (bnew _ _) (bnew _ _)⟩
      | true =>
        cases hlsn : (lsn == 0) with
        | false =>
          have eb : b = false := by rw [← hb]; simp [hn0, hlsn]
          subst eb
          clear hb
          go_enter Try.func29, Try.ntmps29
          simp only [List.append_eq, List.cons_append, List.nil_append]
          go_wp2_with fail
          go_ret
          exact ⟨rfl, bup (bnew _ _) (bnew _ _)⟩
        | true =>
          by_cases hslots : sn = 0
          · subst hslots
            by_cases hents : en = 0
            · subst hents
              have eb : b = true := by rw [← hb]; simp [hn0, hlsn]
              subst eb
              clear hb
              go_enter Try.func29, Try.ntmps29
              simp only [List.append_eq, List.cons_append, List.nil_append]
              go_wp2_with fail
              go_ret
              exact ⟨rfl, bup (bnew _ _) (bnew _ _)⟩
            · have hents1 : ((en : Int) == 0) = false := by simp; omega
              have hents2 : (en == 0) = false := by simp; omega
              have eb : b = false := by rw [← hb]; simp [hn0, hlsn, hents2, hents]
              subst eb
              clear hb
              go_enter Try.func29, Try.ntmps29
              simp only [List.append_eq, List.cons_append, List.nil_append]
              go_wp2_with fail
              go_ret
              exact ⟨rfl, bup (bnew _ _) (bnew _ _)⟩
          · have hslots1 : ((sn : Int) == 0) = false := by simp; omega
            have hslots2 : (sn == 0) = false := by simp; omega
            have eb : b = false := by rw [← hb]; simp [hn0, hlsn, hslots2, hslots]
            subst eb
            clear hb
            go_enter Try.func29, Try.ntmps29
            simp only [List.append_eq, List.cons_append, List.nil_append]
            go_wp2_with fail
            go_ret
            exact ⟨rfl, bup (bnew _ _) (bnew _ _)⟩
set_option maxRecDepth 100000 in
set_option maxHeartbeats 8000000 in
theorem bare_p (k pg : Int) (x need : Bool) (n tc te tn lsn : Int) (A : Option Addr) (sn sc : Nat) (B : Option Addr) (en ec : Nat) (w : World) (h13 : (k == 13) = false) (b : Bool) (hb : ((true || pg == 0) && ((false || !x) && ((false || !need) && ((false || (tc == 0 && (te == 0 && (tn == 0 && true)))) &&
    (((false && decide (1 ≤ n)) || n == 0) && ((false || (lsn == 0 && sn == 0)) && ((false || en == 0) && (!false || decide (1 ≤ n))))))))) = b) :
    Calls Try.prog 29 #[.agg #[.int .i64 k, .int .i64 pg, .bool x, .bool need, .int .i64 n, .int .i64 tc, .int .i64 te, .int .i64 tn, .int .i64 lsn, .slice A sn sc, .slice B en ec], .agg #[.bool true, .bool false, .bool false, .bool false, .bool false, .bool false, .bool false]] w fun r w' => r = .returned (.bool b) ∧ Below w.heap.size w w' := by
  have CE := txnEqBin tc 0 te 0 tn 0
  obtain ⟨tb, htb⟩ : ∃ tb, (tc == 0 && (te == 0 && (tn == 0 && true))) = tb := ⟨_, rfl⟩
  rw [htb] at CE hb
  clear htb
  cases x with
  | true =>
    have eb : b = false := by rw [← hb]; simp
    subst eb
    clear hb
    go_enter Try.func29, Try.ntmps29
    simp only [List.append_eq, List.cons_append, List.nil_append]
    go_wp2_with fail
    go_ret
    exact ⟨rfl, bup (bnew _ _) (bnew _ _)⟩
  | false =>
    cases need with
    | true =>
      have eb : b = false := by rw [← hb]; simp
      subst eb
      clear hb
      go_enter Try.func29, Try.ntmps29
      simp only [List.append_eq, List.cons_append, List.nil_append]
      go_wp2_with fail
      go_ret
      exact ⟨rfl, bup (bnew _ _) (bnew _ _)⟩
    | false =>
      cases tb with
      | false =>
        have eb : b = false := by rw [← hb]; simp
        subst eb
        clear hb
        go_enter Try.func29, Try.ntmps29
        simp only [List.append_eq, List.cons_append, List.nil_append]
        go_wp2_with fail
        go_ret
        exact ⟨rfl, bup (bnew _ _) (bnew _ _)⟩
      | true =>
        cases hn0 : (n == 0) with
        | false =>
          have eb : b = false := by rw [← hb]; simp [hn0]
          subst eb
          clear hb
          go_enter Try.func29, Try.ntmps29
          simp only [List.append_eq, List.cons_append, List.nil_append]
          go_wp2_with fail
          go_ret
          exact ⟨rfl, bup (bnew _ _) (bnew _ _)⟩
        | true =>
          cases hlsn : (lsn == 0) with
          | false =>
            have eb : b = false := by rw [← hb]; simp [hn0, hlsn]
            subst eb
            clear hb
            go_enter Try.func29, Try.ntmps29
            simp only [List.append_eq, List.cons_append, List.nil_append]
            go_wp2_with fail
            go_ret
            exact ⟨rfl, bup (bnew _ _) (bnew _ _)⟩
          | true =>
            by_cases hslots : sn = 0
            · subst hslots
              by_cases hents : en = 0
              · subst hents
                have eb : b = true := by rw [← hb]; simp [hn0, hlsn]
                subst eb
                clear hb
                go_enter Try.func29, Try.ntmps29
                simp only [List.append_eq, List.cons_append, List.nil_append]
                go_wp2_with fail
                go_ret
                exact ⟨rfl, bup (bnew _ _) (bnew _ _)⟩
              · have hents1 : ((en : Int) == 0) = false := by simp; omega
                have hents2 : (en == 0) = false := by simp; omega
                have eb : b = false := by rw [← hb]; simp [hn0, hlsn, hents2, hents]
                subst eb
                clear hb
                go_enter Try.func29, Try.ntmps29
                simp only [List.append_eq, List.cons_append, List.nil_append]
                go_wp2_with fail
                go_ret
                exact ⟨rfl, bup (bnew _ _) (bnew _ _)⟩
            · have hslots1 : ((sn : Int) == 0) = false := by simp; omega
              have hslots2 : (sn == 0) = false := by simp; omega
              have eb : b = false := by rw [← hb]; simp [hn0, hlsn, hslots2, hslots]
              subst eb
              clear hb
              go_enter Try.func29, Try.ntmps29
              simp only [List.append_eq, List.cons_append, List.nil_append]
              go_wp2_with fail
              go_ret
              exact ⟨rfl, bup (bnew _ _) (bnew _ _)⟩
set_option maxRecDepth 100000 in
set_option maxHeartbeats 8000000 in
theorem bare_e (k pg : Int) (x need : Bool) (n tc te tn lsn : Int) (A : Option Addr) (sn sc : Nat) (B : Option Addr) (en ec : Nat) (w : World) (h13 : (k == 13) = false) (b : Bool) (hb : ((false || pg == 0) && ((false || !x) && ((false || !need) && ((false || (tc == 0 && (te == 0 && (tn == 0 && true)))) &&
    (((false && decide (1 ≤ n)) || n == 0) && ((false || (lsn == 0 && sn == 0)) && ((true || en == 0) && (!false || decide (1 ≤ n))))))))) = b) :
    Calls Try.prog 29 #[.agg #[.int .i64 k, .int .i64 pg, .bool x, .bool need, .int .i64 n, .int .i64 tc, .int .i64 te, .int .i64 tn, .int .i64 lsn, .slice A sn sc, .slice B en ec], .agg #[.bool false, .bool false, .bool false, .bool false, .bool false, .bool false, .bool true]] w fun r w' => r = .returned (.bool b) ∧ Below w.heap.size w w' := by
  have CE := txnEqBin tc 0 te 0 tn 0
  obtain ⟨tb, htb⟩ : ∃ tb, (tc == 0 && (te == 0 && (tn == 0 && true))) = tb := ⟨_, rfl⟩
  rw [htb] at CE hb
  clear htb
  cases hpage : (pg == 0) with
  | false =>
    have eb : b = false := by rw [← hb]; simp [hpage]
    subst eb
    clear hb
    go_enter Try.func29, Try.ntmps29
    simp only [List.append_eq, List.cons_append, List.nil_append]
    go_wp2_with fail
    go_ret
    exact ⟨rfl, bup (bnew _ _) (bnew _ _)⟩
  | true =>
    cases x with
    | true =>
      have eb : b = false := by rw [← hb]; simp [hpage]
      subst eb
      clear hb
      go_enter Try.func29, Try.ntmps29
      simp only [List.append_eq, List.cons_append, List.nil_append]
      go_wp2_with fail
      go_ret
      exact ⟨rfl, bup (bnew _ _) (bnew _ _)⟩
    | false =>
      cases need with
      | true =>
        have eb : b = false := by rw [← hb]; simp [hpage]
        subst eb
        clear hb
        go_enter Try.func29, Try.ntmps29
        simp only [List.append_eq, List.cons_append, List.nil_append]
        go_wp2_with fail
        go_ret
        exact ⟨rfl, bup (bnew _ _) (bnew _ _)⟩
      | false =>
        cases tb with
        | false =>
          have eb : b = false := by rw [← hb]; simp [hpage]
          subst eb
          clear hb
          go_enter Try.func29, Try.ntmps29
          simp only [List.append_eq, List.cons_append, List.nil_append]
          go_wp2_with fail
          go_ret
          exact ⟨rfl, bup (bnew _ _) (bnew _ _)⟩
        | true =>
          cases hn0 : (n == 0) with
          | false =>
            have eb : b = false := by rw [← hb]; simp [hpage, hn0]
            subst eb
            clear hb
            go_enter Try.func29, Try.ntmps29
            simp only [List.append_eq, List.cons_append, List.nil_append]
            go_wp2_with fail
            go_ret
            exact ⟨rfl, bup (bnew _ _) (bnew _ _)⟩
          | true =>
            cases hlsn : (lsn == 0) with
            | false =>
              have eb : b = false := by rw [← hb]; simp [hpage, hn0, hlsn]
              subst eb
              clear hb
              go_enter Try.func29, Try.ntmps29
              simp only [List.append_eq, List.cons_append, List.nil_append]
              go_wp2_with fail
              go_ret
              exact ⟨rfl, bup (bnew _ _) (bnew _ _)⟩
            | true =>
              by_cases hslots : sn = 0
              · subst hslots
                have eb : b = true := by rw [← hb]; simp [hpage, hn0, hlsn]
                subst eb
                clear hb
                go_enter Try.func29, Try.ntmps29
                simp only [List.append_eq, List.cons_append, List.nil_append]
                go_wp2_with fail
                go_ret
                exact ⟨rfl, bup (bnew _ _) (bnew _ _)⟩
              · have hslots1 : ((sn : Int) == 0) = false := by simp; omega
                have hslots2 : (sn == 0) = false := by simp; omega
                have eb : b = false := by rw [← hb]; simp [hpage, hn0, hlsn, hslots2, hslots]
                subst eb
                clear hb
                go_enter Try.func29, Try.ntmps29
                simp only [List.append_eq, List.cons_append, List.nil_append]
                go_wp2_with fail
                go_ret
                exact ⟨rfl, bup (bnew _ _) (bnew _ _)⟩
set_option maxRecDepth 100000 in
set_option maxHeartbeats 8000000 in
theorem bare_pi (k pg : Int) (x need : Bool) (n tc te tn lsn : Int) (A : Option Addr) (sn sc : Nat) (B : Option Addr) (en ec : Nat) (w : World) (h13 : (k == 13) = false) (b : Bool) (hb : ((true || pg == 0) && ((false || !x) && ((false || !need) && ((false || (tc == 0 && (te == 0 && (tn == 0 && true)))) &&
    (((false && decide (1 ≤ n)) || n == 0) && ((true || (lsn == 0 && sn == 0)) && ((false || en == 0) && (!false || decide (1 ≤ n))))))))) = b) :
    Calls Try.prog 29 #[.agg #[.int .i64 k, .int .i64 pg, .bool x, .bool need, .int .i64 n, .int .i64 tc, .int .i64 te, .int .i64 tn, .int .i64 lsn, .slice A sn sc, .slice B en ec], .agg #[.bool true, .bool false, .bool false, .bool false, .bool false, .bool true, .bool false]] w fun r w' => r = .returned (.bool b) ∧ Below w.heap.size w w' := by
  have CE := txnEqBin tc 0 te 0 tn 0
  obtain ⟨tb, htb⟩ : ∃ tb, (tc == 0 && (te == 0 && (tn == 0 && true))) = tb := ⟨_, rfl⟩
  rw [htb] at CE hb
  clear htb
  cases x with
  | true =>
    have eb : b = false := by rw [← hb]; simp
    subst eb
    clear hb
    go_enter Try.func29, Try.ntmps29
    simp only [List.append_eq, List.cons_append, List.nil_append]
    go_wp2_with fail
    go_ret
    exact ⟨rfl, bup (bnew _ _) (bnew _ _)⟩
  | false =>
    cases need with
    | true =>
      have eb : b = false := by rw [← hb]; simp
      subst eb
      clear hb
      go_enter Try.func29, Try.ntmps29
      simp only [List.append_eq, List.cons_append, List.nil_append]
      go_wp2_with fail
      go_ret
      exact ⟨rfl, bup (bnew _ _) (bnew _ _)⟩
    | false =>
      cases tb with
      | false =>
        have eb : b = false := by rw [← hb]; simp
        subst eb
        clear hb
        go_enter Try.func29, Try.ntmps29
        simp only [List.append_eq, List.cons_append, List.nil_append]
        go_wp2_with fail
        go_ret
        exact ⟨rfl, bup (bnew _ _) (bnew _ _)⟩
      | true =>
        cases hn0 : (n == 0) with
        | false =>
          have eb : b = false := by rw [← hb]; simp [hn0]
          subst eb
          clear hb
          go_enter Try.func29, Try.ntmps29
          simp only [List.append_eq, List.cons_append, List.nil_append]
          go_wp2_with fail
          go_ret
          exact ⟨rfl, bup (bnew _ _) (bnew _ _)⟩
        | true =>
          by_cases hents : en = 0
          · subst hents
            have eb : b = true := by rw [← hb]; simp [hn0]
            subst eb
            clear hb
            go_enter Try.func29, Try.ntmps29
            simp only [List.append_eq, List.cons_append, List.nil_append]
            go_wp2_with fail
            go_ret
            exact ⟨rfl, bup (bnew _ _) (bnew _ _)⟩
          · have hents1 : ((en : Int) == 0) = false := by simp; omega
            have hents2 : (en == 0) = false := by simp; omega
            have eb : b = false := by rw [← hb]; simp [hn0, hents2, hents]
            subst eb
            clear hb
            go_enter Try.func29, Try.ntmps29
            simp only [List.append_eq, List.cons_append, List.nil_append]
            go_wp2_with fail
            go_ret
            exact ⟨rfl, bup (bnew _ _) (bnew _ _)⟩
set_option maxRecDepth 100000 in
set_option maxHeartbeats 8000000 in
theorem bare_t (k pg : Int) (x need : Bool) (n tc te tn lsn : Int) (A : Option Addr) (sn sc : Nat) (B : Option Addr) (en ec : Nat) (w : World) (h13 : (k == 13) = false) (b : Bool) (hb : ((false || pg == 0) && ((false || !x) && ((false || !need) && ((true || (tc == 0 && (te == 0 && (tn == 0 && true)))) &&
    (((false && decide (1 ≤ n)) || n == 0) && ((false || (lsn == 0 && sn == 0)) && ((false || en == 0) && (!false || decide (1 ≤ n))))))))) = b) :
    Calls Try.prog 29 #[.agg #[.int .i64 k, .int .i64 pg, .bool x, .bool need, .int .i64 n, .int .i64 tc, .int .i64 te, .int .i64 tn, .int .i64 lsn, .slice A sn sc, .slice B en ec], .agg #[.bool false, .bool false, .bool false, .bool true, .bool false, .bool false, .bool false]] w fun r w' => r = .returned (.bool b) ∧ Below w.heap.size w w' := by
  have CE := txnEqBin tc 0 te 0 tn 0
  obtain ⟨tb, htb⟩ : ∃ tb, (tc == 0 && (te == 0 && (tn == 0 && true))) = tb := ⟨_, rfl⟩
  rw [htb] at CE hb
  clear htb
  cases hpage : (pg == 0) with
  | false =>
    have eb : b = false := by rw [← hb]; simp [hpage]
    subst eb
    clear hb
    go_enter Try.func29, Try.ntmps29
    simp only [List.append_eq, List.cons_append, List.nil_append]
    go_wp2_with fail
    go_ret
    exact ⟨rfl, bup (bnew _ _) (bnew _ _)⟩
  | true =>
    cases x with
    | true =>
      have eb : b = false := by rw [← hb]; simp [hpage]
      subst eb
      clear hb
      go_enter Try.func29, Try.ntmps29
      simp only [List.append_eq, List.cons_append, List.nil_append]
      go_wp2_with fail
      go_ret
      exact ⟨rfl, bup (bnew _ _) (bnew _ _)⟩
    | false =>
      cases need with
      | true =>
        have eb : b = false := by rw [← hb]; simp [hpage]
        subst eb
        clear hb
        go_enter Try.func29, Try.ntmps29
        simp only [List.append_eq, List.cons_append, List.nil_append]
        go_wp2_with fail
        go_ret
        exact ⟨rfl, bup (bnew _ _) (bnew _ _)⟩
      | false =>
        cases hn0 : (n == 0) with
        | false =>
          have eb : b = false := by rw [← hb]; simp [hpage, hn0]
          subst eb
          clear hb
          go_enter Try.func29, Try.ntmps29
          simp only [List.append_eq, List.cons_append, List.nil_append]
          go_wp2_with fail
          go_ret
          exact ⟨rfl, bup (bnew _ _) (bnew _ _)⟩
        | true =>
          cases hlsn : (lsn == 0) with
          | false =>
            have eb : b = false := by rw [← hb]; simp [hpage, hn0, hlsn]
            subst eb
            clear hb
            go_enter Try.func29, Try.ntmps29
            simp only [List.append_eq, List.cons_append, List.nil_append]
            go_wp2_with fail
            go_ret
            exact ⟨rfl, bup (bnew _ _) (bnew _ _)⟩
          | true =>
            by_cases hslots : sn = 0
            · subst hslots
              by_cases hents : en = 0
              · subst hents
                have eb : b = true := by rw [← hb]; simp [hpage, hn0, hlsn]
                subst eb
                clear hb
                go_enter Try.func29, Try.ntmps29
                simp only [List.append_eq, List.cons_append, List.nil_append]
                go_wp2_with fail
                go_ret
                exact ⟨rfl, bup (bnew _ _) (bnew _ _)⟩
              · have hents1 : ((en : Int) == 0) = false := by simp; omega
                have hents2 : (en == 0) = false := by simp; omega
                have eb : b = false := by rw [← hb]; simp [hpage, hn0, hlsn, hents2, hents]
                subst eb
                clear hb
                go_enter Try.func29, Try.ntmps29
                simp only [List.append_eq, List.cons_append, List.nil_append]
                go_wp2_with fail
                go_ret
                exact ⟨rfl, bup (bnew _ _) (bnew _ _)⟩
            · have hslots1 : ((sn : Int) == 0) = false := by simp; omega
              have hslots2 : (sn == 0) = false := by simp; omega
              have eb : b = false := by rw [← hb]; simp [hpage, hn0, hlsn, hslots2, hslots]
              subst eb
              clear hb
              go_enter Try.func29, Try.ntmps29
              simp only [List.append_eq, List.cons_append, List.nil_append]
              go_wp2_with fail
              go_ret
              exact ⟨rfl, bup (bnew _ _) (bnew _ _)⟩
set_option maxRecDepth 100000 in
set_option maxHeartbeats 8000000 in
theorem bare_c (k pg : Int) (x need : Bool) (n tc te tn lsn : Int) (A : Option Addr) (sn sc : Nat) (B : Option Addr) (en ec : Nat) (w : World) (h13 : (k == 13) = false) (b : Bool) (hb : ((false || pg == 0) && ((false || !x) && ((false || !need) && ((false || (tc == 0 && (te == 0 && (tn == 0 && true)))) &&
    (((true && decide (1 ≤ n)) || n == 0) && ((false || (lsn == 0 && sn == 0)) && ((false || en == 0) && (!true || decide (1 ≤ n))))))))) = b) :
    Calls Try.prog 29 #[.agg #[.int .i64 k, .int .i64 pg, .bool x, .bool need, .int .i64 n, .int .i64 tc, .int .i64 te, .int .i64 tn, .int .i64 lsn, .slice A sn sc, .slice B en ec], .agg #[.bool false, .bool false, .bool false, .bool false, .bool true, .bool false, .bool false]] w fun r w' => r = .returned (.bool b) ∧ Below w.heap.size w w' := by
  have CE := txnEqBin tc 0 te 0 tn 0
  obtain ⟨tb, htb⟩ : ∃ tb, (tc == 0 && (te == 0 && (tn == 0 && true))) = tb := ⟨_, rfl⟩
  rw [htb] at CE hb
  clear htb
  cases hpage : (pg == 0) with
  | false =>
    have eb : b = false := by rw [← hb]; simp [hpage]
    subst eb
    clear hb
    go_enter Try.func29, Try.ntmps29
    simp only [List.append_eq, List.cons_append, List.nil_append]
    go_wp2_with fail
    go_ret
    exact ⟨rfl, bup (bnew _ _) (bnew _ _)⟩
  | true =>
    cases x with
    | true =>
      have eb : b = false := by rw [← hb]; simp [hpage]
      subst eb
      clear hb
      go_enter Try.func29, Try.ntmps29
      simp only [List.append_eq, List.cons_append, List.nil_append]
      go_wp2_with fail
      go_ret
      exact ⟨rfl, bup (bnew _ _) (bnew _ _)⟩
    | false =>
      cases need with
      | true =>
        have eb : b = false := by rw [← hb]; simp [hpage]
        subst eb
        clear hb
        go_enter Try.func29, Try.ntmps29
        simp only [List.append_eq, List.cons_append, List.nil_append]
        go_wp2_with fail
        go_ret
        exact ⟨rfl, bup (bnew _ _) (bnew _ _)⟩
      | false =>
        cases tb with
        | false =>
          have eb : b = false := by rw [← hb]; simp [hpage]
          subst eb
          clear hb
          go_enter Try.func29, Try.ntmps29
          simp only [List.append_eq, List.cons_append, List.nil_append]
          go_wp2_with fail
          go_ret
          exact ⟨rfl, bup (bnew _ _) (bnew _ _)⟩
        | true =>
          by_cases hl : 1 ≤ n
          · have hl1 : decide (1 ≤ n) = true := by simpa using hl
            cases hlsn : (lsn == 0) with
            | false =>
              have eb : b = false := by rw [← hb]; simp [hpage, hl1, hl, hlsn]
              subst eb
              clear hb
              go_enter Try.func29, Try.ntmps29
              simp only [List.append_eq, List.cons_append, List.nil_append]
              go_wp2_with fail
              go_ret
              exact ⟨rfl, bup (bnew _ _) (bnew _ _)⟩
            | true =>
              by_cases hslots : sn = 0
              · subst hslots
                by_cases hents : en = 0
                · subst hents
                  have eb : b = true := by rw [← hb]; simp [hpage, hl1, hl, hlsn]
                  subst eb
                  clear hb
                  go_enter Try.func29, Try.ntmps29
                  simp only [List.append_eq, List.cons_append, List.nil_append]
                  go_wp2_with fail
                  go_ret
                  exact ⟨rfl, bup (bnew _ _) (bnew _ _)⟩
                · have hents1 : ((en : Int) == 0) = false := by simp; omega
                  have hents2 : (en == 0) = false := by simp; omega
                  have eb : b = false := by rw [← hb]; simp [hpage, hl1, hl, hlsn, hents2, hents]
                  subst eb
                  clear hb
                  go_enter Try.func29, Try.ntmps29
                  simp only [List.append_eq, List.cons_append, List.nil_append]
                  go_wp2_with fail
                  go_ret
                  exact ⟨rfl, bup (bnew _ _) (bnew _ _)⟩
              · have hslots1 : ((sn : Int) == 0) = false := by simp; omega
                have hslots2 : (sn == 0) = false := by simp; omega
                have eb : b = false := by rw [← hb]; simp [hpage, hl1, hl, hlsn, hslots2, hslots]
                subst eb
                clear hb
                go_enter Try.func29, Try.ntmps29
                simp only [List.append_eq, List.cons_append, List.nil_append]
                go_wp2_with fail
                go_ret
                exact ⟨rfl, bup (bnew _ _) (bnew _ _)⟩
          · have hl1 : decide (1 ≤ n) = false := by simpa using hl
            have hl2 : n < 1 := by omega
            cases hn0 : (n == 0) with
            | false =>
              have eb : b = false := by rw [← hb]; simp [hpage, hl1, hl, hn0]
              subst eb
              clear hb
              go_enter Try.func29, Try.ntmps29
              simp only [List.append_eq, List.cons_append, List.nil_append]
              go_wp2_with fail
              go_ret
              exact ⟨rfl, bup (bnew _ _) (bnew _ _)⟩
            | true =>
              cases hlsn : (lsn == 0) with
              | false =>
                have eb : b = false := by rw [← hb]; simp [hpage, hl1, hl, hn0, hlsn]
                subst eb
                clear hb
                go_enter Try.func29, Try.ntmps29
                simp only [List.append_eq, List.cons_append, List.nil_append]
                go_wp2_with fail
                go_ret
                exact ⟨rfl, bup (bnew _ _) (bnew _ _)⟩
              | true =>
                by_cases hslots : sn = 0
                · subst hslots
                  by_cases hents : en = 0
                  · subst hents
                    have eb : b = false := by rw [← hb]; simp [hpage, hl1, hl, hn0, hlsn]
                    subst eb
                    clear hb
                    go_enter Try.func29, Try.ntmps29
                    simp only [List.append_eq, List.cons_append, List.nil_append]
                    go_wp2_with fail
                    go_ret
                    exact ⟨rfl, bup (bnew _ _) (bnew _ _)⟩
                  · have hents1 : ((en : Int) == 0) = false := by simp; omega
                    have hents2 : (en == 0) = false := by simp; omega
                    have eb : b = false := by rw [← hb]; simp [hpage, hl1, hl, hn0, hlsn, hents2, hents]
                    subst eb
                    clear hb
                    go_enter Try.func29, Try.ntmps29
                    simp only [List.append_eq, List.cons_append, List.nil_append]
                    go_wp2_with fail
                    go_ret
                    exact ⟨rfl, bup (bnew _ _) (bnew _ _)⟩
                · have hslots1 : ((sn : Int) == 0) = false := by simp; omega
                  have hslots2 : (sn == 0) = false := by simp; omega
                  have eb : b = false := by rw [← hb]; simp [hpage, hl1, hl, hn0, hlsn, hslots2, hslots]
                  subst eb
                  clear hb
                  go_enter Try.func29, Try.ntmps29
                  simp only [List.append_eq, List.cons_append, List.nil_append]
                  go_wp2_with fail
                  go_ret
                  exact ⟨rfl, bup (bnew _ _) (bnew _ _)⟩
set_option maxRecDepth 100000 in
set_option maxHeartbeats 8000000 in
theorem bare_pxni (k pg : Int) (x need : Bool) (n tc te tn lsn : Int) (A : Option Addr) (sn sc : Nat) (B : Option Addr) (en ec : Nat) (w : World) (h13 : (k == 13) = false) (b : Bool) (hb : ((true || pg == 0) && ((true || !x) && ((true || !need) && ((false || (tc == 0 && (te == 0 && (tn == 0 && true)))) &&
    (((false && decide (1 ≤ n)) || n == 0) && ((need || (lsn == 0 && sn == 0)) && ((false || en == 0) && (!false || decide (1 ≤ n))))))))) = b) :
    Calls Try.prog 29 #[.agg #[.int .i64 k, .int .i64 pg, .bool x, .bool need, .int .i64 n, .int .i64 tc, .int .i64 te, .int .i64 tn, .int .i64 lsn, .slice A sn sc, .slice B en ec], .agg #[.bool true, .bool true, .bool true, .bool false, .bool false, .bool need, .bool false]] w fun r w' => r = .returned (.bool b) ∧ Below w.heap.size w w' := by
  have CE := txnEqBin tc 0 te 0 tn 0
  obtain ⟨tb, htb⟩ : ∃ tb, (tc == 0 && (te == 0 && (tn == 0 && true))) = tb := ⟨_, rfl⟩
  rw [htb] at CE hb
  clear htb
  cases tb with
  | false =>
    have eb : b = false := by rw [← hb]; simp
    subst eb
    clear hb
    go_enter Try.func29, Try.ntmps29
    simp only [List.append_eq, List.cons_append, List.nil_append]
    go_wp2_with fail
    go_ret
    exact ⟨rfl, bup (bnew _ _) (bnew _ _)⟩
  | true =>
    cases hn0 : (n == 0) with
    | false =>
      have eb : b = false := by rw [← hb]; simp [hn0]
      subst eb
      clear hb
      go_enter Try.func29, Try.ntmps29
      simp only [List.append_eq, List.cons_append, List.nil_append]
      go_wp2_with fail
      go_ret
      exact ⟨rfl, bup (bnew _ _) (bnew _ _)⟩
    | true =>
      cases need with
      | true =>
        by_cases hents : en = 0
        · subst hents
          have eb : b = true := by rw [← hb]; simp [hn0]
          subst eb
          clear hb
          go_enter Try.func29, Try.ntmps29
          simp only [List.append_eq, List.cons_append, List.nil_append]
          go_wp2_with fail
          go_ret
          exact ⟨rfl, bup (bnew _ _) (bnew _ _)⟩
        · have hents1 : ((en : Int) == 0) = false := by simp; omega
          have hents2 : (en == 0) = false := by simp; omega
          have eb : b = false := by rw [← hb]; simp [hn0, hents2, hents]
          subst eb
          clear hb
          go_enter Try.func29, Try.ntmps29
          simp only [List.append_eq, List.cons_append, List.nil_append]
          go_wp2_with fail
          go_ret
          exact ⟨rfl, bup (bnew _ _) (bnew _ _)⟩
      | false =>
        cases hlsn : (lsn == 0) with
        | false =>
          have eb : b = false := by rw [← hb]; simp [hn0, hlsn]
          subst eb
          clear hb
          go_enter Try.func29, Try.ntmps29
          simp only [List.append_eq, List.cons_append, List.nil_append]
          go_wp2_with fail
          go_ret
          exact ⟨rfl, bup (bnew _ _) (bnew _ _)⟩
        | true =>
          by_cases hslots : sn = 0
          · subst hslots
            by_cases hents : en = 0
            · subst hents
              have eb : b = true := by rw [← hb]; simp [hn0, hlsn]
              subst eb
              clear hb
              go_enter Try.func29, Try.ntmps29
              simp only [List.append_eq, List.cons_append, List.nil_append]
              go_wp2_with fail
              go_ret
              exact ⟨rfl, bup (bnew _ _) (bnew _ _)⟩
            · have hents1 : ((en : Int) == 0) = false := by simp; omega
              have hents2 : (en == 0) = false := by simp; omega
              have eb : b = false := by rw [← hb]; simp [hn0, hlsn, hents2, hents]
              subst eb
              clear hb
              go_enter Try.func29, Try.ntmps29
              simp only [List.append_eq, List.cons_append, List.nil_append]
              go_wp2_with fail
              go_ret
              exact ⟨rfl, bup (bnew _ _) (bnew _ _)⟩
          · have hslots1 : ((sn : Int) == 0) = false := by simp; omega
            have hslots2 : (sn == 0) = false := by simp; omega
            have eb : b = false := by rw [← hb]; simp [hn0, hlsn, hslots2, hslots]
            subst eb
            clear hb
            go_enter Try.func29, Try.ntmps29
            simp only [List.append_eq, List.cons_append, List.nil_append]
            go_wp2_with fail
            go_ret
            exact ⟨rfl, bup (bnew _ _) (bnew _ _)⟩
set_option maxRecDepth 100000 in
set_option maxHeartbeats 8000000 in
theorem bare_v (k pg : Int) (x need : Bool) (n tc te tn lsn : Int) (A : Option Addr) (sn sc : Nat) (B : Option Addr) (en ec : Nat) (w : World) (h13 : (k == 13) = false) (b : Bool) (hb : ((false || pg == 0) && ((false || !x) && ((false || !need) && ((false || (tc == 0 && (te == 0 && (tn == 0 && true)))) &&
    (((false && decide (1 ≤ n)) || n == 0) && ((false || (lsn == 0 && sn == 0)) && ((false || en == 0) && (!false || decide (1 ≤ n))))))))) = b) :
    Calls Try.prog 29 #[.agg #[.int .i64 k, .int .i64 pg, .bool x, .bool need, .int .i64 n, .int .i64 tc, .int .i64 te, .int .i64 tn, .int .i64 lsn, .slice A sn sc, .slice B en ec], .agg #[.bool false, .bool false, .bool false, .bool false, .bool false, .bool false, .bool false]] w fun r w' => r = .returned (.bool b) ∧ Below w.heap.size w w' := by
  have CE := txnEqBin tc 0 te 0 tn 0
  obtain ⟨tb, htb⟩ : ∃ tb, (tc == 0 && (te == 0 && (tn == 0 && true))) = tb := ⟨_, rfl⟩
  rw [htb] at CE hb
  clear htb
  cases hpage : (pg == 0) with
  | false =>
    have eb : b = false := by rw [← hb]; simp [hpage]
    subst eb
    clear hb
    go_enter Try.func29, Try.ntmps29
    simp only [List.append_eq, List.cons_append, List.nil_append]
    go_wp2_with fail
    go_ret
    exact ⟨rfl, bup (bnew _ _) (bnew _ _)⟩
  | true =>
    cases x with
    | true =>
      have eb : b = false := by rw [← hb]; simp [hpage]
      subst eb
      clear hb
      go_enter Try.func29, Try.ntmps29
      simp only [List.append_eq, List.cons_append, List.nil_append]
      go_wp2_with fail
      go_ret
      exact ⟨rfl, bup (bnew _ _) (bnew _ _)⟩
    | false =>
      cases need with
      | true =>
        have eb : b = false := by rw [← hb]; simp [hpage]
        subst eb
        clear hb
        go_enter Try.func29, Try.ntmps29
        simp only [List.append_eq, List.cons_append, List.nil_append]
        go_wp2_with fail
        go_ret
        exact ⟨rfl, bup (bnew _ _) (bnew _ _)⟩
      | false =>
        cases tb with
        | false =>
          have eb : b = false := by rw [← hb]; simp [hpage]
          subst eb
          clear hb
          go_enter Try.func29, Try.ntmps29
          simp only [List.append_eq, List.cons_append, List.nil_append]
          go_wp2_with fail
          go_ret
          exact ⟨rfl, bup (bnew _ _) (bnew _ _)⟩
        | true =>
          cases hn0 : (n == 0) with
          | false =>
            have eb : b = false := by rw [← hb]; simp [hpage, hn0]
            subst eb
            clear hb
            go_enter Try.func29, Try.ntmps29
            simp only [List.append_eq, List.cons_append, List.nil_append]
            go_wp2_with fail
            go_ret
            exact ⟨rfl, bup (bnew _ _) (bnew _ _)⟩
          | true =>
            cases hlsn : (lsn == 0) with
            | false =>
              have eb : b = false := by rw [← hb]; simp [hpage, hn0, hlsn]
              subst eb
              clear hb
              go_enter Try.func29, Try.ntmps29
              simp only [List.append_eq, List.cons_append, List.nil_append]
              go_wp2_with fail
              go_ret
              exact ⟨rfl, bup (bnew _ _) (bnew _ _)⟩
            | true =>
              by_cases hslots : sn = 0
              · subst hslots
                by_cases hents : en = 0
                · subst hents
                  have eb : b = true := by rw [← hb]; simp [hpage, hn0, hlsn]
                  subst eb
                  clear hb
                  go_enter Try.func29, Try.ntmps29
                  simp only [List.append_eq, List.cons_append, List.nil_append]
                  go_wp2_with fail
                  go_ret
                  exact ⟨rfl, bup (bnew _ _) (bnew _ _)⟩
                · have hents1 : ((en : Int) == 0) = false := by simp; omega
                  have hents2 : (en == 0) = false := by simp; omega
                  have eb : b = false := by rw [← hb]; simp [hpage, hn0, hlsn, hents2, hents]
                  subst eb
                  clear hb
                  go_enter Try.func29, Try.ntmps29
                  simp only [List.append_eq, List.cons_append, List.nil_append]
                  go_wp2_with fail
                  go_ret
                  exact ⟨rfl, bup (bnew _ _) (bnew _ _)⟩
              · have hslots1 : ((sn : Int) == 0) = false := by simp; omega
                have hslots2 : (sn == 0) = false := by simp; omega
                have eb : b = false := by rw [← hb]; simp [hpage, hn0, hlsn, hslots2, hslots]
                subst eb
                clear hb
                go_enter Try.func29, Try.ntmps29
                simp only [List.append_eq, List.cons_append, List.nil_append]
                go_wp2_with fail
                go_ret
                exact ⟨rfl, bup (bnew _ _) (bnew _ _)⟩
set_option maxRecDepth 100000 in
set_option maxHeartbeats 8000000 in
theorem bare_c13 (k pg : Int) (x need : Bool) (n tc te tn lsn : Int) (A : Option Addr) (sn sc : Nat) (B : Option Addr) (en ec : Nat) (w : World) (h13 : (k == 13) = true) (b : Bool) (hb : ((false || pg == 0) && ((false || !x) && ((false || !need) && ((false || (tc == 0 && (te == 0 && (tn == 0 && true)))) &&
    (((true && decide (0 ≤ n)) || n == 0) && ((false || (lsn == 0 && sn == 0)) && ((false || en == 0) && (!true || decide (0 ≤ n))))))))) = b) :
    Calls Try.prog 29 #[.agg #[.int .i64 k, .int .i64 pg, .bool x, .bool need, .int .i64 n, .int .i64 tc, .int .i64 te, .int .i64 tn, .int .i64 lsn, .slice A sn sc, .slice B en ec], .agg #[.bool false, .bool false, .bool false, .bool false, .bool true, .bool false, .bool false]] w fun r w' => r = .returned (.bool b) ∧ Below w.heap.size w w' := by
  have CE := txnEqBin tc 0 te 0 tn 0
  obtain ⟨tb, htb⟩ : ∃ tb, (tc == 0 && (te == 0 && (tn == 0 && true))) = tb := ⟨_, rfl⟩
  rw [htb] at CE hb
  clear htb
  cases hpage : (pg == 0) with
  | false =>
    have eb : b = false := by rw [← hb]; simp [hpage]
    subst eb
    clear hb
    go_enter Try.func29, Try.ntmps29
    simp only [List.append_eq, List.cons_append, List.nil_append]
    go_wp2_with fail
    go_ret
    exact ⟨rfl, bup (bnew _ _) (bnew _ _)⟩
  | true =>
    cases x with
    | true =>
      have eb : b = false := by rw [← hb]; simp [hpage]
      subst eb
      clear hb
      go_enter Try.func29, Try.ntmps29
      simp only [List.append_eq, List.cons_append, List.nil_append]
      go_wp2_with fail
      go_ret
      exact ⟨rfl, bup (bnew _ _) (bnew _ _)⟩
    | false =>
      cases need with
      | true =>
        have eb : b = false := by rw [← hb]; simp [hpage]
        subst eb
        clear hb
        go_enter Try.func29, Try.ntmps29
        simp only [List.append_eq, List.cons_append, List.nil_append]
        go_wp2_with fail
        go_ret
        exact ⟨rfl, bup (bnew _ _) (bnew _ _)⟩
      | false =>
        cases tb with
        | false =>
          have eb : b = false := by rw [← hb]; simp [hpage]
          subst eb
          clear hb
          go_enter Try.func29, Try.ntmps29
          simp only [List.append_eq, List.cons_append, List.nil_append]
          go_wp2_with fail
          go_ret
          exact ⟨rfl, bup (bnew _ _) (bnew _ _)⟩
        | true =>
          by_cases hl : 0 ≤ n
          · have hl1 : decide (0 ≤ n) = true := by simpa using hl
            cases hlsn : (lsn == 0) with
            | false =>
              have eb : b = false := by rw [← hb]; simp [hpage, hl1, hl, hlsn]
              subst eb
              clear hb
              go_enter Try.func29, Try.ntmps29
              simp only [List.append_eq, List.cons_append, List.nil_append]
              go_wp2_with fail
              go_ret
              exact ⟨rfl, bup (bnew _ _) (bnew _ _)⟩
            | true =>
              by_cases hslots : sn = 0
              · subst hslots
                by_cases hents : en = 0
                · subst hents
                  have eb : b = true := by rw [← hb]; simp [hpage, hl1, hl, hlsn]
                  subst eb
                  clear hb
                  go_enter Try.func29, Try.ntmps29
                  simp only [List.append_eq, List.cons_append, List.nil_append]
                  go_wp2_with fail
                  go_ret
                  exact ⟨rfl, bup (bnew _ _) (bnew _ _)⟩
                · have hents1 : ((en : Int) == 0) = false := by simp; omega
                  have hents2 : (en == 0) = false := by simp; omega
                  have eb : b = false := by rw [← hb]; simp [hpage, hl1, hl, hlsn, hents2, hents]
                  subst eb
                  clear hb
                  go_enter Try.func29, Try.ntmps29
                  simp only [List.append_eq, List.cons_append, List.nil_append]
                  go_wp2_with fail
                  go_ret
                  exact ⟨rfl, bup (bnew _ _) (bnew _ _)⟩
              · have hslots1 : ((sn : Int) == 0) = false := by simp; omega
                have hslots2 : (sn == 0) = false := by simp; omega
                have eb : b = false := by rw [← hb]; simp [hpage, hl1, hl, hlsn, hslots2, hslots]
                subst eb
                clear hb
                go_enter Try.func29, Try.ntmps29
                simp only [List.append_eq, List.cons_append, List.nil_append]
                go_wp2_with fail
                go_ret
                exact ⟨rfl, bup (bnew _ _) (bnew _ _)⟩
          · have hl1 : decide (0 ≤ n) = false := by simpa using hl
            have hl2 : n < 0 := by omega
            cases hn0 : (n == 0) with
            | false =>
              have eb : b = false := by rw [← hb]; simp [hpage, hl1, hl, hn0]
              subst eb
              clear hb
              go_enter Try.func29, Try.ntmps29
              simp only [List.append_eq, List.cons_append, List.nil_append]
              go_wp2_with fail
              go_ret
              exact ⟨rfl, bup (bnew _ _) (bnew _ _)⟩
            | true =>
              cases hlsn : (lsn == 0) with
              | false =>
                have eb : b = false := by rw [← hb]; simp [hpage, hl1, hl, hn0, hlsn]
                subst eb
                clear hb
                go_enter Try.func29, Try.ntmps29
                simp only [List.append_eq, List.cons_append, List.nil_append]
                go_wp2_with fail
                go_ret
                exact ⟨rfl, bup (bnew _ _) (bnew _ _)⟩
              | true =>
                by_cases hslots : sn = 0
                · subst hslots
                  by_cases hents : en = 0
                  · subst hents
                    have eb : b = false := by rw [← hb]; simp [hpage, hl1, hl, hn0, hlsn]
                    subst eb
                    clear hb
                    go_enter Try.func29, Try.ntmps29
                    simp only [List.append_eq, List.cons_append, List.nil_append]
                    go_wp2_with fail
                    go_ret
                    exact ⟨rfl, bup (bnew _ _) (bnew _ _)⟩
                  · have hents1 : ((en : Int) == 0) = false := by simp; omega
                    have hents2 : (en == 0) = false := by simp; omega
                    have eb : b = false := by rw [← hb]; simp [hpage, hl1, hl, hn0, hlsn, hents2, hents]
                    subst eb
                    clear hb
                    go_enter Try.func29, Try.ntmps29
                    simp only [List.append_eq, List.cons_append, List.nil_append]
                    go_wp2_with fail
                    go_ret
                    exact ⟨rfl, bup (bnew _ _) (bnew _ _)⟩
                · have hslots1 : ((sn : Int) == 0) = false := by simp; omega
                  have hslots2 : (sn == 0) = false := by simp; omega
                  have eb : b = false := by rw [← hb]; simp [hpage, hl1, hl, hn0, hlsn, hslots2, hslots]
                  subst eb
                  clear hb
                  go_enter Try.func29, Try.ntmps29
                  simp only [List.append_eq, List.cons_append, List.nil_append]
                  go_wp2_with fail
                  go_ret
                  exact ⟨rfl, bup (bnew _ _) (bnew _ _)⟩
theorem bare_any (k pg : Int) (x need : Bool) (n tc te tn lsn : Int) (A : Option Addr) (sn sc : Nat) (B : Option Addr) (en ec : Nat) (w : World) (hk : kIs k = true) :
    Calls Try.prog 29 #[.agg (msgC k pg x need n tc te tn lsn A sn sc B en ec), .agg (shC k need)] w fun r w' => r = .returned (.bool (bareC k pg x need n tc te tn lsn sn en)) ∧ Below w.heap.size w w' := by
  have key : k = 1 ∨ k = 2 ∨ k = 3 ∨ k = 4 ∨ k = 5 ∨ k = 6 ∨ k = 7 ∨ k = 8 ∨ k = 9 ∨ k = 10 ∨ k = 11 ∨ k = 12 ∨ k = 13 := by unfold kIs at hk; simp at hk; omega
  clear hk
  rcases key with rfl | rfl | rfl | rfl | rfl | rfl | rfl | rfl | rfl | rfl | rfl | rfl | rfl
  · exact bare_pxn 1 pg x need n tc te tn lsn A sn sc B en ec w rfl _ rfl
  · exact bare_px 2 pg x need n tc te tn lsn A sn sc B en ec w rfl _ rfl
  · exact bare_p 3 pg x need n tc te tn lsn A sn sc B en ec w rfl _ rfl
  · exact bare_e 4 pg x need n tc te tn lsn A sn sc B en ec w rfl _ rfl
  · exact bare_pi 5 pg x need n tc te tn lsn A sn sc B en ec w rfl _ rfl
  · exact bare_t 6 pg x need n tc te tn lsn A sn sc B en ec w rfl _ rfl
  · exact bare_c 7 pg x need n tc te tn lsn A sn sc B en ec w rfl _ rfl
  · exact bare_c 8 pg x need n tc te tn lsn A sn sc B en ec w rfl _ rfl
  · exact bare_pxni 9 pg x need n tc te tn lsn A sn sc B en ec w rfl _ rfl
  · exact bare_px 10 pg x need n tc te tn lsn A sn sc B en ec w rfl _ rfl
  · exact bare_t 11 pg x need n tc te tn lsn A sn sc B en ec w rfl _ rfl
  · exact bare_v 12 pg x need n tc te tn lsn A sn sc B en ec w rfl _ rfl
  · exact bare_c13 13 pg x need n tc te tn lsn A sn sc B en ec w rfl _ rfl
end Go.Proofs.Ytakdagmkkelnfaa
