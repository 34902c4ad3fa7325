/-
  A datagram comes.
-/
import Derived.Test.YtgabonacpoimfaaCoD
namespace Go.Proofs.Ytgabonacpoimfaa
open Go.RowKit
set_option linter.unusedVariables false
set_option linter.unusedSimpArgs false
theorem wpList_put {ops : Array Oper} {rest : List Oper} {o : Oper} {a : Act} {Q : Exit → Act → World → Prop} (hg : o.guard = none) (m x v : Operand) (hop : o.op = Op.mapUpdate 64 m x v) (w : World) (mb n : Nat) (l : List (Nat × ByteArray)) (k : Nat) (s : ByteArray)
    (hm : a.eval m = .map (some mb)) (hmap : MapAt w mb n l) (hx : a.eval x = .int .i64 (k : Int)) (hv : a.eval v = .string s) (hk : k ≤ 9223372036854775807) (hs : s.size ≤ maxLen) (hn : n < maxLen) (hl : look l k = none)
    (hK : ∀ w', MapAt w' mb (n + 1) (l ++ [(k, s)]) → But mb w w' → wpList Try.prog ops Q rest (a.put o.dst undef) w') : wpList Try.prog ops Q (o :: rest) a w := by
  refine wpList_plain hg fun K' hK' => ?_
  obtain ⟨w', hrun, r1, r2⟩ := hmap.put hk hs hn hl
  unfold Oper.wp
  simp [execOp, hop, hm, hx, hv, hrun, Result.andThen]
  exact hK' _ _ (hK w' r1 r2)
theorem wpList_del {ops : Array Oper} {rest : List Oper} {o : Oper} {a : Act} {Q : Exit → Act → World → Prop} (hg : o.guard = none) (m x : Operand) (hop : o.op = Op.call { callee := Callee.builtin Builtin.delete, args := #[m, x], argTypes := #[64, 3] }) (w : World) (mb n : Nat) (l : List (Nat × ByteArray)) (k : Nat)
    (hm : a.eval m = .map (some mb)) (hmap : MapAt w mb n l) (hx : a.eval x = .int .i64 (k : Int)) (hk : k ≤ 9223372036854775807) (hl : ∀ x ∈ l, k ≤ x.1)
    (hK : ∀ w', MapAt w' mb n (l.filter (fun x => decide (k < x.1))) → But mb w w' → wpList Try.prog ops Q rest (a.put o.dst (.tuple #[])) w') : wpList Try.prog ops Q (o :: rest) a w := by
  refine wpList_plain hg fun K' hK' => ?_
  obtain ⟨w', hrun, r1, r2⟩ := hmap.del hk hl o.type
  unfold Oper.wp
  simp [execOp, hop, resolve, invoke, builtin, hm, hx, hrun, Result.andThen]
  exact hK' _ _ (hK w' r1 r2)
def TakePost (p : Nat) (r : Option Nat) (mb : Nat) (R : En × List ByteArray × Int) (w : World) (e : Ending) (w' : World) : Prop :=
  ∃ A cap, e = .returned (.tuple #[.slice A R.2.1.length cap, .int .i64 R.2.2]) ∧ SRow w' (.slice A R.2.1.length cap) R.2.1 ∧ (∀ g, (Value.slice A R.2.1.length cap).ownBlock = some g → w.heap.size ≤ g) ∧ EndKeep p r mb R.1 w w'
section
variable {p : Nat} {r : Option Nat} {mb : Nat} {E : En} {w : World}
set_option maxRecDepth 100000 in
set_option maxHeartbeats 4000000 in
theorem ctake_bad (h : EndAt w p r mb E) (x : Gr) (hg : E.gv ≤ 1000000) (ht : E.gt ≤ 1000000) (hb : rightE E x ≠ 0) :
    Calls Try.prog 17 #[.pointer (some ⟨p, 0, none⟩), x.val] w (TakePost p r mb (takeE E x) w) := by
  have hT : takeE E x = (E, [], rightE E x) := by unfold takeE; rw [if_pos hb]
  rw [hT]
  obtain ⟨c, u, ep, sq, ak, bd⟩ := x
  have CR := Lib.hid (cright_any (h.below (bnew w (.cells #[.int .i64 c, .bool u, .int .i64 ep, .int .i64 sq, .int .i64 ak, .string bd] 29))) ⟨c, u, ep, sq, ak, bd⟩ hg ht)
  obtain ⟨R, hR⟩ : ∃ R, rightE E (⟨c, u, ep, sq, ak, bd⟩ : Gr) = R := ⟨_, rfl⟩
  rw [hR] at CR hb ⊢
  simp only [Gr.val] at CR ⊢
  have HE := Lib.hid h
  have hne : (R != 0) = true := by simpa using hb
  clear h hT hR hb
  go_enter Try.func17, Try.ntmps17
  go_wp2_with fail
  refine CR.out.mono ?_
  rintro e w2 ⟨rfl, b2⟩
  go_wp2_with fail
  go_ret2
  exact ⟨none, 0, rfl, SRow.nil _, (fun g e => by cases e), EndKeep.same HE.out (bup (bnew w _) b2)⟩
theorem right_ok {E : En} {x : Gr} (h : rightE E x = 0) : x.ep = E.ep ∧ 0 ≤ x.ak ∧ x.ak ≤ E.gv ∧ 0 ≤ x.sq ∧ x.sq ≤ E.gt + 32 ∧ (x.sq = 0 → x.bd.size = 0) ∧ x.bd.size ≤ 16384 := by
  unfold rightE at h
  by_cases h1 : x.ep ≠ E.ep
  · rw [if_pos h1] at h; cases h
  rw [if_neg h1] at h
  by_cases h2 : (x.ak < 0 ∨ (E.gv : Int) < x.ak ∨ x.sq < 0 ∨ (E.gt : Int) + 32 < x.sq) ∨ (x.sq = 0 ∧ 0 < x.bd.size)
  · rw [if_pos h2] at h; cases h
  rw [if_neg h2] at h
  by_cases h3 : 16384 < x.bd.size
  · rw [if_pos h3] at h; cases h
  exact ⟨by simpa using h1, by omega, by omega, by omega, by omega, by omega, by omega⟩
/-- What is acknowledged is cut off the front. -/
theorem EndAt.cut (h : EndAt w p r mb E) {A : Option Addr} {n cap k : Nat} (hn : E.op.length = n) (hk : k ≤ n) (hA : A ≠ none) (hp : Has w p (.cells #[.int .i64 E.ep, .slice A n cap, .int .i64 (E.gv : Int), .int .i64 (E.gt : Int), .map (some mb), .bool E.ow] 66)) (hrow : SRow w (.slice A n cap) E.op) (hv : (Value.slice A n cap).ownBlock = r) :
    ∃ r', EndAt (w.setCell ⟨p, 1, none⟩ (.slice (cutAt A cap k) (n - k) (cap - k))) p r' mb { E with op := E.op.drop k } ∧ (∀ g, r' = some g → r = some g) := by
  have hc := hrow.cut hk hA
  have hr : ∀ g, (Value.slice (cutAt A cap k) (n - k) (cap - k)).ownBlock = some g → r = some g := fun g e => by rw [← hv]; exact hc.2 g e
  exact ⟨_, h.row (gv := 0) hc.1 rfl (fun e => h.ne.2.1 (hr p e)) (fun e => h.ne.2.2 (hr mb e)), hr⟩
end
end Go.Proofs.Ytgabonacpoimfaa
