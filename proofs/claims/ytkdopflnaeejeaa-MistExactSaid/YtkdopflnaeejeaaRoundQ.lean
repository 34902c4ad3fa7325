/-
  A region that draws its order and only reads, in the round of a range over a function.
-/
import Derived.Sort.BigQuietIn
namespace Go.Proofs.Ytkdopflnaeejeaa
set_option linter.unusedVariables false

theorem plain_op {F : Fence} {n : Nat} {P : Program} {o : Oper} {a : Act} {w : World} {K : Act → World → Prop} {Q : Exit → Act → World → Prop} (hd : ∀ c, o.op ≠ .defer c) (h : o.wpIn F.plain n P a w K Q) : o.wpIn F n P a w K Q := by
  unfold Oper.wpIn at *
  rw [Oper.semAt_eq _ _ _ hd] at *
  exact h
theorem plain_any {F : Fence} {n : Nat} {P : Program} {md : Region.Mode} {ops : Array Oper} {Q : Exit → Act → World → Prop} (hd : ∀ (i : Nat) o, ops[i]? = some o → ∀ c, o.op ≠ .defer c) : ∀ (fuel : Nat) (listed : Array Bool) (a : Act) (w : World),
    wpAnyIn F.plain n P md ops Q fuel listed a w → wpAnyIn F n P md ops Q fuel listed a w
  | 0, _, _, _, h => h
  | fuel + 1, listed, a, w, h => by
    refine ⟨h.1, fun i hi => ?_⟩
    have h2 := wpOpIn_mono (fun a w => plain_any hd fuel (listed.setIfInBounds i true) a w) (h.2 i hi)
    unfold wpOpIn at *
    cases ho : ops[i]? with
    | none => simp only [ho] at h2 ⊢; exact h2
    | some o =>
      simp only [ho] at h2 ⊢
      by_cases hw : Region.wanted o (yielded ops a.tmps) = true
      · rw [if_pos hw] at h2 ⊢; exact plain_op (hd i o ho) h2
      · rw [if_neg hw] at h2 ⊢; exact h2
theorem wpIn_region_quiet_round {F : Fence} {n : Nat} {P : Program} {id : Nat} {Q : Exit → Act → World → Prop} {a : Act} {w : World} {l : List Oper} (hd : l.all (fun o => match o.op with | .defer _ => false | _ => true) = true)
    (hm : P.follows .mixedOrders = true) (hB : Region.lexB .any l.toArray = true)
    (h : wpQuietIn F.plain n P l.toArray (fun w' => ∃ n, w' = w.drewN n) (fun a' => ∀ w', (∃ n, w' = w.drewN n) → Q .normal a' w') l a) : (Code.region id l.toArray true).wpIn F n P Q a w := by
  refine wpIn_region_any hm (plain_any (fun i o ho c e => ?_) _ _ _ _ ?_)
  · have hm := List.all_eq_true.1 hd o (List.mem_of_getElem? (i := i) (by simpa using ho))
    rw [e] at hm
    cases hm
  · simp only [Region.lexB, Bool.and_eq_true] at hB
    refine wpAnyIn_of_quiet (C := fun w' => ∃ n, w' = w.drewN n) (Q := fun a' => ∀ w', (∃ n, w' = w.drewN n) → Q .normal a' w') rfl (fun _ w' hw' h => h w' hw') _ _ _ _ ⟨1, rfl⟩ ?_
    have := wpAnyQIn_lex (F := F.plain) (n := n) (P := P) (C := fun w' => ∃ n, w' = w.drewN n) (Q := fun a' => ∀ w', (∃ n, w' = w.drewN n) → Q .normal a' w') (md := .any) hB.1 l 0 (Array.replicate l.toArray.size false) a (by simp) (by simpa using hB.2) h
    simpa using this
end Go.Proofs.Ytkdopflnaeejeaa
