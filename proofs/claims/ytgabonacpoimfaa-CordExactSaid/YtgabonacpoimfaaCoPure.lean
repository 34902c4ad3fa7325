/-
  An end of a session in plain words: what it is given, what comes, what it hands on.
-/
import Derived.Test.YtgabonacpoimfaaGram
namespace Go.Proofs.Ytgabonacpoimfaa
open Go.RowKit
set_option linter.unusedVariables false
set_option linter.unusedSimpArgs false

/-- An end: its epoch, what isn't acknowledged, how many texts there were, how many came, what came ahead of its turn, what is owed; and how often something came ahead (no more than that lies there). -/
structure En where
  ep : Int
  op : List ByteArray
  gv : Nat
  gt : Nat
  ea : List (Nat × ByteArray)
  ow : Bool
  tk : Nat
def look (l : List (Nat × ByteArray)) (k : Nat) : Option ByteArray := (l.find? (fun x => x.1 == k)).map (·.2)
theorem look_mem {l : List (Nat × ByteArray)} {k : Nat} {s : ByteArray} (h : look l k = some s) : (k, s) ∈ l := by
  unfold look at h
  obtain ⟨x, hx, rfl⟩ := Option.map_eq_some_iff.1 h
  have h1 := List.find?_some hx
  have h2 := List.mem_of_find?_eq_some hx
  obtain ⟨a, b⟩ := x
  simp only [beq_iff_eq] at h1
  subst h1
  exact h2
theorem look_none {l : List (Nat × ByteArray)} {k : Nat} : look l k = none ↔ ∀ x ∈ l, x.1 ≠ k := by
  unfold look
  rw [Option.map_eq_none_iff, List.find?_eq_none]
  simp
theorem look_snoc (l : List (Nat × ByteArray)) (a : Nat) (s : ByteArray) (k : Nat) : look (l ++ [(a, s)]) k = if (look l k).isSome then look l k else if a = k then some s else none := by
  unfold look
  rw [List.find?_append]
  cases h : l.find? (fun x => x.1 == k) with
  | some x => simp
  | none =>
    simp only [Option.none_or, Option.map_none, Option.isSome_none, List.find?_cons, List.find?_nil]
    by_cases e : a = k
    · subst e; simp
    · have : (a == k) = false := by simpa using e
      simp [this, e]
theorem look_filter (l : List (Nat × ByteArray)) (g k : Nat) (hk : g < k) : look (l.filter (fun x => decide (g < x.1))) k = look l k := by
  unfold look
  congr 1
  rw [List.find?_filter]
  congr 1
  funext x
  by_cases e : x.1 = k
  · subst e; simp [hk]
  · have : (x.1 == k) = false := by simpa using e
    rw [this]; simp
/-- What has come and is next in its turn, and what is left. -/
def drainF : Nat → List (Nat × ByteArray) → Nat → List ByteArray × List (Nat × ByteArray) × Nat
  | 0, l, g => ([], l, g)
  | n + 1, l, g => match look l (g + 1) with
    | none => ([], l, g)
    | some s => (s :: (drainF n (l.filter (fun x => decide (g + 1 < x.1))) (g + 1)).1, (drainF n (l.filter (fun x => decide (g + 1 < x.1))) (g + 1)).2)
def drain (l : List (Nat × ByteArray)) (g : Nat) : List ByteArray × List (Nat × ByteArray) × Nat := drainF l.length l g
theorem less_filter {l : List (Nat × ByteArray)} {g : Nat} {s : ByteArray} (h : look l (g + 1) = some s) : (l.filter (fun x => decide (g + 1 < x.1))).length < l.length := by
  refine List.length_filter_lt_length_iff_exists.2 ⟨_, look_mem h, ?_⟩
  simp
theorem drainF_fuel : ∀ (n : Nat) (l : List (Nat × ByteArray)) (g : Nat), l.length ≤ n → drainF n l g = drain l g
  | 0, l, g, h => by
    have : l.length = 0 := by omega
    unfold drain; rw [this]
  | n + 1, l, g, h => by
    cases hl : look l (g + 1) with
    | none =>
      have e1 : drainF (n + 1) l g = ([], l, g) := by simp only [drainF, hl]
      rw [e1]
      unfold drain
      cases hm : l.length with
      | zero => rfl
      | succ m => simp only [drainF, hl]
    | some s =>
      have hlt := less_filter hl
      obtain ⟨m, hm⟩ : ∃ m, l.length = m + 1 := ⟨l.length - 1, by omega⟩
      unfold drain
      rw [hm]
      simp only [drainF, hl]
      rw [drainF_fuel n _ _ (by omega), drainF_fuel m _ _ (by omega)]
theorem drain_none {l : List (Nat × ByteArray)} {g : Nat} (h : look l (g + 1) = none) : drain l g = ([], l, g) := by
  unfold drain
  cases hm : l.length with
  | zero => rfl
  | succ m => simp only [drainF, h]
theorem drain_some {l : List (Nat × ByteArray)} {g : Nat} {s : ByteArray} (h : look l (g + 1) = some s) :
    drain l g = (s :: (drain (l.filter (fun x => decide (g + 1 < x.1))) (g + 1)).1, (drain (l.filter (fun x => decide (g + 1 < x.1))) (g + 1)).2) := by
  have hlt := less_filter h
  obtain ⟨m, hm⟩ : ∃ m, l.length = m + 1 := ⟨l.length - 1, by omega⟩
  conv => lhs; unfold drain
  rw [hm]
  simp only [drainF, h]
  rw [drainF_fuel m _ _ (by omega)]
/-- .. by induction: what a drain leaves. -/
theorem drain_ind (P : List (Nat × ByteArray) → Nat → List ByteArray × List (Nat × ByteArray) × Nat → Prop)
    (h0 : ∀ l g, look l (g + 1) = none → P l g ([], l, g))
    (h1 : ∀ l g s r, look l (g + 1) = some s → P (l.filter (fun x => decide (g + 1 < x.1))) (g + 1) r → P l g (s :: r.1, r.2)) : ∀ (n : Nat) l g, l.length ≤ n → P l g (drain l g)
  | 0, l, g, h => by
    have : l = [] := List.eq_nil_of_length_eq_zero (by omega)
    subst this
    rw [drain_none (by rfl)]
    exact h0 _ _ rfl
  | n + 1, l, g, h => by
    cases hl : look l (g + 1) with
    | none => rw [drain_none hl]; exact h0 _ _ hl
    | some s =>
      have hlt := less_filter hl
      rw [drain_some hl]
      exact h1 _ _ _ _ hl (drain_ind P h0 h1 n _ _ (by omega))
theorem drain_len (l : List (Nat × ByteArray)) (g : Nat) : (drain l g).2.2 = g + (drain l g).1.length ∧ (drain l g).1.length + (drain l g).2.1.length ≤ l.length :=
  drain_ind (fun l g r => r.2.2 = g + r.1.length ∧ r.1.length + r.2.1.length ≤ l.length) (fun l g _ => by simp) (fun l g s r hl hr => by
    have := less_filter hl
    simp only [List.length_cons]; omega) l.length l g (Nat.le_refl _)
theorem drain_above' (l : List (Nat × ByteArray)) (g : Nat) : g ≤ (drain l g).2.2 ∧ ((∀ x ∈ l, g < x.1) → (∀ x ∈ (drain l g).2.1, (drain l g).2.2 < x.1) ∧ (drain l g).2.1 = l.filter (fun x => decide ((drain l g).2.2 < x.1)) ∧ ∀ x ∈ (drain l g).2.1, x ∈ l) :=
  drain_ind (fun l g r => g ≤ r.2.2 ∧ ((∀ x ∈ l, g < x.1) → (∀ x ∈ r.2.1, r.2.2 < x.1) ∧ r.2.1 = l.filter (fun x => decide (r.2.2 < x.1)) ∧ ∀ x ∈ r.2.1, x ∈ l))
    (fun l g _ => ⟨Nat.le_refl _, fun h => ⟨h, (List.filter_eq_self.2 (fun x hx => by simpa using h x hx)).symm, fun _ h => h⟩⟩)
    (fun l g s r hl hr => by
      refine ⟨by have := hr.1; show g ≤ r.2.2; omega, fun h => ?_⟩
      obtain ⟨h1, h2, h3⟩ := hr.2 (fun x hx => by simpa using (List.mem_filter.1 hx).2)
      refine ⟨h1, ?_, fun x hx => (List.mem_filter.1 (h3 x hx)).1⟩
      show r.2.1 = l.filter (fun x => decide (r.2.2 < x.1))
      rw [h2, List.filter_filter]
      refine List.filter_congr fun x hx => ?_
      by_cases hg : g + 1 < x.1
      · have e : decide (g + 1 < x.1) = true := by simpa using hg
        rw [e, Bool.and_true]
      · have hge := hr.1
        have : ¬ r.2.2 < x.1 := by omega
        simp [hg, this]) l.length l g (Nat.le_refl _)
theorem drain_above (l : List (Nat × ByteArray)) (g : Nat) (h : ∀ x ∈ l, g < x.1) : (∀ x ∈ (drain l g).2.1, (drain l g).2.2 < x.1) ∧ (drain l g).2.1 = l.filter (fun x => decide ((drain l g).2.2 < x.1)) ∧ ∀ x ∈ (drain l g).2.1, x ∈ l := (drain_above' l g).2 h
def En.new (ep : Int) : En := ⟨ep, [], 0, 0, [], false, 0⟩
def sendE (e : En) (s : ByteArray) : En × Int := if 16384 < s.size then (e, 5) else if 32 ≤ e.op.length then (e, 11) else ({ e with op := e.op ++ [s], gv := e.gv + 1 }, 0)
def owesE (e : En) : Bool := e.ow || decide (0 < e.op.length)
/-- The datagrams of what isn't acknowledged, from the i-th text on. -/
def gramsF (e : En) : Nat → List ByteArray → List Gr
  | _, [] => []
  | i, s :: l => ⟨0, false, e.ep, ((e.gv - e.op.length + 1 + i : Nat) : Int), (e.gt : Int), s⟩ :: gramsF e (i + 1) l
def outG (e : En) : List Gr := if 0 < e.op.length then gramsF e 0 e.op else if e.ow then [⟨0, false, e.ep, 0, (e.gt : Int), ⟨#[]⟩⟩] else []
def outE (e : En) : En := { e with ow := false }
def rightE (e : En) (g : Gr) : Int :=
  if g.ep ≠ e.ep then 23 else if (g.ak < 0 ∨ (e.gv : Int) < g.ak ∨ g.sq < 0 ∨ (e.gt : Int) + 32 < g.sq) ∨ (g.sq = 0 ∧ 0 < g.bd.size) then 4 else if 16384 < g.bd.size then 5 else 0
/-- What has come ahead, and a text more. -/
def earlyE (e : En) (g : Gr) : List (Nat × ByteArray) := if (look e.ea g.sq.toNat).isNone ∧ (e.gt : Int) < g.sq then e.ea ++ [(g.sq.toNat, g.bd)] else e.ea
def ackE (e : En) (g : Gr) : List ByteArray := e.op.drop (e.op.length - (e.gv - g.ak.toNat))
def takeE (e : En) (g : Gr) : En × List ByteArray × Int :=
  if rightE e g ≠ 0 then (e, [], rightE e g) else if g.sq = 0 then ({ e with op := ackE e g }, [], 0) else
    ({ e with op := ackE e g, ow := true, ea := (drain (earlyE e g) e.gt).2.1, gt := (drain (earlyE e g) e.gt).2.2, tk := e.tk + 1 }, (drain (earlyE e g) e.gt).1, 0)
/-- What stands of every end that was made and called. -/
structure En.ok (e : En) : Prop where
  op : e.op.length ≤ e.gv
  most : e.op.length ≤ 32
  ea : ∀ x ∈ e.ea, e.gt < x.1 ∧ x.1 ≤ e.gt + 32
  tk : e.gt + e.ea.length ≤ e.tk
end Go.Proofs.Ytgabonacpoimfaa
