/-
  The reference end in memory; one that is made, a text that it is given.
-/
import Derived.Test.YtgabonacpoimfaaCrRow
namespace Go.Proofs.Ytgabonacpoimfaa
open Go.RowKit
set_option linter.unusedVariables false
set_option linter.unusedSimpArgs false

def numF : Nat → List ByteArray → List Tx
  | _, [] => []
  | i, s :: l => (i, s) :: numF (i + 1) l
theorem numF_len : ∀ (l : List ByteArray) (i : Nat), (numF i l).length = l.length
  | [], _ => rfl
  | x :: l, i => by simp only [numF, List.length_cons, numF_len l]
theorem numF_snoc (s : ByteArray) : ∀ (l : List ByteArray) (i : Nat), numF i (l ++ [s]) = numF i l ++ [(i + l.length, s)]
  | [], i => by simp [numF]
  | x :: l, i => by
    simp only [List.cons_append, numF, numF_snoc s l (i + 1), List.length_cons]
    rw [show i + 1 + l.length = i + (l.length + 1) by omega]
theorem numF_get : ∀ (l : List ByteArray) (i k : Nat), (numF i l)[k]? = (l[k]?).map (fun s => (i + k, s))
  | [], i, k => by simp [numF]
  | x :: l, i, 0 => by simp [numF]
  | x :: l, i, k + 1 => by
    simp only [numF, List.getElem?_cons_succ, numF_get l (i + 1) k]
    rw [show i + 1 + k = i + (k + 1) by omega]
theorem numF_above (m : Nat) : ∀ (l : List ByteArray) (i : Nat), aboveT (numF i l) (m : Int) = numF (i + (m + 1 - i)) (l.drop (m + 1 - i))
  | [], i => by simp [numF, aboveT]
  | x :: l, i => by
    have ih := numF_above m l (i + 1)
    unfold aboveT at *
    simp only [numF, List.filter_cons]
    by_cases h : m < i
    · have hd : m + 1 - i = 0 := by omega
      have hd2 : m + 1 - (i + 1) = 0 := by omega
      have : decide ((m : Int) < ((i : Nat) : Int)) = true := by simp; omega
      rw [if_pos this, ih, hd, hd2]
      simp [numF]
    · have : decide ((m : Int) < ((i : Nat) : Int)) = false := by simp; omega
      rw [this]
      simp only [Bool.false_eq_true, if_false]
      rw [ih, show m + 1 - i = (m + 1 - (i + 1)) + 1 by omega, List.drop_succ_cons, show i + 1 + (m + 1 - (i + 1)) = i + (m + 1 - (i + 1) + 1) by omega]
/-- What the reference end holds. -/
structure Rf where
  ep : Int
  L : List Tx
  gv : Nat
  gt : Nat
  E : List Tx
  ow : Bool
def rfOf (e : En) : Rf := ⟨e.ep, numF (e.gv - e.op.length + 1) e.op, e.gv, e.gt, e.ea, e.ow⟩
def Rf.cells (f : Rf) (vL vE : Value) : Array Value := #[.int .i64 f.ep, vL, .int .i64 (f.gv : Int), .int .i64 (f.gt : Int), vE, .bool f.ow]
structure RefAt (w : World) (u : Nat) (rl re : Option Nat) (f : Rf) : Prop where
  ex : ∃ vL vE, Has w u (.cells (f.cells vL vE) 36) ∧ RowT w vL f.L ∧ vL.ownBlock = rl ∧ RowT w vE f.E ∧ vE.ownBlock = re
  n1 : rl ≠ some u
  n2 : re ≠ some u
  n3 : ∀ g, rl = some g → re ≠ some g
def zoneF (u : Nat) (rl re : Option Nat) (k : Nat) : Prop := k = u ∨ rl = some k ∨ re = some k
section
variable {w w' : World} {u : Nat} {rl re : Option Nat} {f : Rf}
theorem RowT.held {S : Nat → Prop} {w w' : World} {v : Value} {q : List Tx} (h : RowT w v q) (k : Kept S w w') (hs : ∀ g, v.ownBlock = some g → ¬ S g) : RowT w' v q := by
  cases hv : v.ownBlock with
  | none =>
    rcases h.2 with ⟨rfl, hq⟩ | ⟨g, cap, cur, rfl, _⟩
    · exact ⟨h.1, .inl ⟨rfl, hq⟩⟩
    · cases hv
  | some g =>
    refine ⟨h.1, ?_⟩
    rcases h.2 with ⟨rfl, hq⟩ | ⟨g', cap, cur, rfl, h1, h2, h3⟩
    · cases hv
    · cases hv
      exact .inr ⟨_, cap, cur, rfl, h1, Has.held h2 k (hs _ rfl), h3⟩
theorem RowT.lt {w : World} {v : Value} {q : List Tx} (h : RowT w v q) {g : Nat} (hg : v.ownBlock = some g) : g < w.heap.size := (World.ownsRow.lt h g hg).2
theorem RefAt.held (h : RefAt w u rl re f) {S : Nat → Prop} (k : Kept S w w') (hs : ∀ j, zoneF u rl re j → ¬ S j) : RefAt w' u rl re f := by
  obtain ⟨⟨vL, vE, hp, h1, h2, h3, h4⟩, n1, n2, n3⟩ := h
  exact ⟨⟨vL, vE, hp.held k (hs u (.inl rfl)), h1.held k (fun g e => hs g (.inr (.inl (h2.symm.trans e)))), h2, h3.held k (fun g e => hs g (.inr (.inr (h4.symm.trans e)))), h4⟩, n1, n2, n3⟩
theorem RefAt.lt (h : RefAt w u rl re f) : ∀ j, zoneF u rl re j → j < w.heap.size := by
  obtain ⟨⟨vL, vE, hp, h1, h2, h3, h4⟩, n1, n2, n3⟩ := h
  rintro j (rfl | e | e)
  · exact hp.lt
  · exact h1.lt (h2.trans e)
  · exact h3.lt (h4.trans e)
theorem RefAt.below (h : RefAt w u rl re f) (hb : Below w.heap.size w w') : RefAt w' u rl re f := h.held (S := fun _ => False) (Kept.of hb) (fun _ _ e => e)
theorem RefAt.open (h : RefAt w u rl re f) : ∃ A cap B cbp, Has w u (.cells (f.cells (.slice A f.L.length cap) (.slice B f.E.length cbp)) 36) ∧ RowT w (.slice A f.L.length cap) f.L ∧ (Value.slice A f.L.length cap).ownBlock = rl ∧ RowT w (.slice B f.E.length cbp) f.E ∧ (Value.slice B f.E.length cbp).ownBlock = re ∧ f.L.length ≤ cap ∧ cap ≤ 9223372036854775807 ∧ f.E.length ≤ cbp ∧ cbp ≤ 9223372036854775807 := by
  obtain ⟨⟨vL, vE, hp, h1, h2, h3, h4⟩, n1, n2, n3⟩ := h
  obtain ⟨A, cap, rfl, a1, a2⟩ := h1.form
  obtain ⟨B, cbp, rfl, b1, b2⟩ := h3.form
  exact ⟨A, cap, B, cbp, hp, h1, h2, h3, h4, a1, a2, b1, b2⟩
/-- What a call on it leaves. -/
def RefOut (u : Nat) (rl re : Option Nat) (f : Rf) (w w' : World) : Prop :=
  ∃ rl' re', RefAt w' u rl' re' f ∧ Kept (zoneF u rl re) w w' ∧ ∀ k, zoneF u rl' re' k → zoneF u rl re k ∨ w.heap.size ≤ k
theorem RefOut.same (h : RefAt w u rl re f) (hb : Below w.heap.size w w') : RefOut u rl re f w w' := ⟨rl, re, h.below hb, Kept.of hb, fun k h => .inl h⟩
theorem RefAt.to (h : RefAt w u rl re f) (k : Kept (zoneF u rl re) w w') {vL vE : Value} {f' : Rf} (hp : Has w' u (.cells (f'.cells vL vE) 36)) (hL : RowT w' vL f'.L) (hE : RowT w' vE f'.E)
    (fL : ∀ g, vL.ownBlock = some g → rl = some g ∨ w.heap.size ≤ g) (fE : ∀ g, vE.ownBlock = some g → re = some g ∨ w.heap.size ≤ g) (hd : ∀ g, vL.ownBlock = some g → vE.ownBlock ≠ some g) : RefOut u rl re f' w w' := by
  have hu := h.lt u (.inl rfl)
  refine ⟨_, _, ⟨⟨vL, vE, hp, hL, rfl, hE, rfl⟩, fun e => ?_, fun e => ?_, hd⟩, k, fun j hj => ?_⟩
  · rcases fL u e with h1 | h1
    · exact h.n1 h1
    · omega
  · rcases fE u e with h1 | h1
    · exact h.n2 h1
    · omega
  · rcases hj with e | e | e
    · exact .inl (.inl e)
    · exact (fL j e).imp (fun h => .inr (.inl h)) id
    · exact (fE j e).imp (fun h => .inr (.inr h)) id
theorem RefOut.put {f0 f1 : Rf} {w1 : World} {i : Nat} {v : Value} (h : RefOut u rl re f0 w w1) (hc : ∀ vL vE, (f0.cells vL vE).setIfInBounds i v = f1.cells vL vE) (hL : f1.L = f0.L) (hE : f1.E = f0.E) : RefOut u rl re f1 w (w1.setCell ⟨u, i, none⟩ v) := by
  obtain ⟨rl', re', ⟨⟨vL, vE, hp, h1, h2, h3, h4⟩, n1, n2, n3⟩, hk, hf⟩ := h
  have k : Kept (fun j => j = u) w1 (w1.setCell ⟨u, i, none⟩ v) := Kept.but (But.set u i w1 v) rfl
  refine ⟨rl', re', ⟨⟨vL, vE, ?_, ?_, h2, ?_, h4⟩, n1, n2, n3⟩, hk.trans (Kept.but (But.set u i w1 v) (.inl rfl)), hf⟩
  · have := hp.set i v
    rw [hc] at this; exact this
  · rw [hL]; exact h1.held k (fun g e1 e2 => n1 (by rw [← h2, e1, e2]))
  · rw [hE]; exact h3.held k (fun g e1 e2 => n2 (by rw [← h4, e1, e2]))
theorem RefOut.below {w1 : World} (h : RefOut u rl re f w w1) (hb : Below w1.heap.size w1 w') : RefOut u rl re f w w' := by
  obtain ⟨rl', re', hR, hk, hf⟩ := h
  exact ⟨rl', re', hR.below hb, hk.trans (Kept.of hb), hf⟩
end
def RefR (u : Nat) (f : Rf) : Rsc := fun w Z => ∃ rl re, RefAt w u rl re f ∧ Z = zoneF u rl re
theorem RefR.good (u : Nat) (f : Rf) : (RefR u f).Good :=
  ⟨fun ⟨rl, re, hN, e1⟩ k hs => ⟨rl, re, hN.held k (fun j h => hs j (by rw [e1]; exact h)), e1⟩, fun ⟨rl, re, hN, e1⟩ k hk => hN.lt k (by rw [e1] at hk; exact hk)⟩
theorem Held.callF {F : Nat → Prop} {u : Nat} {f : Rf} {B : Rsc} {w : World} (hB : B.Good) (h : Held F (Star (RefR u f) B) w) : ∃ rl re, RefAt w u rl re f ∧ ∀ f' w', RefOut u rl re f' w w' → Held F (Star (RefR u f') B) w' ∧ KeptF F w w' := by
  obtain ⟨Z, ⟨Z1, Z2, ⟨rl, re, hN, e1⟩, h2, hd, e2⟩, hF⟩ := h
  subst e1 e2
  refine ⟨rl, re, hN, fun f' w' ho => ?_⟩
  refine Held.step (A := fun w Z => RefAt w u rl re f ∧ Z = zoneF u rl re) hB ⟨_, ⟨_, Z2, ⟨hN, rfl⟩, h2, hd, rfl⟩, hF⟩ (fun Z ⟨_, e1⟩ => ?_)
  obtain ⟨rl', re', hN', hk, hf⟩ := ho
  subst e1
  exact ⟨zoneF u rl' re', ⟨rl', re', hN', rfl⟩, hk, hf⟩
def refWorld (w : World) (ep : Int) : World := w.alloc (.cells #[.int .i64 ep, .slice none 0 0, .int .i64 0, .int .i64 0, .slice none 0 0, .bool false] 36)
theorem RowT.nil (w : World) : RowT w (.slice none 0 0) [] := World.ownsRow_nil _ _ _ _
theorem refWorld_at (w : World) (ep : Int) : RefAt (refWorld w ep) w.heap.size none none (rfOf (En.new ep)) :=
  ⟨⟨.slice none 0 0, .slice none 0 0, Has.new w _, RowT.nil _, rfl, RowT.nil _, rfl⟩, by simp, by simp, by simp⟩
theorem Held.newRef {F : Nat → Prop} {B : Rsc} {w : World} (hB : B.Good) (h : Held F B w) (ep : Int) : Held F (Star (RefR w.heap.size (rfOf (En.new ep))) B) (refWorld w ep) :=
  h.made hB (bnew w _) (Z := zoneF w.heap.size none none) ⟨none, none, refWorld_at w ep, rfl⟩ (fun k hk => by
    rcases hk with rfl | e | e
    · exact Nat.le_refl _
    · cases e
    · cases e)
set_option maxRecDepth 100000 in
theorem rnew_any (ep : Int) (w : World) (h1 : 1 ≤ ep) (h2 : ep ≤ 1073741824) :
    Calls Try.prog 10 #[.int .i64 ep] w fun e w' => e = .returned (.pointer (some ⟨w.heap.size, 0, none⟩)) ∧ refWorld w ep = w' := by
  go_enter Try.func10, Try.ntmps10
  go_wp2_with fail
  go_ret
  exact ⟨rfl, rfl⟩
set_option maxRecDepth 100000 in
theorem rnew_bad (ep : Int) (w : World) (h : ep < 1 ∨ 1073741824 < ep) :
    Calls Try.prog 10 #[.int .i64 ep] w fun e w' => e = .returned (.pointer none) ∧ w = w' := by
  by_cases h1 : ep < 1
  · go_enter Try.func10, Try.ntmps10
    go_wp2_with fail
    go_ret
    exact ⟨rfl, rfl⟩
  · have h2 : 1073741824 < ep := by omega
    clear h
    go_enter Try.func10, Try.ntmps10
    go_wp2_with fail
    go_ret
    exact ⟨rfl, rfl⟩
end Go.Proofs.Ytgabonacpoimfaa
