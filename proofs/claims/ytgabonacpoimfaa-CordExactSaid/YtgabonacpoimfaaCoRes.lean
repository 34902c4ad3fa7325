/-
  Ends and rows side by side in memory: what a call on one of them leaves of the others.
-/
import Derived.Test.YtgabonacpoimfaaCoF
namespace Go.Proofs.Ytgabonacpoimfaa
open Go.RowKit
set_option linter.unusedVariables false
set_option linter.unusedSimpArgs false

/-- Two zones have nothing in common. -/
def Apart (A B : Nat → Prop) : Prop := ∀ k, A k → ¬ B k
/-- Something that lies in memory, in some blocks of its own. -/
abbrev Rsc := World → (Nat → Prop) → Prop
/-- It stays as long as its own blocks do; these are there. -/
structure Rsc.Good (R : Rsc) : Prop where
  keep : ∀ {S : Nat → Prop} {w w' : World} {Z : Nat → Prop}, R w Z → Kept S w w' → (∀ k, Z k → ¬ S k) → R w' Z
  lt : ∀ {w : World} {Z : Nat → Prop}, R w Z → ∀ k, Z k → k < w.heap.size
def Star (A B : Rsc) : Rsc := fun w Z => ∃ Z1 Z2, A w Z1 ∧ B w Z2 ∧ Apart Z1 Z2 ∧ Z = fun k => Z1 k ∨ Z2 k
theorem Star.good {A B : Rsc} (a : A.Good) (b : B.Good) : (Star A B).Good :=
  ⟨fun ⟨Z1, Z2, h1, h2, hd, e⟩ k hs => ⟨Z1, Z2, a.keep h1 k (fun j h => hs j (by rw [e]; exact .inl h)), b.keep h2 k (fun j h => hs j (by rw [e]; exact .inr h)), hd, e⟩,
   fun ⟨Z1, Z2, h1, h2, hd, e⟩ k hk => by rw [e] at hk; exact hk.elim (a.lt h1 k) (b.lt h2 k)⟩
/-- It is there, and has none of the blocks F, which are there too. -/
def Held (F : Nat → Prop) (R : Rsc) (w : World) : Prop := ∃ Z, R w Z ∧ ∀ k, F k → k < w.heap.size ∧ ¬ Z k
/-- What F has is kept. -/
abbrev KeptF (F : Nat → Prop) : World → World → Prop := Kept (fun k => ¬ F k)
theorem Held.keep {F S : Nat → Prop} {R : Rsc} {w w' : World} (g : R.Good) (h : Held F R w) (k : Kept S w w') (hs : ∀ j, S j → F j) : Held F R w' := by
  obtain ⟨Z, hR, hF⟩ := h
  exact ⟨Z, g.keep hR k (fun j hz hj => (hF j (hs j hj)).2 hz), fun j hj => ⟨Nat.lt_of_lt_of_le (hF j hj).1 k.size, (hF j hj).2⟩⟩
theorem Held.below {F : Nat → Prop} {R : Rsc} {w w' : World} (g : R.Good) (h : Held F R w) (b : Below w.heap.size w w') : Held F R w' := h.keep g (S := fun _ => False) (Kept.of b) (fun _ e => e.elim)
theorem Held.but {F : Nat → Prop} {R : Rsc} {w w' : World} {b : Nat} (g : R.Good) (h : Held F R w) (k : But b w w') (hb : F b) : Held F R w' := h.keep g (S := fun j => j = b) (Kept.but k rfl) (fun _ e => e ▸ hb)
theorem Held.less {F G : Nat → Prop} {R : Rsc} {w : World} (h : Held F R w) (hs : ∀ j, G j → F j) : Held G R w := by
  obtain ⟨Z, hR, hF⟩ := h
  exact ⟨Z, hR, fun j hj => hF j (hs j hj)⟩
/-- New blocks are none of it. -/
theorem Held.more {F G : Nat → Prop} {R : Rsc} {w w' : World} (g : R.Good) (h : Held F R w) (b : Below w.heap.size w w') (hs : ∀ j, G j → F j ∨ (w.heap.size ≤ j ∧ j < w'.heap.size)) : Held G R w' := by
  obtain ⟨Z, hR, hF⟩ := h
  have hlt := g.lt hR
  refine ⟨Z, g.keep (S := fun _ => False) hR (Kept.of b) (fun _ _ e => e), fun j hj => ?_⟩
  rcases hs j hj with h1 | ⟨h1, h2⟩
  · exact ⟨Nat.lt_of_lt_of_le (hF j h1).1 b.size, (hF j h1).2⟩
  · exact ⟨h2, fun hz => by have := hlt j hz; omega⟩
theorem Held.lt {F : Nat → Prop} {R : Rsc} {w : World} (h : Held F R w) {k : Nat} (hk : F k) : k < w.heap.size := by
  obtain ⟨Z, _, hF⟩ := h
  exact (hF k hk).1
theorem Star.comm {A B : Rsc} {w : World} {Z : Nat → Prop} (h : Star A B w Z) : Star B A w Z := by
  obtain ⟨Z1, Z2, h1, h2, hd, rfl⟩ := h
  exact ⟨Z2, Z1, h2, h1, fun k a b => hd k b a, funext fun k => propext ⟨fun h => h.symm, fun h => h.symm⟩⟩
theorem Star.rot {A B C : Rsc} {w : World} {Z : Nat → Prop} (h : Star A (Star B C) w Z) : Star B (Star C A) w Z := by
  obtain ⟨Z1, Z', h1, ⟨Z2, Z3, h2, h3, hd, rfl⟩, hd', rfl⟩ := h
  refine ⟨Z2, _, h2, ⟨Z3, Z1, h3, h1, fun k a b => hd' k b (.inr a), rfl⟩, fun k a b => b.elim (hd k a) (fun c => hd' k c (.inl a)), funext fun k => propext ⟨?_, ?_⟩⟩
  · rintro (h | h | h)
    · exact .inr (.inr h)
    · exact .inl h
    · exact .inr (.inl h)
  · rintro (h | h | h)
    · exact .inr (.inl h)
    · exact .inr (.inr h)
    · exact .inl h
theorem Held.comm {F : Nat → Prop} {A B : Rsc} {w : World} (h : Held F (Star A B) w) : Held F (Star B A) w := by
  obtain ⟨Z, hR, hF⟩ := h
  exact ⟨Z, hR.comm, hF⟩
theorem Held.rot {F : Nat → Prop} {A B C : Rsc} {w : World} (h : Held F (Star A (Star B C)) w) : Held F (Star B (Star C A)) w := by
  obtain ⟨Z, hR, hF⟩ := h
  exact ⟨Z, hR.rot, hF⟩
/-- One of two things turns: its own blocks alone are written, and it takes new ones. -/
theorem Held.step {F : Nat → Prop} {A A' B : Rsc} {w w' : World} (hB : B.Good) (h : Held F (Star A B) w)
    (hA : ∀ Z, A w Z → ∃ Z', A' w' Z' ∧ Kept Z w w' ∧ ∀ k, Z' k → Z k ∨ w.heap.size ≤ k) : Held F (Star A' B) w' ∧ KeptF F w w' := by
  obtain ⟨Z, ⟨Z1, Z2, h1, h2, hd, rfl⟩, hF⟩ := h
  obtain ⟨Z', h1', hk, hf⟩ := hA Z1 h1
  have hl2 := hB.lt h2
  refine ⟨⟨_, ⟨Z', Z2, h1', hB.keep h2 hk (fun k a b => hd k b a), fun k a b => ?_, rfl⟩, fun k hk' => ⟨Nat.lt_of_lt_of_le (hF k hk').1 hk.size, ?_⟩⟩, hk.mono (fun k a b => (hF k b).2 (.inl a))⟩
  · rcases hf k a with h | h
    · exact hd k h b
    · have := hl2 k b; omega
  · rintro (a | a)
    · rcases hf k a with h | h
      · exact (hF k hk').2 (.inl h)
      · have := (hF k hk').1; omega
    · exact (hF k hk').2 (.inr a)
/-- Nothing at all. -/
def Emp : Rsc := fun _ Z => Z = fun _ => False
theorem Emp.good : Emp.Good := ⟨fun h _ _ => h, fun h k hk => by rw [h] at hk; exact hk.elim⟩
/-- A thing that was just made. -/
theorem Held.made {F : Nat → Prop} {A B : Rsc} {w w' : World} (hB : B.Good) (h : Held F B w) (b : Below w.heap.size w w') {Z : Nat → Prop} (hA : A w' Z) (hZ : ∀ k, Z k → w.heap.size ≤ k) : Held F (Star A B) w' := by
  obtain ⟨Z2, h2, hF⟩ := h
  have hl := hB.lt h2
  refine ⟨_, ⟨Z, Z2, hA, hB.keep (S := fun _ => False) h2 (Kept.of b) (fun _ _ e => e), fun k a c => ?_, rfl⟩, fun k hk => ⟨Nat.lt_of_lt_of_le (hF k hk).1 b.size, ?_⟩⟩
  · have := hZ k a; have := hl k c; omega
  · rintro (a | a)
    · have := hZ k a; have := (hF k hk).1; omega
    · exact (hF k hk).2 a
theorem Held.emp {F : Nat → Prop} {w : World} (h : ∀ k, F k → k < w.heap.size) : Held F Emp w := ⟨_, rfl, fun k hk => ⟨h k hk, fun e => e⟩⟩
theorem KeptF.below {F : Nat → Prop} {w w' : World} (b : Below w.heap.size w w') : KeptF F w w' := Kept.of b
theorem Has.keptF {F : Nat → Prop} {w w' : World} {b : Nat} {o : Obj} (h : Has w b o) (k : KeptF F w w') (hF : F b) : Has w' b o := h.held k (fun e => e hF)
theorem KeptF.belowB {F : Nat → Prop} {B : Nat} {w w' : World} (h : KeptF F w w') (hF : ∀ k, k < B → F k) (hB : B ≤ w.heap.size) : Below B w w' := Kept.below h (fun k hk => Nat.le_of_not_lt (fun e => hk (hF k e))) hB
theorem Held.turn {F : Nat → Prop} {R R' : Rsc} {w : World} (h : Held F R w) (hs : ∀ Z, R w Z → R' w Z) : Held F R' w := by
  obtain ⟨Z, hR, hF⟩ := h
  exact ⟨Z, hs Z hR, hF⟩
theorem Star.emp {A : Rsc} {w : World} {Z : Nat → Prop} (h : Star A Emp w Z) : A w Z := by
  obtain ⟨Z1, Z2, h1, h2, _, rfl⟩ := h
  have e : Z2 = fun _ => False := h2
  subst e
  have : (fun k => Z1 k ∨ False) = Z1 := funext fun k => propext ⟨fun h => h.elim id False.elim, .inl⟩
  rw [this]; exact h1
theorem Star.mono {A A' B B' : Rsc} {w : World} {Z : Nat → Prop} (h : Star A B w Z) (ha : ∀ Z, A w Z → A' w Z) (hb : ∀ Z, B w Z → B' w Z) : Star A' B' w Z := by
  obtain ⟨Z1, Z2, h1, h2, hd, e⟩ := h
  exact ⟨Z1, Z2, ha _ h1, hb _ h2, hd, e⟩

def EndR (p : Nat) (e : En) : Rsc := fun w Z => ∃ r mb, EndAt w p r mb e ∧ Z = zoneE p r mb
theorem EndR.good (p : Nat) (e : En) : (EndR p e).Good :=
  ⟨fun ⟨r, mb, hN, e1⟩ k hs => ⟨r, mb, hN.held k (fun j h => hs j (by rw [e1]; exact h)), e1⟩, fun ⟨r, mb, hN, e1⟩ k hk => hN.lt k (by rw [e1] at hk; exact hk)⟩
theorem Held.end {F : Nat → Prop} {p : Nat} {e : En} {B : Rsc} {w : World} (h : Held F (Star (EndR p e) B) w) : ∃ r mb, EndAt w p r mb e := by
  obtain ⟨Z, ⟨Z1, Z2, ⟨r, mb, hN, _⟩, _, _, _⟩, _⟩ := h
  exact ⟨r, mb, hN⟩
theorem Held.newEnd {F : Nat → Prop} {B : Rsc} {w : World} (hB : B.Good) (h : Held F B w) (ep : Int) : Held F (Star (EndR (w.heap.size + 1) (En.new ep)) B) (cordWorld w ep) :=
  h.made hB (cordWorld_below w ep) (Z := zoneE (w.heap.size + 1) none w.heap.size) ⟨none, w.heap.size, cordWorld_at w ep, rfl⟩ (fun k hk => by
    rcases hk with rfl | rfl | e
    · omega
    · exact Nat.le_refl _
    · cases e)
/-- A call on an end beside other things. -/
theorem Held.endOut {F : Nat → Prop} {p : Nat} {e e' : En} {B : Rsc} {w w' : World} (hB : B.Good) {Z1 Z2 : Nat → Prop} {r : Option Nat} {mb : Nat} (hN : EndAt w p r mb e) (h2 : B w Z2) (hd : Apart (zoneE p r mb) Z2) (hF : ∀ k, F k → k < w.heap.size ∧ ¬ (zoneE p r mb k ∨ Z2 k)) (ho : EndOut p r mb e' w w') :
    Held F (Star (EndR p e') B) w' ∧ KeptF F w w' := by
  refine Held.step (A := fun w Z => EndAt w p r mb e ∧ Z = zoneE p r mb) hB ⟨_, ⟨_, Z2, ⟨hN, rfl⟩, h2, hd, rfl⟩, hF⟩ (fun Z ⟨_, e1⟩ => ?_)
  obtain ⟨r', hN', hk, hf⟩ := ho
  subst e1
  refine ⟨zoneE p r' mb, ⟨r', mb, hN', rfl⟩, hk, fun k hk => ?_⟩
  rcases hk with rfl | rfl | e
  · exact .inl (.inl rfl)
  · exact .inl (.inr (.inl rfl))
  · rcases hf k e with h | h
    · exact .inl (.inr (.inr h))
    · exact .inr h
/-- Open a held end: its place, and what a call that turns it alone leaves. -/
theorem Held.call {F : Nat → Prop} {p : Nat} {e : En} {B : Rsc} {w : World} (hB : B.Good) (h : Held F (Star (EndR p e) B) w) : ∃ r mb, EndAt w p r mb e ∧ ∀ e' w', EndOut p r mb e' w w' → Held F (Star (EndR p e') B) w' ∧ KeptF F w w' := by
  obtain ⟨Z, ⟨Z1, Z2, ⟨r, mb, hN, e1⟩, h2, hd, e2⟩, hF⟩ := h
  subst e1 e2
  exact ⟨r, mb, hN, fun e' w' ho => Held.endOut (Z1 := zoneE p r mb) hB hN h2 hd hF ho⟩
theorem Held.fresh {F : Nat → Prop} {p : Nat} {e : En} {B : Rsc} {w : World} (hB : B.Good) (h : Held F (Star (EndR p e) B) w) : ∃ r mb, EndAt w p r mb e ∧ ∀ e' w' (v : Value), EndKeep p r mb e' w w' → (∀ g, v.ownBlock = some g → w.heap.size ≤ g ∧ g < w'.heap.size) → Held (fun k => F k ∨ v.ownBlock = some k) (Star (EndR p e') B) w' ∧ KeptF F w w' := by
  obtain ⟨Z, ⟨Z1, Z2, ⟨r, mb, hN, e1⟩, h2, hd, e2⟩, hF⟩ := h
  subst e1 e2
  refine ⟨r, mb, hN, fun e' w' v ho hv => ?_⟩
  obtain ⟨r', hN', hk, hf⟩ := ho
  have hsub : ∀ k, zoneE p r' mb k → zoneE p r mb k := fun k hk => by
    rcases hk with h | h | h
    · exact .inl h
    · exact .inr (.inl h)
    · exact .inr (.inr (hf k h))
  have hl1 := hN.lt
  have hl2 := hB.lt h2
  refine ⟨⟨_, ⟨zoneE p r' mb, Z2, ⟨r', mb, hN', rfl⟩, hB.keep h2 hk (fun k a b => hd k b a), fun k a b => hd k (hsub k a) b, rfl⟩, fun k hk' => ?_⟩, hk.mono (fun k a b => (hF k b).2 (.inl a))⟩
  rcases hk' with hk' | hk'
  · exact ⟨Nat.lt_of_lt_of_le (hF k hk').1 hk.size, fun hz => (hF k hk').2 (hz.imp (hsub k) id)⟩
  · obtain ⟨h3, h4⟩ := hv k hk'
    refine ⟨h4, fun hz => ?_⟩
    rcases hz with hz | hz
    · have := hl1 k (hsub k hz); omega
    · have := hl2 k hz; omega
section
variable {F : Nat → Prop} {B : Rsc} (hB : B.Good)
include hB
theorem sendH (p : Nat) (e : En) (s : ByteArray) (w : World) (hg : e.gv ≤ 1000000) (hl : e.op.length ≤ 1000000) (h : Held F (Star (EndR p e) B) w) :
    Calls Try.prog 11 #[.pointer (some ⟨p, 0, none⟩), .string s] w fun v w' => v = .returned (.int .i64 (sendE e s).2) ∧ Held F (Star (EndR p (sendE e s).1) B) w' ∧ KeptF F w w' := by
  obtain ⟨r, mb, hN, hc⟩ := h.call hB
  refine (csend_any hN s hg hl).mono ?_
  rintro v w' ⟨rfl, ho⟩
  exact ⟨rfl, hc _ _ ho⟩
theorem outH (p : Nat) (e : En) (w : World) (hok : e.op.length ≤ e.gv) (hg : e.gv ≤ 1000000) (h : Held F (Star (EndR p e) B) w) :
    Calls Try.prog 15 #[.pointer (some ⟨p, 0, none⟩)] w fun v w' => ∃ A cap, v = .returned (.slice A (outG e).length cap) ∧ RowG 0 w' (.slice A (outG e).length cap) (outG e) ∧ (∀ g, (Value.slice A (outG e).length cap).ownBlock = some g → w.heap.size ≤ g) ∧ Held (fun k => F k ∨ (Value.slice A (outG e).length cap).ownBlock = some k) (Star (EndR p (outE e)) B) w' ∧ KeptF F w w' := by
  obtain ⟨r, mb, hN, hc⟩ := h.fresh hB
  refine (cout_any hN hok hg).mono ?_
  rintro v w' ⟨A, cap, rfl, h1, h2, ho⟩
  exact ⟨A, cap, rfl, h1, h2, hc _ _ _ ho (fun g e1 => ⟨h2 g e1, (World.ownsRow.lt h1 g e1).2⟩)⟩
theorem takeH (p : Nat) (e : En) (x : Gr) (w : World) (hok : e.ok) (hg : e.gv ≤ 1000000) (ht : e.tk ≤ 1000000) (h : Held F (Star (EndR p e) B) w) :
    Calls Try.prog 17 #[.pointer (some ⟨p, 0, none⟩), x.val] w fun v w' => ∃ A cap, v = .returned (.tuple #[.slice A (takeE e x).2.1.length cap, .int .i64 (takeE e x).2.2]) ∧ SRow w' (.slice A (takeE e x).2.1.length cap) (takeE e x).2.1 ∧ (∀ g, (Value.slice A (takeE e x).2.1.length cap).ownBlock = some g → w.heap.size ≤ g) ∧ Held (fun k => F k ∨ (Value.slice A (takeE e x).2.1.length cap).ownBlock = some k) (Star (EndR p (takeE e x).1) B) w' ∧ KeptF F w w' := by
  obtain ⟨r, mb, hN, hc⟩ := h.fresh hB
  have key : Calls Try.prog 17 #[.pointer (some ⟨p, 0, none⟩), x.val] w (TakePost p r mb (takeE e x) w) := by
    by_cases hb : rightE e x = 0
    · exact ctake_good hN hok x hg ht hb
    · exact ctake_bad hN x hg (by have := hok.tk; omega) hb
  refine key.mono ?_
  rintro v w' ⟨A, cap, rfl, h1, h2, ho⟩
  exact ⟨A, cap, rfl, h1, h2, hc _ _ _ ho (fun g e1 => ⟨h2 g e1, h1.lt e1⟩)⟩
end
section
variable {F : Nat → Prop} {B : Rsc}
theorem openH (p : Nat) (e : En) (w : World) (h : Held F (Star (EndR p e) B) w) :
    Calls Try.prog 20 #[.pointer (some ⟨p, 0, none⟩)] w fun v w' => v = .returned (.int .i64 (e.op.length : Int)) ∧ w = w' := by
  obtain ⟨r, mb, hN⟩ := h.end
  exact open_any hN
theorem gotH (p : Nat) (e : En) (w : World) (h : Held F (Star (EndR p e) B) w) :
    Calls Try.prog 21 #[.pointer (some ⟨p, 0, none⟩)] w fun v w' => v = .returned (.int .i64 (e.gt : Int)) ∧ w = w' := by
  obtain ⟨r, mb, hN⟩ := h.end
  exact got_any hN
theorem epochH (p : Nat) (e : En) (w : World) (h : Held F (Star (EndR p e) B) w) :
    Calls Try.prog 22 #[.pointer (some ⟨p, 0, none⟩)] w fun v w' => v = .returned (.int .i64 e.ep) ∧ w = w' := by
  obtain ⟨r, mb, hN⟩ := h.end
  exact epoch_any hN
theorem owesH (p : Nat) (e : En) (w : World) (h : Held F (Star (EndR p e) B) w) :
    Calls Try.prog 13 #[.pointer (some ⟨p, 0, none⟩)] w fun v w' => v = .returned (.bool (owesE e)) ∧ w = w' := by
  obtain ⟨r, mb, hN⟩ := h.end
  exact owes_any hN
end
end Go.Proofs.Ytgabonacpoimfaa
