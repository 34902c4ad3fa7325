/-
  Nets and rows side by side in memory: what a call on one of them leaves of the others.
-/
import Derived.Test.YtkdopflnaeejeaaMiClear
namespace Go.Proofs.Ytkdopflnaeejeaa
open Go.RowKit
set_option linter.unusedVariables false
set_option linter.unusedSimpArgs false

/-- Something that lies in memory, in some blocks of its own. -/
abbrev Rsc := World → (Nat → Prop) → Prop
/-- It stays as long as its own blocks do; these are there. -/
structure Rsc.Good (R : Rsc) : Prop where
  keep : ∀ {S : Nat → Prop} {w w' : World} {Z : Nat → Prop}, R w Z → Kept S w w' → (∀ k, Z k → ¬ S k) → R w' Z
  lt : ∀ {w : World} {Z : Nat → Prop}, R w Z → ∀ k, Z k → k < w.heap.size
def NetR (t : TypeId) (p : Nat) (l : List Gr) : Rsc := fun w Z => ∃ r, NetAt t w p r l ∧ Z = zone p r
def RowR (v : Value) (q : List Gr) : Rsc := fun w Z => RowG 0 w v q ∧ Z = fun k => v.ownBlock = some k
def Star (A B : Rsc) : Rsc := fun w Z => ∃ Z1 Z2, A w Z1 ∧ B w Z2 ∧ Apart Z1 Z2 ∧ Z = fun k => Z1 k ∨ Z2 k
theorem NetR.good (t : TypeId) (p : Nat) (l : List Gr) : (NetR t p l).Good :=
  ⟨fun ⟨r, hN, e⟩ k hs => ⟨r, hN.held k (fun j h => hs j (by rw [e]; exact h)), e⟩, fun ⟨r, hN, e⟩ k hk => hN.lt k (by rw [e] at hk; exact hk)⟩
theorem RowR.good (v : Value) (q : List Gr) : (RowR v q).Good :=
  ⟨fun ⟨h, e⟩ k hs => ⟨h.held k (fun g hg => hs g (by rw [e]; exact hg)), e⟩, fun ⟨h, e⟩ k hk => (h.lt (by rw [e] at hk; exact hk)).2⟩
theorem Star.good {A B : Rsc} (a : A.Good) (b : B.Good) : (Star A B).Good :=
  ⟨fun ⟨Z1, Z2, h1, h2, hd, e⟩ k hs => ⟨Z1, Z2, a.keep h1 k (fun j h => hs j (by rw [e]; exact .inl h)), b.keep h2 k (fun j h => hs j (by rw [e]; exact .inr h)), hd, e⟩,
   fun ⟨Z1, Z2, h1, h2, hd, e⟩ k hk => by rw [e] at hk; exact hk.elim (a.lt h1 k) (b.lt h2 k)⟩
/-- It is there, and has none of the blocks F, which are there too. -/
def Held (F : Nat → Prop) (R : Rsc) (w : World) : Prop := ∃ Z, R w Z ∧ ∀ k, F k → k < w.heap.size ∧ ¬ Z k
/-- What F has is kept. -/
abbrev KeptF (F : Nat → Prop) : World → World → Prop := Kept (fun k => ¬ F k)
theorem Held.keep {F S : Nat → Prop} {R : Rsc} {w w' : World} (g : R.Good) (h : Held F R w) (k : Kept S w w') (hs : ∀ j, S j → F j) : Held F R w' := by
  obtain ⟨Z, hR, hF⟩ := h
  exact ⟨Z, g.keep hR k (fun j hz hj => (hF j (hs j hj)).2 hz), fun j hj => ⟨Nat.lt_of_lt_of_le (hF j hj).1 k.size, (hF j hj).2⟩⟩
theorem Held.below {F : Nat → Prop} {R : Rsc} {w w' : World} (g : R.Good) (h : Held F R w) (b : Below w.heap.size w w') : Held F R w' := h.keep g (S := fun _ => False) (Kept.of b) (fun _ e => e.elim)
theorem Held.but {F : Nat → Prop} {R : Rsc} {w w' : World} {b : Nat} (g : R.Good) (h : Held F R w) (k : But b w w') (hb : F b) : Held F R w' := h.keep g (S := fun j => j = b) (Kept.but k rfl) (fun _ e => e ▸ hb)
theorem Held.less {F G : Nat → Prop} {R : Rsc} {w : World} (h : Held F R w) (hs : ∀ j, G j → F j) : Held G R w := by
  obtain ⟨Z, hR, hF⟩ := h
  exact ⟨Z, hR, fun j hj => hF j (hs j hj)⟩
/-- New blocks are none of it. -/
theorem Held.more {F G : Nat → Prop} {R : Rsc} {w w' : World} (g : R.Good) (h : Held F R w) (b : Below w.heap.size w w') (hs : ∀ j, G j → F j ∨ (w.heap.size ≤ j ∧ j < w'.heap.size)) : Held G R w' := by
  obtain ⟨Z, hR, hF⟩ := h
  have hlt := g.lt hR
  refine ⟨Z, g.keep (S := fun _ => False) hR (Kept.of b) (fun _ _ e => e), fun j hj => ?_⟩
  rcases hs j hj with h1 | ⟨h1, h2⟩
  · exact ⟨Nat.lt_of_lt_of_le (hF j h1).1 b.size, (hF j h1).2⟩
  · exact ⟨h2, fun hz => by have := hlt j hz; omega⟩
theorem Held.lt {F : Nat → Prop} {R : Rsc} {w : World} (h : Held F R w) {k : Nat} (hk : F k) : k < w.heap.size := by
  obtain ⟨Z, _, hF⟩ := h
  exact (hF k hk).1
theorem Star.comm {A B : Rsc} {w : World} {Z : Nat → Prop} (h : Star A B w Z) : Star B A w Z := by
  obtain ⟨Z1, Z2, h1, h2, hd, rfl⟩ := h
  exact ⟨Z2, Z1, h2, h1, fun k a b => hd k b a, funext fun k => propext ⟨fun h => h.symm, fun h => h.symm⟩⟩
theorem Star.rot {A B C : Rsc} {w : World} {Z : Nat → Prop} (h : Star A (Star B C) w Z) : Star B (Star C A) w Z := by
  obtain ⟨Z1, Z', h1, ⟨Z2, Z3, h2, h3, hd, rfl⟩, hd', rfl⟩ := h
  refine ⟨Z2, _, h2, ⟨Z3, Z1, h3, h1, fun k a b => hd' k b (.inr a), rfl⟩, fun k a b => b.elim (hd k a) (fun c => hd' k c (.inl a)), funext fun k => propext ⟨?_, ?_⟩⟩
  · rintro (h | h | h)
    · exact .inr (.inr h)
    · exact .inl h
    · exact .inr (.inl h)
  · rintro (h | h | h)
    · exact .inr (.inl h)
    · exact .inr (.inr h)
    · exact .inl h
theorem Held.comm {F : Nat → Prop} {A B : Rsc} {w : World} (h : Held F (Star A B) w) : Held F (Star B A) w := by
  obtain ⟨Z, hR, hF⟩ := h
  exact ⟨Z, hR.comm, hF⟩
theorem Held.rot {F : Nat → Prop} {A B C : Rsc} {w : World} (h : Held F (Star A (Star B C)) w) : Held F (Star B (Star C A)) w := by
  obtain ⟨Z, hR, hF⟩ := h
  exact ⟨Z, hR.rot, hF⟩
/-- One of two things turns: its own blocks alone are written, and it takes new ones. -/
theorem Held.step {F : Nat → Prop} {A A' B : Rsc} {w w' : World} (hB : B.Good) (h : Held F (Star A B) w)
    (hA : ∀ Z, A w Z → ∃ Z', A' w' Z' ∧ Kept Z w w' ∧ ∀ k, Z' k → Z k ∨ w.heap.size ≤ k) : Held F (Star A' B) w' ∧ KeptF F w w' := by
  obtain ⟨Z, ⟨Z1, Z2, h1, h2, hd, rfl⟩, hF⟩ := h
  obtain ⟨Z', h1', hk, hf⟩ := hA Z1 h1
  have hl2 := hB.lt h2
  refine ⟨⟨_, ⟨Z', Z2, h1', hB.keep h2 hk (fun k a b => hd k b a), fun k a b => ?_, rfl⟩, fun k hk' => ⟨Nat.lt_of_lt_of_le (hF k hk').1 hk.size, ?_⟩⟩, hk.mono (fun k a b => (hF k b).2 (.inl a))⟩
  · rcases hf k a with h | h
    · exact hd k h b
    · have := hl2 k b; omega
  · rintro (a | a)
    · rcases hf k a with h | h
      · exact (hF k hk').2 (.inl h)
      · have := (hF k hk').1; omega
    · exact (hF k hk').2 (.inr a)
theorem Held.net {F : Nat → Prop} {t : TypeId} {p : Nat} {q : List Gr} {B : Rsc} {w : World} (h : Held F (Star (NetR t p q) B) w) : ∃ r, NetAt t w p r q := by
  obtain ⟨Z, ⟨Z1, Z2, ⟨r, hN, _⟩, _, _, _⟩, _⟩ := h
  exact ⟨r, hN⟩
/-- The same in terms of a call's contract on a net. -/
theorem Held.out {F : Nat → Prop} {t : TypeId} {p : Nat} {q q' : List Gr} {B : Rsc} {w w' : World} (hB : B.Good) (h : Held F (Star (NetR t p q) B) w) (ho : ∀ r, NetAt t w p r q → NetOut t p r q' w w') : Held F (Star (NetR t p q') B) w' ∧ KeptF F w w' :=
  h.step hB (fun Z ⟨r, hN, e⟩ => by
    obtain ⟨r', hN', hk, hf⟩ := ho r hN
    subst e
    refine ⟨zone p r', ⟨r', hN', rfl⟩, hk, fun k hk => ?_⟩
    rcases hk with rfl | e
    · exact .inl (.inl rfl)
    · rcases hf k e with h | h
      · exact .inl (.inr h)
      · exact .inr h)
/-- A contract on a net, for a net beside something else. -/
theorem Calls.held {P : Program} {f : FuncId} {args : Array Value} {F : Nat → Prop} {t : TypeId} {p : Nat} {q q' : List Gr} {v : Value} {B : Rsc} {w : World} (hB : B.Good) (h : Held F (Star (NetR t p q) B) w)
    (hc : ∀ r, NetAt t w p r q → Calls P f args w fun e w' => e = .returned v ∧ NetOut t p r q' w w') : Calls P f args w fun e w' => e = .returned v ∧ Held F (Star (NetR t p q') B) w' ∧ KeptF F w w' := by
  obtain ⟨Z, ⟨Z1, Z2, ⟨r, hN, e1⟩, h2, hd, e2⟩, hF⟩ := h
  refine (hc r hN).mono ?_
  rintro e w' ⟨rfl, ho⟩
  refine ⟨rfl, ?_⟩
  exact Held.step (A := fun w Z => NetAt t w p r q ∧ Z = zone p r) hB ⟨Z, ⟨Z1, Z2, ⟨hN, e1⟩, h2, hd, e2⟩, hF⟩ (fun Z ⟨_, e⟩ => by
    obtain ⟨r', hN', hk, hf⟩ := ho
    subst e
    refine ⟨zone p r', ⟨r', hN', rfl⟩, hk, fun k hk => ?_⟩
    rcases hk with rfl | e
    · exact .inl (.inl rfl)
    · rcases hf k e with h | h
      · exact .inl (.inr h)
      · exact .inr h)
/-- Nothing at all. -/
def Emp : Rsc := fun _ Z => Z = fun _ => False
theorem Emp.good : Emp.Good := ⟨fun h _ _ => h, fun h k hk => by rw [h] at hk; exact hk.elim⟩
/-- A thing that was just made. -/
theorem Held.made {F : Nat → Prop} {A B : Rsc} {w w' : World} (hB : B.Good) (h : Held F B w) (b : Below w.heap.size w w') {Z : Nat → Prop} (hA : A w' Z) (hZ : ∀ k, Z k → w.heap.size ≤ k) : Held F (Star A B) w' := by
  obtain ⟨Z2, h2, hF⟩ := h
  have hl := hB.lt h2
  refine ⟨_, ⟨Z, Z2, hA, hB.keep (S := fun _ => False) h2 (Kept.of b) (fun _ _ e => e), fun k a c => ?_, rfl⟩, fun k hk => ⟨Nat.lt_of_lt_of_le (hF k hk).1 b.size, ?_⟩⟩
  · have := hZ k a; have := hl k c; omega
  · rintro (a | a)
    · have := hZ k a; have := (hF k hk).1; omega
    · exact (hF k hk).2 a
theorem Held.emp {F : Nat → Prop} {w : World} (h : ∀ k, F k → k < w.heap.size) : Held F Emp w := ⟨_, rfl, fun k hk => ⟨h k hk, fun e => e⟩⟩
theorem Held.newNet {F : Nat → Prop} {B : Rsc} {w : World} (hB : B.Good) (h : Held F B w) (t : TypeId) : Held F (Star (NetR t w.heap.size []) B) (w.alloc (.cells #[.slice none 0 0] t)) :=
  h.made hB (bnew w _) (Z := zone w.heap.size none) ⟨none, NetAt.made t w, rfl⟩ (fun k hk => by rcases hk with rfl | e; exact Nat.le_refl _; cases e)
theorem Held.newRow {F : Nat → Prop} {B : Rsc} {w : World} (hB : B.Good) (h : Held F B w) : Held F (Star (RowR (.slice (some ⟨w.heap.size, 0, none⟩) 0 0) []) B) (w.alloc (.cells #[] 27)) :=
  h.made hB (bnew w _) (Z := fun k => (Value.slice (some ⟨w.heap.size, 0, none⟩) 0 0).ownBlock = some k) ⟨RowG.empty 0 w (Nat.zero_le _), rfl⟩ (fun k hk => by have := ownBlock_at hk; omega)
/-- A row that grew by an append. -/
theorem Held.rowMore {F : Nat → Prop} {B : Rsc} {w w' : World} {v v' : Value} {q : List Gr} {x : Gr} (hB : B.Good) (h : Held F (Star (RowR v q) B) w) {cs : Array Value} {te : TypeId}
    (hr : w'.ownsRow 0 27 6 v' (q.length + 1) (flatG q ++ x.row.toList)) (hg : (w.alloc (.cells cs te)).grownBy w' v.ownBlock) (hf : ∀ g, v'.ownBlock = some g → v.ownBlock = some g ∨ (w.alloc (.cells cs te)).heap.size ≤ g) :
    Held F (Star (RowR v' (q ++ [x])) B) w' ∧ KeptF F w w' :=
  h.step hB (fun Z ⟨_, e⟩ => by
    subst e
    refine ⟨_, ⟨RowG.snoc hr, rfl⟩, (Kept.of (bnew w _)).trans (Kept.grown hg (fun g e => e)), fun k hk => ?_⟩
    rcases hf k hk with h | h
    · exact .inl h
    · exact .inr (by simp at h; omega))
theorem Held.row {F : Nat → Prop} {B : Rsc} {w : World} {v : Value} {q : List Gr} (h : Held F (Star (RowR v q) B) w) : RowG 0 w v q := by
  obtain ⟨Z, ⟨Z1, Z2, ⟨hr, _⟩, _, _, _⟩, _⟩ := h
  exact hr
theorem KeptF.below {F : Nat → Prop} {w w' : World} (b : Below w.heap.size w w') : KeptF F w w' := Kept.of b
theorem Has.keptF {F : Nat → Prop} {w w' : World} {b : Nat} {o : Obj} (h : Has w b o) (k : KeptF F w w') (hF : F b) : Has w' b o := h.held k (fun e => e hF)
theorem KeptF.belowB {F : Nat → Prop} {B : Nat} {w w' : World} (h : KeptF F w w') (hF : ∀ k, k < B → F k) (hB : B ≤ w.heap.size) : Below B w w' := Kept.below h (fun k hk => Nat.le_of_not_lt (fun e => hk (hF k e))) hB
section
variable {F : Nat → Prop} {B : Rsc} (hB : B.Good)
include hB
theorem putH (p : Nat) (q : List Gr) (x : Gr) (w : World) (hq : q.length ≤ 1000000) (h : Held F (Star (NetR 53 p q) B) w) :
    Calls Try.prog 9 #[.pointer (some ⟨p, 0, none⟩), x.val] w fun e w' => e = .returned (.int .i64 (putG q x).2) ∧ Held F (Star (NetR 53 p (putG q x).1) B) w' ∧ KeptF F w w' :=
  Calls.held hB h (fun r hN => put_some p r q x w hN hq)
theorem eldestH (p : Nat) (q : List Gr) (w : World) (h : Held F (Star (NetR 53 p q) B) w) :
    Calls Try.prog 10 #[.pointer (some ⟨p, 0, none⟩)] w fun e w' => e = .returned (.tuple #[(pullG q 0).2.1.val, .bool (pullG q 0).2.2]) ∧ Held F (Star (NetR 53 p (pullG q 0).1) B) w' ∧ KeptF F w w' :=
  Calls.held hB h (fun r hN => eldest_some p r q w hN)
theorem pickH (p : Nat) (q : List Gr) (c0 : Int) (u0 : Bool) (k : Int) (w : World) (hk1 : -9223372036854775808 ≤ k) (hk2 : k ≤ 9223372036854775807) (h : Held F (Star (NetR 53 p q) B) w) :
    Calls Try.prog 11 #[.pointer (some ⟨p, 0, none⟩), .int .i64 c0, .bool u0, .int .i64 k] w fun e w' => e = .returned (.tuple #[(pickG q c0 u0 k).2.1.val, .bool (pickG q c0 u0 k).2.2]) ∧ Held F (Star (NetR 53 p (pickG q c0 u0 k).1) B) w' ∧ KeptF F w w' :=
  Calls.held hB h (fun r hN => pick_some p r q c0 u0 k w hN hk1 hk2)
theorem copyH (p : Nat) (q : List Gr) (c0 : Int) (u0 : Bool) (k : Int) (w : World) (hq : q.length ≤ 1000000) (hk1 : -9223372036854775808 ≤ k) (hk2 : k ≤ 9223372036854775807) (h : Held F (Star (NetR 53 p q) B) w) :
    Calls Try.prog 15 #[.pointer (some ⟨p, 0, none⟩), .int .i64 c0, .bool u0, .int .i64 k] w fun e w' => e = .returned (.bool (copyG q c0 u0 k).2) ∧ Held F (Star (NetR 53 p (copyG q c0 u0 k).1) B) w' ∧ KeptF F w w' :=
  Calls.held hB h (fun r hN => copy_some p r q c0 u0 k w hN hq hk1 hk2)
theorem clearH (p : Nat) (q : List Gr) (c : Int) (w : World) (h : Held F (Star (NetR 53 p q) B) w) :
    Calls Try.prog 14 #[.pointer (some ⟨p, 0, none⟩), .int .i64 c] w fun e w' => e = .returned (.int .i64 ((clearG q c).2 : Int)) ∧ Held F (Star (NetR 53 p (clearG q c).1) B) w' ∧ KeptF F w w' :=
  Calls.held hB h (fun r hN => clear_some p r q c w hN)
theorem countH (p : Nat) (q : List Gr) (c : Int) (u : Bool) (w : World) (h : Held F (Star (NetR 53 p q) B) w) :
    Calls Try.prog 13 #[.pointer (some ⟨p, 0, none⟩), .int .i64 c, .bool u] w fun e w' => e = .returned (.int .i64 (cnt c u q : Int)) ∧ Held F (Star (NetR 53 p q) B) w' ∧ Below w.heap.size w w' := by
  obtain ⟨r, hN⟩ := h.net
  refine (count_some _ p r c u q w hN).mono ?_
  rintro e w' ⟨rfl, b⟩
  exact ⟨rfl, h.below (Star.good (NetR.good _ _ _) hB) b, b⟩
end
theorem Held.turn {F : Nat → Prop} {R R' : Rsc} {w : World} (h : Held F R w) (hs : ∀ Z, R w Z → R' w Z) : Held F R' w := by
  obtain ⟨Z, hR, hF⟩ := h
  exact ⟨Z, hs Z hR, hF⟩
theorem Star.emp {A : Rsc} {w : World} {Z : Nat → Prop} (h : Star A Emp w Z) : A w Z := by
  obtain ⟨Z1, Z2, h1, h2, _, rfl⟩ := h
  have e : Z2 = fun _ => False := h2
  subst e
  have : (fun k => Z1 k ∨ False) = Z1 := funext fun k => propext ⟨fun h => h.elim id False.elim, .inl⟩
  rw [this]; exact h1
theorem Star.mono {A A' B B' : Rsc} {w : World} {Z : Nat → Prop} (h : Star A B w Z) (ha : ∀ Z, A w Z → A' w Z) (hb : ∀ Z, B w Z → B' w Z) : Star A' B' w Z := by
  obtain ⟨Z1, Z2, h1, h2, hd, e⟩ := h
  exact ⟨Z1, Z2, ha _ h1, hb _ h2, hd, e⟩
end Go.Proofs.Ytkdopflnaeejeaa
