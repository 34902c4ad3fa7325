/-
  A net in memory: the datagrams that it owns; what a world keeps but for some blocks.
-/
import Derived.Test.YtkdopflnaeejeaaMiPure
namespace Go.Proofs.Ytkdopflnaeejeaa
open Go.RowKit
set_option linter.unusedVariables false
set_option linter.unusedSimpArgs false

/-- All that lay before is as it was, but for some blocks. -/
structure Kept (S : Nat → Prop) (w w' : World) : Prop where
  os : w'.os = w.os
  tape : w'.tape = w.tape
  output : w'.output = w.output
  size : w.heap.size ≤ w'.heap.size
  block : ∀ k, k < w.heap.size → ¬ S k → w'.heap[k]? = w.heap[k]?
theorem Kept.refl (S : Nat → Prop) (w : World) : Kept S w w := ⟨rfl, rfl, rfl, Nat.le_refl _, fun _ _ _ => rfl⟩
theorem Kept.of {S : Nat → Prop} {w w' : World} (h : Below w.heap.size w w') : Kept S w w' := ⟨h.os, h.tape, h.output, h.size, fun k hk _ => h.block k hk⟩
theorem Kept.but {S : Nat → Prop} {b : Nat} {w w' : World} (h : But b w w') (hb : S b) : Kept S w w' := ⟨h.os, h.tape, h.output, h.size, fun k hk hs => h.block k hk (fun e => hs (e ▸ hb))⟩
theorem Kept.grown {S : Nat → Prop} {r : Option Nat} {w w' : World} (h : w.grownBy w' r) (hb : ∀ g, r = some g → S g) : Kept S w w' := ⟨h.os, h.tape, h.output, h.size, fun k hk hs => h.block k hk (fun e => hs (hb k e.symm))⟩
theorem Kept.trans {S : Nat → Prop} {w w1 w2 : World} (h : Kept S w w1) (g : Kept S w1 w2) : Kept S w w2 :=
  ⟨g.os.trans h.os, g.tape.trans h.tape, g.output.trans h.output, Nat.le_trans h.size g.size, fun k hk hs => (g.block k (Nat.lt_of_lt_of_le hk h.size) hs).trans (h.block k hk hs)⟩
/-- The second step may turn blocks that the first one has laid. -/
theorem Kept.join {S T : Nat → Prop} {w w1 w2 : World} (h : Kept S w w1) (g : Kept T w1 w2) (hT : ∀ k, T k → S k ∨ w.heap.size ≤ k) : Kept S w w2 :=
  ⟨g.os.trans h.os, g.tape.trans h.tape, g.output.trans h.output, Nat.le_trans h.size g.size, fun k hk hs => (g.block k (Nat.lt_of_lt_of_le hk h.size) (fun ht => (hT k ht).elim hs (fun h => by omega))).trans (h.block k hk hs)⟩
theorem Kept.mono {S T : Nat → Prop} {w w' : World} (h : Kept S w w') (hs : ∀ k, S k → T k) : Kept T w w' := ⟨h.os, h.tape, h.output, h.size, fun k hk ht => h.block k hk (fun e => ht (hs k e))⟩
theorem Kept.below {S : Nat → Prop} {B : Nat} {w w' : World} (h : Kept S w w') (hB : ∀ k, S k → B ≤ k) (hw : B ≤ w.heap.size) : Below B w w' :=
  ⟨h.os, h.tape, h.output, h.size, fun k hk => h.block k (by omega) (fun hs => by have := hB k hs; omega)⟩
theorem Has.held {S : Nat → Prop} {w w' : World} {b : Nat} {o : Obj} (h : Has w b o) (k : Kept S w w') (hs : ¬ S b) : Has w' b o := by
  have := h.lt
  unfold Has at *
  rw [k.block b this hs]; exact h
theorem Kept.cell {S : Nat → Prop} {w w' : World} (h : Kept S w w') {b o : Nat} {v : Value} (hc : w.cell? ⟨b, o, none⟩ = some v) (hs : ¬ S b) : w'.cell? ⟨b, o, none⟩ = some v :=
  (World.cell?_of_block (a := ⟨b, o, none⟩) (h.block b (block_lt_of_cell hc) hs)).trans hc
theorem GrIn.held {S : Nat → Prop} {w w' : World} {b o : Nat} {x : Gr} (h : GrIn w b o x) (k : Kept S w w') (hs : ¬ S b) : GrIn w' b o x :=
  ⟨k.cell h.a0 hs, k.cell h.a1 hs, k.cell h.a2 hs, k.cell h.a3 hs, k.cell h.a4 hs, k.cell h.a5 hs⟩
theorem RowG.held {S : Nat → Prop} {base : Nat} {w w' : World} {v : Value} {q : List Gr} (h : RowG base w v q) (k : Kept S w w') (hs : ∀ g, v.ownBlock = some g → ¬ S g) : RowG base w' v q := by
  obtain ⟨h1, h2⟩ := h
  refine ⟨h1, ?_⟩
  rcases h2 with h2 | ⟨g, cap, cur, rfl, hb, hg, h3⟩
  · exact .inl h2
  · exact .inr ⟨g, cap, cur, rfl, hb, (k.block g (Array.getElem?_eq_some_iff.1 hg).1 (hs g rfl)).trans hg, h3⟩
theorem RowG.lt {base : Nat} {w : World} {v : Value} {q : List Gr} (h : RowG base w v q) {g : Nat} (hg : v.ownBlock = some g) : base ≤ g ∧ g < w.heap.size := World.ownsRow.lt h g hg
theorem RowG.mono {base base' : Nat} {w : World} {v : Value} {q : List Gr} (h : RowG base w v q) (hb : base' ≤ base) : RowG base' w v q :=
  ⟨h.1, h.2.imp id fun ⟨g, cap, cur, h1, h2, h3⟩ => ⟨g, cap, cur, h1, Nat.le_trans hb h2, h3⟩⟩
/-- The same row, known to lie higher. -/
theorem RowG.base {base base' : Nat} {w : World} {v : Value} {q : List Gr} (h : RowG base w v q) (hb : ∀ g, v.ownBlock = some g → base' ≤ g) : RowG base' w v q :=
  ⟨h.1, h.2.imp id fun ⟨g, cap, cur, h1, h2, h3⟩ => ⟨g, cap, cur, h1, hb g (by rw [h1]; rfl), h3⟩⟩
/-- A net at p: a block with one slice, whose row (block r) it owns. -/
structure NetAt (t : TypeId) (w : World) (p : Nat) (r : Option Nat) (l : List Gr) : Prop where
  ex : ∃ v, Has w p (.cells #[v] t) ∧ RowG 0 w v l ∧ v.ownBlock = r
  ne : r ≠ some p
def zone (p : Nat) (r : Option Nat) (k : Nat) : Prop := k = p ∨ r = some k
theorem NetAt.held {t : TypeId} {w w' : World} {p : Nat} {r : Option Nat} {l : List Gr} (h : NetAt t w p r l) {S : Nat → Prop} (k : Kept S w w') (hs : ∀ j, zone p r j → ¬ S j) : NetAt t w' p r l := by
  obtain ⟨⟨v, hp, hr, hv⟩, hn⟩ := h
  exact ⟨⟨v, hp.held k (hs p (.inl rfl)), hr.held k (fun g e => hs g (.inr (hv.symm.trans e))), hv⟩, hn⟩
theorem NetAt.lt {t : TypeId} {w : World} {p : Nat} {r : Option Nat} {l : List Gr} (h : NetAt t w p r l) : ∀ j, zone p r j → j < w.heap.size := by
  obtain ⟨⟨v, hp, hr, hv⟩, hn⟩ := h
  rintro j (rfl | e)
  · exact hp.lt
  · exact (hr.lt (hv.trans e)).2
theorem NetAt.below {t : TypeId} {w w' : World} {p : Nat} {r : Option Nat} {l : List Gr} (h : NetAt t w p r l) (hb : Below w.heap.size w w') : NetAt t w' p r l := h.held (S := fun _ => False) (Kept.of hb) (fun _ _ e => e)
theorem NetAt.made (t : TypeId) (w : World) : NetAt t (w.alloc (.cells #[.slice none 0 0] t)) w.heap.size none [] :=
  ⟨⟨_, Has.new _ _, ⟨rfl, .inl ⟨rfl, rfl⟩⟩, rfl⟩, by simp⟩
/-- What a call on a net leaves. -/
def NetOut (t : TypeId) (p : Nat) (r : Option Nat) (l : List Gr) (w w' : World) : Prop :=
  ∃ r', NetAt t w' p r' l ∧ Kept (zone p r) w w' ∧ ∀ g, r' = some g → r = some g ∨ w.heap.size ≤ g
theorem NetOut.same {t : TypeId} {w w' : World} {p : Nat} {r : Option Nat} {l : List Gr} (h : NetAt t w p r l) (hb : Below w.heap.size w w') : NetOut t p r l w w' := ⟨r, h.below hb, Kept.of hb, fun g e => .inl e⟩
/-- Two zones have nothing in common. -/
def Apart (S T : Nat → Prop) : Prop := ∀ k, S k → ¬ T k
/-- The slice of a net: where it lies. -/
theorem NetAt.open {t : TypeId} {w : World} {p : Nat} {r : Option Nat} {l : List Gr} (h : NetAt t w p r l) : ∃ A cap, Has w p (.cells #[.slice A l.length cap] t) ∧ RowG 0 w (.slice A l.length cap) l ∧ (Value.slice A l.length cap).ownBlock = r ∧ l.length ≤ cap ∧ cap ≤ 9223372036854775807 ∧
    ∀ i x, l[i]? = some x → ∃ g, A = some ⟨g, 0, none⟩ ∧ r = some g ∧ GrIn w g (i * 6) x := by
  obtain ⟨⟨v, hp, hr, hv⟩, hn⟩ := h
  obtain ⟨A, cap, rfl, h1, h2⟩ := hr.form
  refine ⟨A, cap, hp, hr, hv, h1, h2, fun i x hx => ?_⟩
  have hi := (List.getElem?_eq_some_iff.1 hx).1
  obtain ⟨g, cap', cur, e, _, _, _, _, _, _⟩ := ownsRow_at hr (by omega)
  cases e
  exact ⟨g, rfl, hv.symm, hr.at rfl hx⟩
end Go.Proofs.Ytkdopflnaeejeaa
