/-
  An end of a session in memory: its block, the texts that aren't acknowledged, the map of what came ahead.
-/
import Derived.Test.YtgabonacpoimfaaCoPure
import Derived.Test.YtgabonacpoimfaaCoRow
import Derived.Maps.OwnSet
import Derived.Maps.StringElems
import Derived.WalkKit
namespace Go.Proofs.Ytgabonacpoimfaa
open Go.RowKit Go.Maps
set_option linter.unusedVariables false
set_option linter.unusedSimpArgs false

theorem keyInt : Keyed Try.prog 3 := int_keyed Try.underlying3
theorem zeroStr (w : World) : (zeroValue 9).run Try.prog w = .ok (.string ⟨#[]⟩) w := by kernel_rfl
theorem key_of {k : Nat} (h : k ≤ 9223372036854775807) : keyOf Try.prog 3 (.int .i64 (k : Int)) = some (.int .i64 (k : Int)) := keyOf_int_mk Try.underlying3 (WalkArith.wf_i64 (by omega))
/-- A map's datum, and the list of what lies in it. -/
def Rep (D : DataW Unit) (l : List (Nat × ByteArray)) : Prop :=
  ∀ k : Nat, Maps.has D (.int .i64 (k : Int)) = (look l k).isSome ∧ ∀ s, look l k = some s → ∀ z, D.atKey (.int .i64 (k : Int)) z = .lit (.string s.data.toList)
def MapAt (w : World) (mb n : Nat) (l : List (Nat × ByteArray)) : Prop := ∃ D : DataW Unit, w.ownsMap Try.prog 3 (plainElem Try.prog 9) mb n D ∧ Rep D l
theorem MapAt.made (w : World) : MapAt (w.alloc (.map #[] 0)) w.heap.size 0 [] := ⟨.map [], World.ownsMap_made _ _ _ _, fun k => ⟨rfl, fun s h => by simp [look] at h⟩⟩
theorem MapAt.lt {w : World} {mb n : Nat} {l : List (Nat × ByteArray)} (h : MapAt w mb n l) : mb < w.heap.size := by obtain ⟨D, h, _⟩ := h; exact h.lt
theorem MapAt.mono {w : World} {mb n m : Nat} {l : List (Nat × ByteArray)} (h : MapAt w mb n l) (hm : n ≤ m) : MapAt w mb m l := by obtain ⟨D, h, r⟩ := h; exact ⟨D, h.mono hm, r⟩
theorem MapAt.held {S : Nat → Prop} {w w' : World} {mb n : Nat} {l : List (Nat × ByteArray)} (h : MapAt w mb n l) (k : Kept S w w') (hs : ¬ S mb) : MapAt w' mb n l := by
  have hlt := h.lt
  obtain ⟨D, ⟨es, clock, hb, r⟩, rp⟩ := h
  exact ⟨D, ⟨es, clock, (k.block mb hlt hs).trans hb, r⟩, rp⟩
theorem bytes_ext {a b : ByteArray} (h : a.data.toList = b.data.toList) : a = b := by
  apply ByteArray.ext; apply Array.ext'; exact h
theorem MapAt.look {w : World} {mb n : Nat} {l : List (Nat × ByteArray)} (h : MapAt w mb n l) {k : Nat} (hk : k ≤ 9223372036854775807) :
    (Instr.lookup 64 (.map (some mb)) (.int .i64 (k : Int)) true).run Try.prog w = .ok (.tuple #[.string ((Go.Proofs.Ytgabonacpoimfaa.look l k).getD ⟨#[]⟩), .bool (Go.Proofs.Ytgabonacpoimfaa.look l k).isSome]) w := by
  obtain ⟨D, h, rp⟩ := h
  obtain ⟨v, ps, hr, hv⟩ := h.look_ok (t := 64) keyInt Try.underlying64 (zeroStr w) (plainElem_string Try.underlying9 (s := ⟨#[]⟩) (by decide)) (key_of hk)
  obtain ⟨s, rfl, hz, _⟩ := plainElem_string_inv Try.underlying9 hv
  have hz1 := congrArg Prod.fst hz
  simp only at hz1
  rw [(rp k).1] at hr
  cases hl : Go.Proofs.Ytgabonacpoimfaa.look l k with
  | none =>
    rw [hl] at hr
    have h0 : Maps.has D (.int .i64 (k : Int)) = false := by rw [(rp k).1, hl]; rfl
    rw [Maps.atKey_of_not_has h0] at hz1
    have : s = ⟨#[]⟩ := by
      injection hz1 with e1
      injection e1 with e2
      exact bytes_ext e2.symm
    subst this
    exact hr
  | some s' =>
    rw [hl] at hr
    rw [(rp k).2 s' hl] at hz1
    have : s = s' := by
      injection hz1 with e1
      injection e1 with e2
      exact bytes_ext e2.symm
    subst this
    exact hr
theorem turned_but {w w' : World} {b : Nat} (h : w.mapTurned w' b) : But b w w' := by
  have g := h.grown
  exact ⟨g.os, g.tape, g.output, g.size, fun k hk hb => g.block k hk (fun e => hb (by cases e; rfl))⟩
theorem MapAt.put {w : World} {mb n : Nat} {l : List (Nat × ByteArray)} (h : MapAt w mb n l) {k : Nat} {s : ByteArray} (hk : k ≤ 9223372036854775807) (hs : s.size ≤ maxLen) (hn : n < maxLen) (hl : Go.Proofs.Ytgabonacpoimfaa.look l k = none) :
    ∃ w', (Instr.mapUpdate 64 (.map (some mb)) (.int .i64 (k : Int)) (.string s)).run Try.prog w = .ok () w' ∧ MapAt w' mb (n + 1) (l ++ [(k, s)]) ∧ But mb w w' := by
  obtain ⟨D, h, rp⟩ := h
  obtain ⟨w', hr, ho, ht⟩ := h.store (t := 64) keyInt Try.underlying64 hn (key_of hk) (plainElem_string Try.underlying9 hs)
  refine ⟨w', hr, ⟨_, ho, fun j => ?_⟩, turned_but ht⟩
  rw [look_snoc]
  by_cases e : k = j
  · subst e
    rw [hl]
    simp only [Option.isSome_none, Bool.false_eq_true, if_false, if_true]
    exact ⟨Maps.has_put_same h.isMap (show WideAt.IsKeyLit (.int .i64 (k : Int)) from trivial) _, fun s' hs' z => by
      cases hs'
      exact Maps.atKey_put_same h.isMap (show WideAt.IsKeyLit (.int .i64 (k : Int)) from trivial) _ z⟩
  · have hne : (Lit.int .i64 (j : Int)) ≠ .int .i64 (k : Int) := fun h => e (by injection h with _ h; omega)
    rw [if_neg e]
    rw [show (if (Go.Proofs.Ytgabonacpoimfaa.look l j).isSome = true then Go.Proofs.Ytgabonacpoimfaa.look l j else none) = Go.Proofs.Ytgabonacpoimfaa.look l j by cases Go.Proofs.Ytgabonacpoimfaa.look l j <;> rfl]
    exact ⟨(Maps.has_put_other hne _).trans (rp j).1, fun s' hs' z => (Maps.atKey_put_other hne _ z).trans ((rp j).2 s' hs' z)⟩
theorem MapAt.del {w : World} {mb n : Nat} {l : List (Nat × ByteArray)} (h : MapAt w mb n l) {k : Nat} (hk : k ≤ 9223372036854775807) (hl : ∀ x ∈ l, k ≤ x.1) (ty : TypeId) :
    ∃ w', (Builtin.delete_ #[64, 3] ty #[.map (some mb), .int .i64 (k : Int)]).run Try.prog w = .ok (.tuple #[]) w' ∧ MapAt w' mb n (l.filter (fun x => decide (k < x.1))) ∧ But mb w w' := by
  obtain ⟨D, h, rp⟩ := h
  obtain ⟨w', hr, ho, ht⟩ := h.drop (t := 64) keyInt Try.underlying64 (key_of hk) ty
  refine ⟨w', hr, ⟨_, ho, fun j => ?_⟩, turned_but ht⟩
  by_cases e : k = j
  · subst e
    have h0 : Go.Proofs.Ytgabonacpoimfaa.look (l.filter (fun x => decide (k < x.1))) k = none := look_none.2 (fun x hx => by have := (List.mem_filter.1 hx).2; simp at this; omega)
    rw [h0]
    exact ⟨Maps.has_del_same, fun s hs => by cases hs⟩
  · have hne : (Lit.int .i64 (j : Int)) ≠ .int .i64 (k : Int) := fun h => e (by injection h with _ h; omega)
    have h0 : Go.Proofs.Ytgabonacpoimfaa.look (l.filter (fun x => decide (k < x.1))) j = Go.Proofs.Ytgabonacpoimfaa.look l j := by
      by_cases hj : k < j
      · exact look_filter l k j hj
      · rw [look_none.2 (fun x hx => by have := hl x (List.mem_filter.1 hx).1; omega), look_none.2 (fun x hx => by have := hl x hx; omega)]
    rw [h0]
    exact ⟨(Maps.has_del_other hne).trans (rp j).1, fun s' hs' z => (Maps.atKey_del_other hne z).trans ((rp j).2 s' hs' z)⟩

/-- An end at p: its block, the texts' row (block r), the map (block mb). -/
structure EndAt (w : World) (p : Nat) (r : Option Nat) (mb : Nat) (e : En) : Prop where
  ex : ∃ v, Has w p (.cells #[.int .i64 e.ep, v, .int .i64 (e.gv : Int), .int .i64 (e.gt : Int), .map (some mb), .bool e.ow] 66) ∧ SRow w v e.op ∧ v.ownBlock = r
  map : MapAt w mb e.tk e.ea
  ne : p ≠ mb ∧ r ≠ some p ∧ r ≠ some mb
def zoneE (p : Nat) (r : Option Nat) (mb : Nat) (k : Nat) : Prop := k = p ∨ k = mb ∨ r = some k
section
variable {w w' : World} {p : Nat} {r : Option Nat} {mb : Nat} {e : En}
theorem EndAt.held (h : EndAt w p r mb e) {S : Nat → Prop} (k : Kept S w w') (hs : ∀ j, zoneE p r mb j → ¬ S j) : EndAt w' p r mb e := by
  obtain ⟨⟨v, hp, hr, hv⟩, hm, hn⟩ := h
  exact ⟨⟨v, hp.held k (hs p (.inl rfl)), hr.held k (fun g e => hs g (.inr (.inr (hv.symm.trans e)))), hv⟩, hm.held k (hs mb (.inr (.inl rfl))), hn⟩
theorem EndAt.lt (h : EndAt w p r mb e) : ∀ j, zoneE p r mb j → j < w.heap.size := by
  obtain ⟨⟨v, hp, hr, hv⟩, hm, hn⟩ := h
  rintro j (rfl | rfl | e)
  · exact hp.lt
  · exact hm.lt
  · exact hr.lt (hv.trans e)
theorem EndAt.below (h : EndAt w p r mb e) (hb : Below w.heap.size w w') : EndAt w' p r mb e := h.held (S := fun _ => False) (Kept.of hb) (fun _ _ e => e)
theorem EndAt.open (h : EndAt w p r mb e) : ∃ A cap, Has w p (.cells #[.int .i64 e.ep, .slice A e.op.length cap, .int .i64 (e.gv : Int), .int .i64 (e.gt : Int), .map (some mb), .bool e.ow] 66) ∧ SRow w (.slice A e.op.length cap) e.op ∧ (Value.slice A e.op.length cap).ownBlock = r ∧ e.op.length ≤ cap ∧ cap ≤ 9223372036854775807 := by
  obtain ⟨⟨v, hp, hr, hv⟩, hm, hn⟩ := h
  obtain ⟨A, cap, rfl, h1, h2⟩ := hr.form
  exact ⟨A, cap, hp, hr, hv, h1, h2⟩
/-- What a call on an end leaves. -/
def EndOut (p : Nat) (r : Option Nat) (mb : Nat) (e : En) (w w' : World) : Prop :=
  ∃ r', EndAt w' p r' mb e ∧ Kept (zoneE p r mb) w w' ∧ ∀ g, r' = some g → r = some g ∨ w.heap.size ≤ g
theorem EndOut.same (h : EndAt w p r mb e) (hb : Below w.heap.size w w') : EndOut p r mb e w w' := ⟨r, h.below hb, Kept.of hb, fun g e => .inl e⟩
theorem EndOut.lift {w0 : World} (h : EndOut p r mb e w w') (hb : Below w0.heap.size w0 w) : EndOut p r mb e w0 w' := by
  obtain ⟨r', h1, h2, h3⟩ := h
  exact ⟨r', h1, (Kept.of hb).trans h2, fun g e => (h3 g e).imp id (fun h => by have := hb.size; omega)⟩
/-- .. where no new block is taken for the texts. -/
def EndKeep (p : Nat) (r : Option Nat) (mb : Nat) (e : En) (w w' : World) : Prop :=
  ∃ r', EndAt w' p r' mb e ∧ Kept (zoneE p r mb) w w' ∧ ∀ g, r' = some g → r = some g
theorem EndKeep.same (h : EndAt w p r mb e) (hb : Below w.heap.size w w') : EndKeep p r mb e w w' := ⟨r, h.below hb, Kept.of hb, fun g e => e⟩
/-- A field is written. -/
theorem EndAt.put (h : EndAt w p r mb e) {e' : En} (i : Nat) (v : Value)
    (hc : ∀ A cap, (#[Value.int .i64 e.ep, .slice A e.op.length cap, .int .i64 (e.gv : Int), .int .i64 (e.gt : Int), .map (some mb), .bool e.ow] : Array Value).setIfInBounds i v = #[.int .i64 e'.ep, .slice A e'.op.length cap, .int .i64 (e'.gv : Int), .int .i64 (e'.gt : Int), .map (some mb), .bool e'.ow])
    (ho : e'.op = e.op) (ha : e'.ea = e.ea) (ht : e.tk ≤ e'.tk) : EndAt (w.setCell ⟨p, i, none⟩ v) p r mb e' := by
  obtain ⟨A, cap, hp, hr, hv, _, _⟩ := h.open
  have k : Kept (fun j => j = p) w (w.setCell ⟨p, i, none⟩ v) := Kept.but (But.set p i w v) rfl
  refine ⟨⟨.slice A e.op.length cap, ?_, ?_, hv⟩, ?_, h.ne⟩
  · have := hp.set i v
    rw [hc A cap, ho] at this
    exact this
  · rw [ho]; exact hr.held k (fun g e1 e2 => h.ne.2.1 (by rw [← hv, e1, e2]))
  · rw [ha]; exact (h.map.held k (fun e1 => h.ne.1 e1.symm)).mono ht
/-- The row of texts is another one. -/
theorem EndAt.row (h : EndAt w p r mb e) {v : Value} {q : List ByteArray} {gv : Nat} {r' : Option Nat} (hr : SRow w v q) (hv : v.ownBlock = r') (h1 : r' ≠ some p) (h2 : r' ≠ some mb) :
    EndAt (w.setCell ⟨p, 1, none⟩ v) p r' mb { e with op := q } := by
  obtain ⟨A, cap, hp, _, _, _, _⟩ := h.open
  have k : Kept (fun j => j = p) w (w.setCell ⟨p, 1, none⟩ v) := Kept.but (But.set p 1 w v) rfl
  exact ⟨⟨v, hp.set 1 v, hr.held k (fun g e1 e2 => h1 (by rw [← hv, e1, e2])), hv⟩, h.map.held k (fun e1 => h.ne.1 e1.symm), ⟨h.ne.1, h1, h2⟩⟩
/-- The row has turned, then the block. -/
theorem EndAt.turn (h : EndAt w p r mb e) {w6 w7 : World} (k6 : Kept (fun k => r = some k) w w6) {v6 : Value} {q6 : List ByteArray} (hr : SRow w6 v6 q6) (hf : ∀ g, v6.ownBlock = some g → r = some g ∨ w.heap.size ≤ g)
    (b7 : But p w6 w7) {e' : En} (hp : Has w7 p (.cells #[.int .i64 e'.ep, v6, .int .i64 (e'.gv : Int), .int .i64 (e'.gt : Int), .map (some mb), .bool e'.ow] 66)) (hop : e'.op = q6) (hea : e'.ea = e.ea) (htk : e.tk ≤ e'.tk) : EndOut p r mb e' w w7 := by
  have hlt := h.lt
  have hpl : p < w.heap.size := hlt p (.inl rfl)
  have hml : mb < w.heap.size := hlt mb (.inr (.inl rfl))
  have hgp : ∀ g, v6.ownBlock = some g → g ≠ p := fun g e1 e2 => by
    rcases hf g e1 with h1 | h1
    · exact h.ne.2.1 (by rw [h1, e2])
    · omega
  refine ⟨v6.ownBlock, ⟨⟨v6, hp, ?_, rfl⟩, ?_, h.ne.1, fun e1 => hgp p e1 rfl, fun e1 => ?_⟩, ?_, hf⟩
  · rw [hop]; exact hr.held (S := fun k => k = p) (Kept.but b7 rfl) (fun g e1 e2 => hgp g e1 e2)
  · rw [hea]; exact ((h.map.held k6 (fun e1 => h.ne.2.2 e1)).held (S := fun k => k = p) (Kept.but b7 rfl) (fun e1 => h.ne.1 e1.symm)).mono htk
  · rcases hf mb e1 with h1 | h1
    · exact h.ne.2.2 h1
    · omega
  · exact (k6.mono (fun k e1 => .inr (.inr e1))).trans (Kept.but b7 (.inl rfl))
/-- A write into the block itself. -/
theorem EndOut.put {r0 : Option Nat} {w0 w1 : World} {e0 e1 : En} {i : Nat} {v : Value} (h : EndOut p r0 mb e0 w0 w1) (hw : ∀ r, EndAt w1 p r mb e0 → EndAt (w1.setCell ⟨p, i, none⟩ v) p r mb e1) : EndOut p r0 mb e1 w0 (w1.setCell ⟨p, i, none⟩ v) := by
  obtain ⟨r', h1, h2, h3⟩ := h
  exact ⟨r', hw r' h1, h2.trans (Kept.but (But.set p i w1 v) (.inl rfl)), h3⟩
end
end Go.Proofs.Ytgabonacpoimfaa
