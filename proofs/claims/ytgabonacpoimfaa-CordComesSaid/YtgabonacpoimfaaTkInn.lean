/-
  A round in which an end sends and all comes, datagram by datagram.
-/
import Derived.Test.YtgabonacpoimfaaTkOk
namespace Go.Proofs.Ytgabonacpoimfaa
open Go.RowKit
set_option linter.unusedVariables false
set_option linter.unusedSimpArgs false
/-- Within a round: what of what was sent has come. -/
structure InnA (x0 x : Tk) (i : Nat) : Prop where
  s : x.a = outE x0.a
  tA : x.toA = x0.toA
  tB : x.toB = x0.toB
  got : Got x0.a x0.b x.b i
  zero : i = 0 → x.b = x0.b
  pool : x.pool = x0.pool ++ sndsOf x0.a true
theorem InnA.start {ep : Int} {x0 : Tk} (h0 : TkOk ep x0) : InnA x0 (sendsT x0 true).1 0 := ⟨rfl, rfl, rfl, Got.start h0.ab h0.oka, fun _ => rfl, rfl⟩
theorem InnA.ok {ep : Int} {x0 x : Tk} {i : Nat} (h : InnA x0 x i) (ho : TkOk ep x) {s : Sn} (hs : (sndsOf x0.a true)[i]? = some s) : SnOk ep x s :=
  ho.pool s (by rw [h.pool]; exact List.mem_append.2 (.inr (List.mem_of_getElem? hs)))
theorem InnA.step {ep : Int} {x0 x : Tk} {i : Nat} (h : InnA x0 x i) (h0 : TkOk ep x0) (ho : TkOk ep x) {s : Sn} (hs : (sndsOf x0.a true)[i]? = some s) : InnA x0 (comesT x s).1 (i + 1) := by
  have hok := h.ok ho hs
  unfold sndsOf at hs
  rw [List.getElem?_map] at hs
  obtain ⟨g, hg, rfl⟩ := Option.map_eq_some_iff.1 hs
  obtain ⟨C, _⟩ := ho.comesA ⟨g, true⟩ hok rfl
  have hr := (hok.1 rfl).right ho.ab ho.ba ho.epb
  have C' : Came x0.a x.b x.toB x.atB g := by
    have hh := C.half
    rw [h.s] at hh
    exact ⟨C.err, hh.other rfl rfl rfl rfl, C.gt, C.next, C.ow⟩
  exact ⟨h.s, h.tA, h.tB, h.got.step (ep := ep) (tx2 := []) (came2 := []) h0.oka hg C' hr, fun e => absurd e (by omega), h.pool⟩
/-- Within a round: what of what was sent has come. -/
structure InnB (x0 x : Tk) (i : Nat) : Prop where
  s : x.b = outE x0.b
  tA : x.toA = x0.toA
  tB : x.toB = x0.toB
  got : Got x0.b x0.a x.a i
  zero : i = 0 → x.a = x0.a
  pool : x.pool = x0.pool ++ sndsOf x0.b false
theorem InnB.start {ep : Int} {x0 : Tk} (h0 : TkOk ep x0) : InnB x0 (sendsT x0 false).1 0 := ⟨rfl, rfl, rfl, Got.start h0.ba h0.okb, fun _ => rfl, rfl⟩
theorem InnB.ok {ep : Int} {x0 x : Tk} {i : Nat} (h : InnB x0 x i) (ho : TkOk ep x) {s : Sn} (hs : (sndsOf x0.b false)[i]? = some s) : SnOk ep x s :=
  ho.pool s (by rw [h.pool]; exact List.mem_append.2 (.inr (List.mem_of_getElem? hs)))
theorem InnB.step {ep : Int} {x0 x : Tk} {i : Nat} (h : InnB x0 x i) (h0 : TkOk ep x0) (ho : TkOk ep x) {s : Sn} (hs : (sndsOf x0.b false)[i]? = some s) : InnB x0 (comesT x s).1 (i + 1) := by
  have hok := h.ok ho hs
  unfold sndsOf at hs
  rw [List.getElem?_map] at hs
  obtain ⟨g, hg, rfl⟩ := Option.map_eq_some_iff.1 hs
  obtain ⟨C, _⟩ := ho.comesB ⟨g, false⟩ hok rfl
  have hr := (hok.2 rfl).right ho.ba ho.ab ho.epa
  have C' : Came x0.b x.a x.toA x.atA g := by
    have hh := C.half
    rw [h.s] at hh
    exact ⟨C.err, hh.other rfl rfl rfl rfl, C.gt, C.next, C.ow⟩
  exact ⟨h.s, h.tA, h.tB, h.got.step (ep := ep) (tx2 := []) (came2 := []) h0.okb hg C' hr, fun e => absurd e (by omega), h.pool⟩
/-- All has come. -/
theorem Rnd.last {ep : Int} {x : Tk} (h : Rnd 6 x) (ho : TkOk ep x) : x.atA = x.toA ∧ x.atB = x.toB ∧ x.a.op.length = 0 ∧ x.b.op.length = 0 ∧ owesE x.a = false ∧ owesE x.b = false := by
  obtain ⟨r1, r2, r3, r4, r5, r6⟩ := (show x.b.gt = x.toB.length ∧ x.a.gt = x.toA.length ∧ x.a.op.length = 0 ∧ x.b.op.length = 0 ∧ x.a.ow = false ∧ x.b.ow = false from h)
  refine ⟨?_, ?_, r3, r4, ?_, ?_⟩
  · rw [ho.ba.came, r2]; exact List.take_length
  · rw [ho.ab.came, r1]; exact List.take_length
  · unfold owesE; rw [r3, r5]; rfl
  · unfold owesE; rw [r4, r6]; rfl
end Go.Proofs.Ytgabonacpoimfaa
