/-
  Two ends that talk, in memory: a list of things that lie side by side; the talk's block, its rows.
-/
import Derived.Test.YtgabonacpoimfaaTkPure
import Derived.Test.YtgabonacpoimfaaCrSame
namespace Go.Proofs.Ytgabonacpoimfaa
open Go.RowKit
set_option linter.unusedVariables false
set_option linter.unusedSimpArgs false

def Stars : List Rsc → Rsc
  | [] => Emp
  | A :: l => Star A (Stars l)
theorem Stars.good : ∀ {l : List Rsc}, (∀ A ∈ l, A.Good) → (Stars l).Good
  | [], _ => Emp.good
  | A :: l, h => Star.good (h A (List.mem_cons_self ..)) (Stars.good (fun B hB => h B (List.mem_cons_of_mem _ hB)))
theorem Star.left {A B C : Rsc} {w : World} {Z : Nat → Prop} (h : Star A (Star B C) w Z) : Star B (Star A C) w Z := h.rot.mono (fun _ h => h) (fun _ h => h.comm)
theorem Stars.pull : ∀ (l1 : List Rsc) {A : Rsc} {l2 : List Rsc} {w : World} {Z : Nat → Prop}, Stars (l1 ++ A :: l2) w Z → Star A (Stars (l1 ++ l2)) w Z
  | [], _, _, _, _, h => h
  | B :: l1, A, l2, w, Z, h => Star.left (Star.mono (A := B) (B := Stars (l1 ++ A :: l2)) h (fun _ h => h) (fun _ h => Stars.pull l1 h))
theorem Stars.push : ∀ (l1 : List Rsc) {A : Rsc} {l2 : List Rsc} {w : World} {Z : Nat → Prop}, Star A (Stars (l1 ++ l2)) w Z → Stars (l1 ++ A :: l2) w Z
  | [], _, _, _, _, h => h
  | B :: l1, A, l2, w, Z, h => Star.mono (A := B) (B := Star A (Stars (l1 ++ l2))) (Star.left h) (fun _ h => h) (fun _ h => Stars.push l1 h)
theorem Held.pull {F : Nat → Prop} (l1 : List Rsc) {A : Rsc} {l2 : List Rsc} {w : World} (h : Held F (Stars (l1 ++ A :: l2)) w) : Held F (Star A (Stars (l1 ++ l2))) w := h.turn (fun _ h => Stars.pull l1 h)
theorem Held.push {F : Nat → Prop} (l1 : List Rsc) {A : Rsc} {l2 : List Rsc} {w : World} (h : Held F (Star A (Stars (l1 ++ l2))) w) : Held F (Stars (l1 ++ A :: l2)) w := h.turn (fun _ h => Stars.push l1 h)
/-- A block known whole. -/
def BlkR (t : Nat) (cs : Array Value) (ty : TypeId) : Rsc := fun w Z => Has w t (.cells cs ty) ∧ Z = fun k => k = t
theorem BlkR.good (t : Nat) (cs : Array Value) (ty : TypeId) : (BlkR t cs ty).Good :=
  ⟨fun ⟨h, e⟩ k hs => ⟨h.held k (hs t (by rw [e])), e⟩, fun ⟨h, e⟩ k hk => by rw [e] at hk; subst hk; exact h.lt⟩
theorem Held.blk {F : Nat → Prop} {t : Nat} {cs : Array Value} {ty : TypeId} {B : Rsc} {w : World} (h : Held F (Star (BlkR t cs ty) B) w) : Has w t (.cells cs ty) := by
  obtain ⟨Z, ⟨Z1, Z2, ⟨hN, _⟩, _, _, _⟩, _⟩ := h
  exact hN
theorem Held.set {F : Nat → Prop} {t : Nat} {cs : Array Value} {ty : TypeId} {B : Rsc} {w : World} (hB : B.Good) (h : Held F (Star (BlkR t cs ty) B) w) (i : Nat) (v : Value) : Held F (Star (BlkR t (cs.setIfInBounds i v) ty) B) (w.setCell ⟨t, i, none⟩ v) ∧ KeptF F w (w.setCell ⟨t, i, none⟩ v) :=
  h.step hB (fun Z ⟨hN, e⟩ => ⟨Z, ⟨hN.set i v, e⟩, Kept.but (But.set t i w v) (by rw [e]), fun k hk => .inl hk⟩)
theorem Held.newBlk {F : Nat → Prop} {B : Rsc} {w : World} (hB : B.Good) (h : Held F B w) (cs : Array Value) (ty : TypeId) : Held F (Star (BlkR w.heap.size cs ty) B) (w.alloc (.cells cs ty)) :=
  h.made hB (bnew w _) ⟨Has.new w _, rfl⟩ (fun k hk => Nat.le_of_eq hk.symm)
/-- A row of texts. -/
def TxR (v : Value) (q : List ByteArray) : Rsc := fun w Z => SRow w v q ∧ Z = fun k => v.ownBlock = some k
theorem TxR.good (v : Value) (q : List ByteArray) : (TxR v q).Good :=
  ⟨fun ⟨h, e⟩ k hs => ⟨h.held k (fun g hg => hs g (by rw [e]; exact hg)), e⟩, fun ⟨h, e⟩ k hk => by rw [e] at hk; exact h.lt hk⟩
theorem Held.tx {F : Nat → Prop} {v : Value} {q : List ByteArray} {B : Rsc} {w : World} (h : Held F (Star (TxR v q) B) w) : SRow w v q := by
  obtain ⟨Z, ⟨Z1, Z2, ⟨hN, _⟩, _, _, _⟩, _⟩ := h
  exact hN
theorem Held.newTx {F : Nat → Prop} {B : Rsc} {w : World} (hB : B.Good) (h : Held F B w) : Held F (Star (TxR (.slice none 0 0) []) B) w :=
  h.made hB (Below.refl _ _) (Z := fun k => (Value.slice none 0 0).ownBlock = some k) ⟨SRow.nil w, rfl⟩ (fun k hk => by cases hk)
theorem Held.txMore {F : Nat → Prop} {v v' : Value} {q q' : List ByteArray} {B : Rsc} {w w' : World} (hB : B.Good) (h : Held F (Star (TxR v q) B) w) (hr : SRow w' v' q') (hg : w.grownBy w' v.ownBlock) (hf : ∀ g, v'.ownBlock = some g → v.ownBlock = some g ∨ w.heap.size ≤ g) :
    Held F (Star (TxR v' q') B) w' ∧ KeptF F w w' :=
  h.step hB (fun Z ⟨_, e⟩ => ⟨fun k => v'.ownBlock = some k, ⟨hr, rfl⟩, Kept.grown hg (fun g hg => by rw [e]; exact hg), fun k hk => by rw [e]; exact hf k hk⟩)
/-- A datagram that was sent. -/
structure Sn where
  g : Gr
  first : Bool
def Sn.row (x : Sn) : Array Value := #[.int .i64 x.g.cl, .bool x.g.up, .int .i64 x.g.ep, .int .i64 x.g.sq, .int .i64 x.g.ak, .string x.g.bd, .bool x.first]
def Sn.val (x : Sn) : Value := .agg x.row
def flatS (q : List Sn) : List Value := q.flatMap (fun x => x.row.toList)
theorem flatS_append (a b : List Sn) : flatS (a ++ b) = flatS a ++ flatS b := by unfold flatS; rw [List.flatMap_append]
theorem flatS_len : ∀ q : List Sn, (flatS q).length = q.length * 7
  | [] => rfl
  | x :: q => by
    have := flatS_len q
    unfold flatS at *
    rw [List.flatMap_cons, List.length_append, this]
    simp only [Sn.row, List.length_cons]
    simp; omega
theorem flatS_get : ∀ (q : List Sn) (i : Nat) (x : Sn), q[i]? = some x → ∀ (j : Nat) v, x.row[j]? = some v → (flatS q)[i * 7 + j]? = some v
  | [], i, x, h, _, _, _ => by simp at h
  | y :: q, 0, x, h, j, v, hv => by
    simp only [List.getElem?_cons_zero, Option.some.injEq] at h
    subst h
    have hj := (Array.getElem?_eq_some_iff.1 hv).1
    unfold flatS
    rw [List.flatMap_cons, Nat.zero_mul, Nat.zero_add, List.getElem?_append_left (by simpa using hj)]
    simpa using hv
  | y :: q, i + 1, x, h, j, v, hv => by
    have ih := flatS_get q i x (by simpa using h) j v hv
    unfold flatS at *
    rw [List.flatMap_cons, List.getElem?_append_right (by simp [Sn.row]; omega)]
    rw [show (i + 1) * 7 + j - y.row.toList.length = i * 7 + j by simp [Sn.row]; omega]
    exact ih
theorem flatS_one (q : List Sn) : ∀ u ∈ flatS q, u.oneCell' = true := by
  intro u hu
  unfold flatS at hu
  obtain ⟨x, _, hx⟩ := List.mem_flatMap.1 hu
  simp [Sn.row] at hx
  rcases hx with rfl | rfl | rfl | rfl | rfl | rfl | rfl <;> rfl
def RowS (w : World) (v : Value) (q : List Sn) : Prop := w.ownsRow 0 58 7 v q.length (flatS q)
theorem snElem : Elem Try.prog 54 58 7 64 (.agg (Sn.mk Gr.none false).row) := ⟨Try.underlying54, by kernel_rfl, rfl, by omega⟩
theorem RowS.held {S : Nat → Prop} {w w' : World} {v : Value} {q : List Sn} (h : RowS w v q) (k : Kept S w w') (hs : ∀ g, v.ownBlock = some g → ¬ S g) : RowS w' v q := by
  cases hv : v.ownBlock with
  | none =>
    rcases h.2 with ⟨rfl, hq⟩ | ⟨g, cap, cur, rfl, _⟩
    · exact ⟨h.1, .inl ⟨rfl, hq⟩⟩
    · cases hv
  | some g =>
    refine ⟨h.1, ?_⟩
    rcases h.2 with ⟨rfl, hq⟩ | ⟨g', cap, cur, rfl, h1, h2, h3⟩
    · cases hv
    · cases hv
      exact .inr ⟨_, cap, cur, rfl, h1, Has.held h2 k (hs _ rfl), h3⟩
theorem RowS.lt {w : World} {v : Value} {q : List Sn} (h : RowS w v q) {g : Nat} (hg : v.ownBlock = some g) : g < w.heap.size := (World.ownsRow.lt h g hg).2
theorem RowS.nil (w : World) : RowS w (.slice none 0 0) [] := World.ownsRow_nil _ _ _ _
theorem RowS.form {w : World} {v : Value} {q : List Sn} (h : RowS w v q) : ∃ A cap, v = .slice A q.length cap ∧ q.length ≤ cap ∧ cap ≤ 9223372036854775807 := ownsRow_form h
structure SnIn (w : World) (b o : Nat) (x : Sn) : Prop where
  g : GrIn w b o x.g
  f : w.cell? ⟨b, o + 6, none⟩ = some (.bool x.first)
theorem RowS.at {w : World} {A : Option Addr} {n cap : Nat} {q : List Sn} (h : RowS w (.slice A n cap) q) {i : Nat} {x : Sn} (hx : q[i]? = some x) : ∃ g, A = some ⟨g, 0, none⟩ ∧ (Value.slice A n cap).ownBlock = some g ∧ g < w.heap.size ∧ SnIn w g (i * 7) x := by
  have hi : i < q.length := (List.getElem?_eq_some_iff.1 hx).1
  obtain ⟨g, cap', cur, e, _, hl, hg, _, _, _, _⟩ := ownsRow_at h (by omega)
  injection e with e1 e2 e3
  subst e1 e2 e3
  have c : ∀ (j : Nat) v, x.row[j]? = some v → w.cell? ⟨g, i * 7 + j, none⟩ = some v := fun j v hv => by
    have hj : j < 7 := (Array.getElem?_eq_some_iff.1 hv).1
    rw [World.ownsRow.cellAt h (i * 7 + j) (by omega)]
    exact flatS_get q i x hx j v hv
  exact ⟨g, rfl, rfl, hl, ⟨GrIn.of (fun j v hv => c j v (by
    rw [← hv]
    have hj : j < 6 := (Array.getElem?_eq_some_iff.1 hv).1
    match j, hj with
    | 0, _ | 1, _ | 2, _ | 3, _ | 4, _ | 5, _ => rfl)), c 6 _ rfl⟩⟩
def SnR (v : Value) (q : List Sn) : Rsc := fun w Z => RowS w v q ∧ Z = fun k => v.ownBlock = some k
theorem SnR.good (v : Value) (q : List Sn) : (SnR v q).Good :=
  ⟨fun ⟨h, e⟩ k hs => ⟨h.held k (fun g hg => hs g (by rw [e]; exact hg)), e⟩, fun ⟨h, e⟩ k hk => by rw [e] at hk; exact h.lt hk⟩
theorem Held.sn {F : Nat → Prop} {v : Value} {q : List Sn} {B : Rsc} {w : World} (h : Held F (Star (SnR v q) B) w) : RowS w v q := by
  obtain ⟨Z, ⟨Z1, Z2, ⟨hN, _⟩, _, _, _⟩, _⟩ := h
  exact hN
theorem Held.newSn {F : Nat → Prop} {B : Rsc} {w : World} (hB : B.Good) (h : Held F B w) : Held F (Star (SnR (.slice none 0 0) []) B) w :=
  h.made hB (Below.refl _ _) (Z := fun k => (Value.slice none 0 0).ownBlock = some k) ⟨RowS.nil w, rfl⟩ (fun k hk => by cases hk)
theorem Held.newSn0 {F : Nat → Prop} {B : Rsc} {w : World} (hB : B.Good) (h : Held F B w) : Held F (Star (SnR (.slice (some ⟨w.heap.size, 0, none⟩) 0 0) []) B) (w.alloc (.cells #[] 58)) :=
  h.made hB (bnew w _) (Z := fun k => (Value.slice (some ⟨w.heap.size, 0, none⟩) 0 0).ownBlock = some k) ⟨World.ownsRow_lit (base := 0) (e := 58) (size := 7) w #[] 0 (Nat.zero_le _) (by unfold maxLen; omega) rfl, rfl⟩ (fun k hk => by cases hk; exact Nat.le_refl _)
theorem Held.snMore {F : Nat → Prop} {v v' : Value} {q q' : List Sn} {B : Rsc} {w w' : World} (hB : B.Good) (h : Held F (Star (SnR v q) B) w) (hr : RowS w' v' q') (hg : w.grownBy w' v.ownBlock) (hf : ∀ g, v'.ownBlock = some g → v.ownBlock = some g ∨ w.heap.size ≤ g) :
    Held F (Star (SnR v' q') B) w' ∧ KeptF F w w' :=
  h.step hB (fun Z ⟨_, e⟩ => ⟨fun k => v'.ownBlock = some k, ⟨hr, rfl⟩, Kept.grown hg (fun g hg => by rw [e]; exact hg), fun k hk => by rw [e]; exact hf k hk⟩)
/-- What is no longer held beside the rest. -/
theorem Held.snFree {F : Nat → Prop} {v : Value} {q : List Sn} {B : Rsc} {w : World} (h : Held F (Star (SnR v q) B) w) : Held (fun k => F k ∨ v.ownBlock = some k) B w := by
  obtain ⟨Z, ⟨Z1, Z2, ⟨hN, e1⟩, h2, hd, e2⟩, hF⟩ := h
  subst e1 e2
  refine ⟨Z2, h2, fun k hk => ?_⟩
  rcases hk with hk | hk
  · exact ⟨(hF k hk).1, fun hz => (hF k hk).2 (.inr hz)⟩
  · exact ⟨hN.lt hk, hd k hk⟩
/-- The talk: its ends, its rows. -/
structure Tk where
  a : En
  b : En
  toA : List ByteArray
  toB : List ByteArray
  atA : List ByteArray
  atB : List ByteArray
  pool : List Sn
structure Tv where
  pa : Nat
  pb : Nat
  v2 : Value
  v3 : Value
  v4 : Value
  v5 : Value
  v6 : Value
def Tv.cells (V : Tv) : Array Value := #[.pointer (some ⟨V.pa, 0, none⟩), .pointer (some ⟨V.pb, 0, none⟩), V.v2, V.v3, V.v4, V.v5, V.v6]
abbrev TkB (t : Nat) (V : Tv) : Rsc := BlkR t V.cells 60
abbrev TkL (t : Nat) (V : Tv) (x : Tk) : List Rsc := [TkB t V, EndR V.pa x.a, EndR V.pb x.b, TxR V.v2 x.toA, TxR V.v3 x.toB, TxR V.v4 x.atA, TxR V.v5 x.atB, SnR V.v6 x.pool]
def TkR (t : Nat) (V : Tv) (x : Tk) : Rsc := Stars (TkL t V x)
theorem TkL.good (t : Nat) (V : Tv) (x : Tk) : ∀ A ∈ TkL t V x, A.Good := by
  intro A hA
  simp only [TkL, List.mem_cons, List.not_mem_nil, or_false] at hA
  rcases hA with rfl | rfl | rfl | rfl | rfl | rfl | rfl | rfl
  · exact BlkR.good _ _ _
  · exact EndR.good _ _
  · exact EndR.good _ _
  · exact TxR.good _ _
  · exact TxR.good _ _
  · exact TxR.good _ _
  · exact TxR.good _ _
  · exact SnR.good _ _
theorem TkR.good (t : Nat) (V : Tv) (x : Tk) : (TkR t V x).Good := Stars.good (TkL.good t V x)
theorem good_less {l1 l2 : List Rsc} {A : Rsc} (h : ∀ B ∈ l1 ++ A :: l2, B.Good) : (Stars (l1 ++ l2)).Good :=
  Stars.good (fun B hB => h B (by
    rcases List.mem_append.1 hB with h | h
    · exact List.mem_append.2 (.inl h)
    · exact List.mem_append.2 (.inr (List.mem_cons_of_mem _ h))))
end Go.Proofs.Ytgabonacpoimfaa
