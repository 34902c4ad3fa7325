/-
  What entries do to images, in plain words; the small functions.
-/
import Derived.Test.YtpgeiopknjfdmaaSlM
import Derived.Test.YtpgeiopknjfdmaaEntRgood
import Derived.Test.YtpgeiopknjfdmaaEntZero
import Derived.Test.YtpgeiopknjfdmaaSlLaw0
import Derived.Lib.SliceRun
namespace Go.Proofs.Ytpgeiopknjfdmaa
open Go.RowKit Go.Sort
set_option linter.unusedVariables false
set_option linter.unusedSimpArgs false

def Ent.was (x : Ent) : Sl := ⟨x.wu, x.wd⟩
def Ent.is (x : Ent) : Sl := ⟨x.iu, x.ix⟩
def Ent.chg (x : Ent) : Bool := x.kind == 1 || x.kind == 2
/-- What comes of an entry that is done to an image. -/
def redoR (lsn : Int) (l : List Sl) (x : Ent) : Int × List Sl × Bool × Int :=
  if (slGood lsn l && (x.good && x.chg)) = false then (0, [], false, 1)
  else if x.lsn ≤ lsn then (lsn, l, false, 0)
  else if slEq (slAt lsn l x.slot) x.was = false then (0, [], false, 21)
  else if (putRes lsn l x.slot x.is).2.2 = 0 then (x.lsn, (putRes lsn l x.slot x.is).2.1, true, 0)
  else (0, [], false, (putRes lsn l x.slot x.is).2.2)
def RedoOut (R : Int × List Sl × Bool × Int) (w : World) (e : Ending) (w' : World) : Prop :=
  ∃ A n c, e = .returned (.tuple #[.agg #[.int .i64 R.1, .slice A n c], .bool R.2.2.1, .int .i64 R.2.2.2]) ∧ IsSlots w' A n c R.2.1 ∧ Below w.heap.size w w'
/-- The entry that undoes another one. -/
def Ent.turn (x : Ent) (a b : Int) : Ent := ⟨2, x.cl, x.ep, x.n, a, b, x.page, x.slot, x.iu, x.ix, x.wu, x.wd, x.prev⟩
def turnR (x : Ent) (a b : Int) : Ent × Int := if (x.good && (x.kind == 1 && (x.turn a b).good)) = true then (x.turn a b, 0) else (Ent.zero, 1)
/-- An image, an entry and the result lie where they were laid. -/
def Three (w : World) (lsn : Int) (A : Option Addr) (n c : Nat) (l : List Sl) (x : Ent) (v : World) : Prop :=
  Has v w.heap.size (.cells #[.int .i64 lsn, .slice A n c] 24) ∧ Has v (w.heap.size + 1) (.cells x.row 30) ∧ Has v (w.heap.size + 1 + 1) (.cells #[.int .i64 0, .slice none 0 0] 24) ∧ IsSlots v A n c l ∧ Below w.heap.size w v
section
variable {w v u : World} {lsn : Int} {A : Option Addr} {n c : Nat} {l : List Sl} {x : Ent}
theorem Three.go (h : Three w lsn A n c l x v) (b : Below v.heap.size v u) : Three w lsn A n c l x u := ⟨h.1.below b, h.2.1.below b, h.2.2.1.below b, h.2.2.2.1.below b, bup h.2.2.2.2 b⟩
theorem Three.start (I : IsSlots w A n c l) (lsn : Int) (x : Ent) : Three w lsn A n c l x (((w.alloc (.cells #[.int .i64 lsn, .slice A n c] 24)).alloc (.cells x.row 30)).alloc (.cells #[.int .i64 0, .slice none 0 0] 24)) :=
  ⟨((Has.new w _).alloc _).alloc _, (Has.new1 w _ _).alloc _, Has.new2 w _ _ _, ((I.alloc _).alloc _).alloc _, bup (bup (bnew w _) (bnew _ _)) (bnew _ _)⟩
end
theorem RowS.slots' {base : Nat} {w : World} {v : Value} {l : List Sl} (h : RowS base w v l) (hl : ∀ x ∈ l, x.d.size ≤ 140737488351232) : ∃ A cap, v = .slice A l.length cap ∧ IsSlots w A l.length cap l := by
  by_cases h0 : 0 < l.length
  · obtain ⟨g, cap, cur, rfl, _, _, G, h3, h4, _, h6⟩ := ownsRow_at h h0
    exact ⟨_, cap, rfl, IsSlots.of_has (rest := []) G h6 rfl h3 h4 hl⟩
  · obtain ⟨A, cap, rfl, h1, h2⟩ := h.form
    have e : l = [] := List.eq_nil_of_length_eq_zero (by omega)
    subst e
    exact ⟨A, cap, rfl, rfl, h1, h2, by simp, fun h => absurd h (by simp)⟩
theorem changes_any (x : Ent) (w : World) :
    Calls Try.prog 22 #[x.val] w fun r w' => r = .returned (.bool x.chg) ∧ Below w.heap.size w w' := by
  obtain ⟨k, c, e, n, l, p, pg, sl, wu, wd, iu, ix, nx⟩ := x
  simp only [Ent.chg, Ent.val, Ent.row]
  cases h1 : ((k : Int) == 1) <;> cases h2 : ((k : Int) == 2) <;>
  · go_enter Try.func22, Try.ntmps22
    go_wp2_with fail
    go_ret
    exact ⟨rfl, bnew _ _⟩
set_option maxRecDepth 100000 in
set_option maxHeartbeats 4000000 in
theorem clone_any (A : Option Addr) (n c : Nat) (l : List Sl) (w : World) (h : IsSlots w A n c l) (hn : n ≤ 100) :
    Calls Try.prog 23 #[.slice A n c] w fun r w' => ∃ A' c', r = .returned (.slice A' n c') ∧ IsSlots w' A' n c' l ∧ Below w.heap.size w w' := by
  have hcap := h.cap
  have hmost := h.most
  have hlen := h.len
  have H := Lib.hid h
  clear h
  have hnil := fun (w : World) (a : Option Addr) (l c : Nat) => Lib.run_eql_slice_nil (P := Try.prog) w 22 28 a l c 0 0 Try.underlying22
  cases A with
  | none =>
    have hn0 : n = 0 := by
      rcases Nat.eq_zero_or_pos n with h0 | h0
      · exact h0
      · obtain ⟨b, off, x, hA, _⟩ := H.out.at (k := 0) h0
        cases hA
    subst hn0
    have hl : l = [] := List.eq_nil_of_length_eq_zero hlen
    subst hl
    go_enter Try.func23, Try.ntmps23
    go_wp2_with fail
    go_ret
    exact ⟨none, 0, rfl, IsSlots.nil _, Below.refl _ _⟩
  | some ad =>
    go_enter Try.func23, Try.ntmps23
    go_wp2_with (at_builtin; refine grow_old slotElem rfl (.tmp 5) (.tmp 6) rfl w.heap.size _ _ 0 (flat []) rfl (RowS.empty w.heap.size w (Nat.le_refl _)) (some ad) n c (flat l) rfl (by rw [flat_len, hlen]) (H.out.alloc _).cells (flat_one l) (by omega) (by omega) (by simp) ?_; intro v2 w2 R2 g2 b2; obtain ⟨A6, cap6, rfl, h61, h62⟩ := ownsRow_form R2)
    go_ret
    have R3 : RowS w.heap.size w2 (.slice A6 (0 + n) cap6) l := by
      unfold RowS
      rw [hlen]
      have := R2
      rw [Nat.zero_add] at this ⊢
      simpa [flat] using this
    obtain ⟨A7, cap7, hv, I7⟩ := RowS.slots' R3 H.out.size
    rw [hlen] at hv I7
    rw [Nat.zero_add] at hv
    exact ⟨A7, cap7, congrArg Ending.returned hv, I7, (bnew w _).trans b2⟩
end Go.Proofs.Ytpgeiopknjfdmaa
