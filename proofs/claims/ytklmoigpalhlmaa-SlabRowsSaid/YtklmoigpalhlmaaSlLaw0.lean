/-
  What the walks of the statements of layer 3 share.
-/
import Derived.Test.YtklmoigpalhlmaaSlLawP
import Derived.Deep.CutRange
import Derived.Deep.RegionLaw
namespace Go.Proofs.Ytklmoigpalhlmaa
open Go.RowKit
set_option linter.unusedVariables false
set_option linter.unusedSimpArgs false

theorem slMod_form (x : Int) (n : Nat) (h0 : 0 < n) (hn : n ≤ 100000) : ∃ a : Nat, a < n ∧ wrap64 ((IntKind.u64.wrap x).tmod (n : Int)) = a := by
  have h0' : 0 ≤ IntKind.u64.wrap x := by rw [IntKind.wrap_u64]; omega
  rw [Int.tmod_eq_emod_of_nonneg h0']
  have h1 := Int.emod_lt_of_pos (IntKind.u64.wrap x) (show (0 : Int) < n by omega)
  have h2 := Int.emod_nonneg (IntKind.u64.wrap x) (show (n : Int) ≠ 0 by omega)
  refine ⟨((IntKind.u64.wrap x) % n).toNat, by omega, ?_⟩
  rw [IntWalk.wrap64_in _ ⟨by omega, by omega⟩]
  omega
theorem great_false {l : List Sl} (h : slGreat l = false) : l.length ≤ 100 ∧ ∀ x ∈ l, x.d.size ≤ 4096 := by
  simp [slGreat] at h
  exact ⟨h.1, h.2⟩
theorem IsSlots.drew {w : World} {A : Option Addr} {n c : Nat} {l : List Sl} (h : IsSlots w A n c l) : IsSlots w.drew A n c l := h.below ((Below.refl _ w).drew)
theorem bcell {W w1 : World} (hb : Below W.heap.size W w1) : (∀ b o, b < W.heap.size → w1.cell? ⟨b, o, none⟩ = W.cell? ⟨b, o, none⟩) ∧ (∀ b o, b < W.heap.size → w1.frozen? ⟨b, o, none⟩ = W.frozen? ⟨b, o, none⟩) :=
  ⟨fun b o h => hb.cell (p := ⟨b, o, none⟩) h, fun b o h => hb.frozen (p := ⟨b, o, none⟩) h⟩
/-- A text of nothing but zeros. -/
def zeros (m : Nat) : List UInt8 := List.replicate m 0
theorem zeros_cells (m : Nat) : (List.replicate m (Value.int .u8 0)).toArray = (byteVals (zeros m) ++ []).toArray := by
  simp [byteVals, zeros]
theorem zeros_text {w : World} {g : Nat} {m : Nat} (h : Has w g (.cells (List.replicate m (.int .u8 0)).toArray 5)) : (convert 36 9 (.slice (some ⟨g, 0, none⟩) m m)).run Try.prog w = .ok (.string (bs (zeros m))) w := by
  rw [zeros_cells] at h
  have := bytes_back (cap := m) h
  rw [show (zeros m).length = m by simp [zeros]] at this
  exact this
theorem IsSlots.but2 {w w' : World} {A : Option Addr} {n c g : Nat} {l : List Sl} (h : IsSlots w A n c l) (hb : But g w w') (hne : 0 < n → ∀ b off, A = some ⟨b, off, none⟩ → b ≠ g) : IsSlots w' A n c l := by
  refine ⟨h.len, h.cap, h.most, h.size, fun hn => ?_⟩
  obtain ⟨b, off, rfl, hlt, hc⟩ := h.row hn
  have hk := hb.block b hlt (hne hn b off rfl)
  refine ⟨b, off, rfl, Nat.lt_of_lt_of_le hlt hb.size, fun i x hx => ?_⟩
  obtain ⟨h1, h2⟩ := hc i x hx
  exact ⟨(World.cell?_of_block (a := ⟨b, off + i * 2, none⟩) hk).trans h1, (World.cell?_of_block (a := ⟨b, off + i * 2 + 1, none⟩) hk).trans h2⟩
/-- A block that holds an image holds no slots. -/
theorem IsSlots.apart {w w' : World} {A : Option Addr} {n c g : Nat} {l : List Sl} {r : Int} {B : Option Addr} {m k : Nat} {t : TypeId} {fr : Nat × Nat} (h : IsSlots w A n c l) (hg : Has w g (.cells #[.int .i64 r, .slice B m k] t fr)) (hb : But g w w') : IsSlots w' A n c l := by
  refine h.but2 hb fun hn b off e => ?_
  rintro rfl
  subst e
  obtain ⟨b', off', x, e2, hx, _, c1, _⟩ := h.at hn
  obtain ⟨rfl, rfl⟩ : b' = b ∧ off' = off := by cases e2; exact ⟨rfl, rfl⟩
  have h0 := hg.cell 0 _ rfl
  have h1 := hg.cell 1 _ rfl
  unfold Has at hg
  simp only [World.cell?, hg, Nat.zero_mul, Nat.add_zero] at c1
  match off', c1 with
  | 0, c1 => simp at c1
  | 1, c1 => simp at c1
  | j + 2, c1 => simp at c1
/-- An image that a call handed back, stored into a variable that was made ahead of the call. -/
theorem close_in {w2 X w5 : World} {g : Nat} {L : List Sl} {A5 B : Option Addr} {n5 c5 m k : Nat} {r z : Int} (hX : Below w2.heap.size w2 X) (hg : w2.heap.size ≤ g) (hq : Has X g (.cells #[.int .i64 z, .slice B m k] 24)) (b5 : Below X.heap.size X w5) (I5 : IsSlots w5 A5 n5 c5 L) :
    Hid (Has ((w5.setCell ⟨g, 0, none⟩ (.int .i64 r)).setCell ⟨g, 1, none⟩ (.slice A5 n5 c5)) g (.cells #[.int .i64 r, .slice A5 n5 c5] 24)) ∧ Hid (IsSlots ((w5.setCell ⟨g, 0, none⟩ (.int .i64 r)).setCell ⟨g, 1, none⟩ (.slice A5 n5 c5)) A5 n5 c5 L) ∧
      Hid (Below w2.heap.size w2 ((w5.setCell ⟨g, 0, none⟩ (.int .i64 r)).setCell ⟨g, 1, none⟩ (.slice A5 n5 c5))) := by
  have h5 := hq.below b5
  have hb := (But.set g 0 w5 (.int .i64 r)).trans (But.set g 1 (w5.setCell ⟨g, 0, none⟩ (.int .i64 r)) (.slice A5 n5 c5))
  have hB := bup hX b5
  exact ⟨Lib.hid ((h5.set 0 _).set 1 _), Lib.hid (I5.apart h5 hb), Lib.hid (hB.trans (hb.below hg hB.size))⟩
theorem close_out {w2 X w5 : World} {L : List Sl} {A5 : Option Addr} {n5 c5 : Nat} {r : Int} (hX : Below w2.heap.size w2 X) (b5 : Below X.heap.size X w5) (I5 : IsSlots w5 A5 n5 c5 L) :
    Hid (Has (w5.alloc (.cells #[.int .i64 r, .slice A5 n5 c5] 24)) w5.heap.size (.cells #[.int .i64 r, .slice A5 n5 c5] 24)) ∧ Hid (IsSlots (w5.alloc (.cells #[.int .i64 r, .slice A5 n5 c5] 24)) A5 n5 c5 L) ∧
      Hid (Below w2.heap.size w2 (w5.alloc (.cells #[.int .i64 r, .slice A5 n5 c5] 24))) :=
  ⟨Lib.hid (Has.new _ _), Lib.hid (I5.alloc _), Lib.hid (bup (bup hX b5) (bnew _ _))⟩
end Go.Proofs.Ytklmoigpalhlmaa
