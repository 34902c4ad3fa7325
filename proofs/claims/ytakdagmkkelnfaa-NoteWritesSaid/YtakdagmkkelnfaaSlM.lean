/-
  The plain law of puts.
-/
import Derived.Test.YtakdagmkkelnfaaSlD
import Derived.Deep.CutRange
import Derived.Deep.RegionLaw
import Derived.Test.YtakdagmkkelnfaaBase
import Derived.Outline
import Derived.Test.YtakdagmkkelnfaaSlA
import Derived.ProofKit
import Derived.Deep.Slices
import Derived.Deep.Fields
import Derived.ChangeSame
import Derived.Lib.SmallJoins
import Derived.SizedLaws
/-! The plain law of puts. -/
set_option maxRecDepth 100000
namespace Go.Proofs.Ytakdagmkkelnfaa
open Go.RowKit
set_option linter.unusedVariables false
set_option linter.unusedSimpArgs false

theorem slTrim_last (l : List Sl) : slLast (slTrim l) = true := by
  unfold slLast slTrim
  rw [List.getLast?_reverse]
  cases h : l.reverse.dropWhile Sl.free with
  | nil => rfl
  | cons a r =>
    have := List.head?_dropWhile_not (p := Sl.free) (l := l.reverse)
    rw [h] at this
    simp [Sl.free] at this ⊢
    exact this
theorem slTrim_of_last {l : List Sl} (h : slLast l = true) : slTrim l = l := by
  unfold slLast at h
  cases hl : l.getLast? with
  | none => have : l = [] := by simpa using hl
            subst this; rfl
  | some x =>
    rw [hl] at h
    obtain ⟨r, rfl⟩ : ∃ r, l = r ++ [x] := by
      have hne : l ≠ [] := by intro e; subst e; cases hl
      have hx : l.getLast hne = x := by
        rw [List.getLast?_eq_some_getLast hne] at hl
        exact Option.some.inj hl
      exact ⟨l.dropLast, by rw [← hx]; exact (List.dropLast_concat_getLast hne).symm⟩
    exact slTrim_used r x h
theorem any_set_pad {l : List Sl} (h : l.any Sl.odd = false) (k : Nat) {x : Sl} (hx : x.odd = false) : ((slPad l (k + 1)).set k x).any Sl.odd = false := by
  rw [List.any_eq_false]
  intro y hy
  rcases List.mem_or_eq_of_mem_set hy with h1 | h1
  · unfold slPad at h1
    rcases List.mem_append.1 h1 with h2 | h2
    · exact List.any_eq_false.1 h y h2
    · rw [List.eq_of_mem_replicate h2]; decide +kernel
  · rw [h1]; simpa using hx
theorem putL_odd {l : List Sl} (h : l.any Sl.odd = false) (k : Nat) {x : Sl} (hx : x.odd = false) : (putL l k x).any Sl.odd = false := by
  rw [List.any_eq_false]
  intro y hy
  exact List.any_eq_false.1 (any_set_pad h k hx) y (slTrim_sub _ y hy)
theorem putL_len (l : List Sl) (k : Nat) (x : Sl) : (putL l k x).length ≤ max l.length (k + 1) := by
  have := slTrim_le ((slPad l (k + 1)).set k x)
  rw [List.length_set, slPad_len] at this
  exact this
/-- What a put leaves can be. -/
theorem putL_good {lsn : Int} {l : List Sl} (h : slGood lsn l = true) {k : Nat} (hk : k < 32) {x : Sl} (hx : x.odd = false) (hs : slSize (putL l k x) ≤ 240) : slGood lsn (putL l k x) = true := by
  obtain ⟨h1, h2, h3, h4, h5⟩ := (slGood_iff lsn l).1 h
  have hl := putL_len l k x
  exact (slGood_iff _ _).2 ⟨h1, by omega, putL_odd h3 k hx, slTrim_last _, hs⟩
/-- A used record is put: nothing is trimmed. -/
theorem putL_used {l : List Sl} (h : slLast l = true) (k : Nat) {x : Sl} (hx : x.u = true) : putL l k x = (slPad l (k + 1)).set k x := by
  refine slTrim_of_last ?_
  unfold slLast
  have hlen : ((slPad l (k + 1)).set k x).length = max l.length (k + 1) := by rw [List.length_set, slPad_len]
  rw [List.getLast?_eq_getElem?, hlen, List.getElem?_set]
  by_cases e : k = max l.length (k + 1) - 1
  · rw [if_pos e, if_pos (by rw [slPad_len]; omega)]
    exact hx
  · rw [if_neg e]
    have hle : k + 1 < l.length := by omega
    have e2 : slPad l (k + 1) = l := by unfold slPad; rw [show k + 1 - l.length = 0 by omega]; simp
    rw [e2, show max l.length (k + 1) - 1 = l.length - 1 by omega, ← List.getLast?_eq_getElem?]
    exact h
/-- How many bytes the data of all slots but one take. -/
def slOther (k : Nat) : Nat → List Sl → Nat
  | _, [] => 0
  | i, x :: l => (if i = k then 0 else x.d.size) + slOther k (i + 1) l
theorem slOther_append (k : Nat) : ∀ (i : Nat) (a b : List Sl), slOther k i (a ++ b) = slOther k i a + slOther k (i + a.length) b
  | i, [], b => by simp [slOther]
  | i, x :: a, b => by
    simp only [List.cons_append, slOther, slOther_append k (i + 1) a b, List.length_cons]
    rw [show i + 1 + a.length = i + (a.length + 1) by omega]; omega
theorem slOther_snoc (k : Nat) (l : List Sl) (j : Nat) (x : Sl) (h : l[j]? = some x) : slOther k 0 (l.take (j + 1)) = slOther k 0 (l.take j) + (if j = k then 0 else x.d.size) := by
  have hj := (List.getElem?_eq_some_iff.1 h).1
  rw [List.take_add_one, h, slOther_append]
  simp only [Option.toList, slOther, List.length_take, Nat.zero_add, Nat.add_zero]
  rw [Nat.min_eq_left (by omega)]
theorem slSum_set (k : Nat) : ∀ (i : Nat) (l : List Sl) (x : Sl), i ≤ k → k < i + l.length → slSum (l.set (k - i) x) = l.length + x.d.size + slOther k i l
  | i, [], x, h1, h2 => by simp at h2; omega
  | i, a :: l, x, h1, h2 => by
    by_cases e : i = k
    · subst e
      rw [Nat.sub_self, List.set_cons_zero]
      have e1 : slSum (x :: l) = (1 + x.d.size) + slSum l := rfl
      have : ∀ (j : Nat) (l : List Sl), i < j → slOther i j l = slSum l - l.length ∧ l.length ≤ slSum l := by
        intro j l
        induction l generalizing j with
        | nil => intro _; simp [slOther, slSum]
        | cons b l ih =>
          intro hj
          obtain ⟨a1, a2⟩ := ih (j + 1) (by omega)
          have e2 : slSum (b :: l) = (1 + b.d.size) + slSum l := rfl
          simp only [slOther, e2, List.length_cons]
          rw [if_neg (by omega), a1]; omega
      obtain ⟨b1, b2⟩ := this (i + 1) l (by omega)
      simp only [slOther, e1, List.length_cons]
      rw [if_pos trivial, b1]; omega
    · obtain ⟨j, hj⟩ : ∃ j, k - i = j + 1 := ⟨k - i - 1, by omega⟩
      have ih := slSum_set k (i + 1) l x (by omega) (by simp at h2; omega)
      rw [show k - (i + 1) = j by omega] at ih
      rw [hj, List.set_cons_succ]
      have e1 : slSum (a :: l.set j x) = (1 + a.d.size) + slSum (l.set j x) := rfl
      simp only [e1, slOther, List.length_cons, ih]
      rw [if_neg e]; omega
theorem slOther_pad (k : Nat) (l : List Sl) (m : Nat) : slOther k 0 (slPad l m) = slOther k 0 l := by
  unfold slPad
  rw [slOther_append]
  have : ∀ (n i : Nat), slOther k i (List.replicate n Sl.none) = 0 := by
    intro n
    induction n with
    | zero => intro i; rfl
    | succ n ih =>
      intro i
      rw [List.replicate_succ]
      simp only [slOther, ih]
      have : Sl.none.d.size = 0 := rfl
      rw [this]; simp
  rw [this]; rfl
/-- The size of what a put of a record leaves. -/
theorem putL_size {l : List Sl} (h : slLast l = true) (k : Nat) {x : Sl} (hx : x.u = true) : slSize (putL l k x) = 9 + max l.length (k + 1) + x.d.size + slOther k 0 l := by
  rw [putL_used h k hx]
  unfold slSize
  have := slSum_set k 0 (slPad l (k + 1)) x (by omega) (by rw [slPad_len]; omega)
  rw [Nat.sub_zero] at this
  rw [this, slPad_len, slOther_pad]; omega
theorem slOther_le {l : List Sl} (k m : Nat) (h : ∀ x ∈ l, x.d.size ≤ m) : ∀ i, slOther k i l ≤ l.length * m := by
  induction l with
  | nil => intro i; simp [slOther]
  | cons a l ih =>
    intro i
    have h1 := h a (by simp)
    have h2 := ih (fun x hx => h x (by simp [hx])) (i + 1)
    simp only [slOther, List.length_cons, Nat.add_mul, Nat.one_mul]
    split <;> omega
theorem free_none {x : Sl} (h : x.odd = false) (hu : x.u = false) : x = Sl.none := by
  obtain ⟨u, d⟩ := x
  simp only at hu
  subst hu
  simp [Sl.odd] at h
  have h2 := h.1
  rw [ByteArray.toList_eq] at h2
  have : d = ⟨#[]⟩ := by apply ByteArray.ext; apply Array.ext'; exact h2
  rw [this]; rfl
theorem slTrim_parts (l : List Sl) : ∃ r, l = slTrim l ++ r ∧ ∀ x ∈ r, x.u = false := by
  refine ⟨(l.reverse.takeWhile Sl.free).reverse, ?_, ?_⟩
  · unfold slTrim
    rw [← List.reverse_append, List.takeWhile_append_dropWhile, List.reverse_reverse]
  · intro x hx
    have h : x ∈ l.reverse.takeWhile Sl.free := by simpa using hx
    have := List.all_takeWhile (p := Sl.free) (l := l.reverse)
    rw [List.all_eq_true] at this
    have h2 := this x h
    simpa [Sl.free] using h2
theorem trim_getD {l : List Sl} (h : l.any Sl.odd = false) (j : Nat) : (slTrim l).getD j Sl.none = l.getD j Sl.none := by
  obtain ⟨r, hr, hf⟩ := slTrim_parts l
  have hl : l.getD j Sl.none = (slTrim l ++ r).getD j Sl.none := by rw [← hr]
  rw [hl]
  simp only [List.getD_eq_getElem?_getD, List.getElem?_append]
  by_cases hj : j < (slTrim l).length
  · rw [if_pos hj]
  · rw [if_neg hj, List.getElem?_eq_none (by omega)]
    cases hx : r[j - (slTrim l).length]? with
    | none => rfl
    | some y =>
      have hy := List.mem_of_getElem? hx
      have hyl : y ∈ l := by rw [hr]; exact List.mem_append.2 (.inr hy)
      have := List.any_eq_false.1 h y hyl
      exact (free_none (by simpa using this) (hf y hy)).symm
theorem pad_getD (l : List Sl) (m j : Nat) : (slPad l m).getD j Sl.none = l.getD j Sl.none := by
  unfold slPad
  simp only [List.getD_eq_getElem?_getD, List.getElem?_append]
  by_cases hj : j < l.length
  · rw [if_pos hj]
  · rw [if_neg hj, List.getElem?_eq_none (Nat.le_of_not_lt hj), List.getElem?_replicate]
    split <;> rfl
/-- What is at a slot behind a put. -/
theorem putL_getD {l : List Sl} (h : l.any Sl.odd = false) (k j : Nat) {x : Sl} (hx : x.odd = false) : (putL l k x).getD j Sl.none = if j = k then x else l.getD j Sl.none := by
  unfold putL
  rw [trim_getD (any_set_pad h k hx)]
  simp only [List.getD_eq_getElem?_getD, List.getElem?_set]
  by_cases e : k = j
  · subst e
    rw [if_pos rfl, if_pos (by rw [slPad_len]; omega), if_pos rfl]
    rfl
  · rw [if_neg e, if_neg (fun h => e h.symm)]
    have := pad_getD l (k + 1) j
    simpa [List.getD_eq_getElem?_getD] using this
theorem slAt_getD {lsn : Int} {l : List Sl} (h : slGood lsn l = true) (j : Nat) : slAt lsn l j = l.getD j Sl.none := by
  by_cases hj : j < l.length
  · rw [slAt_in h (List.getElem?_eq_getElem hj)]
    simp [List.getD_eq_getElem?_getD, hj]
  · rw [slAt_out (.inr (.inr (by omega)))]
    simp [List.getD_eq_getElem?_getD, List.getElem?_eq_none (Nat.le_of_not_lt hj)]
/-- Images are told apart by their slots. -/
theorem sl_ext {a b : List Sl} (ha : slLast a = true) (hb : slLast b = true) (h : ∀ j, a.getD j Sl.none = b.getD j Sl.none) : a = b := by
  have key : ∀ {a b : List Sl}, slLast b = true → (∀ j, a.getD j Sl.none = b.getD j Sl.none) → b.length ≤ a.length := by
    intro a b hb h
    rcases Nat.lt_or_ge a.length b.length with hlt | hge
    · have h1 := h (b.length - 1)
      rw [List.getD_eq_getElem?_getD, List.getD_eq_getElem?_getD, List.getElem?_eq_none (by omega)] at h1
      have hbl : b[b.length - 1]? = some (b[b.length - 1]'(by omega)) := List.getElem?_eq_getElem _
      have h2 := last_here (n := b.length - 1) (by omega) hbl
      rw [hbl] at h1
      have h3 : Sl.none = b[b.length - 1]'(by omega) := h1
      rw [hb, ← h3] at h2
      cases h2
    · exact hge
  have l1 := key hb h
  have l2 := key ha (fun j => (h j).symm)
  apply List.ext_getElem (by omega)
  intro i h1 h2
  have := h i
  simpa [List.getD_eq_getElem?_getD, h1, h2] using this
/-- Put back as it was, an image is the same. -/
theorem putL_back {lsn : Int} {l : List Sl} (h : slGood lsn l = true) (k : Nat) {x : Sl} (hx : x.odd = false) : putL (putL l k x) k (l.getD k Sl.none) = l := by
  obtain ⟨h1, h2, h3, h4, h5⟩ := (slGood_iff lsn l).1 h
  have hy : (l.getD k Sl.none).odd = false := by
    rw [List.getD_eq_getElem?_getD]
    cases hk : l[k]? with
    | none => decide +kernel
    | some y => have := List.any_eq_false.1 h3 y (List.mem_of_getElem? hk); simpa using this
  refine sl_ext (slTrim_last _) h4 (fun j => ?_)
  rw [putL_getD (putL_odd h3 k hx) k j hy, putL_getD h3 k j hx]
  by_cases e : j = k
  · rw [if_pos e, e]
  · rw [if_neg e, if_neg e]
theorem odd_of_put {lsn : Int} {l : List Sl} {k : Int} {x : Sl} (h : putBad lsn l k x = false) (hl : ¬ 200 < x.d.size) : x.odd = false := by
  obtain ⟨_, _, _, h4⟩ := putBad_not h
  unfold Sl.odd
  rcases h4 with h4 | h4
  · simp [h4]; omega
  · simp [h4]; omega
/-- When a put is made. -/
theorem putRes_ok {lsn : Int} {l : List Sl} {k : Int} {x : Sl} (h : (putRes lsn l k x).2.2 = 0) : slGood lsn l = true ∧ 0 ≤ k ∧ k < 32 ∧ x.odd = false ∧ slSize (putL l k.toNat x) ≤ 240 ∧ putRes lsn l k x = (lsn, putL l k.toNat x, 0) := by
  unfold putRes at *
  cases hb : putBad lsn l k x with
  | true => rw [hb, if_pos rfl] at h; cases h
  | false =>
    rw [hb, if_neg (by simp)] at h
    rw [if_neg (by simp)]
    by_cases hl : 200 < x.d.size
    · rw [if_pos hl] at h; cases h
    · rw [if_neg hl] at h ⊢
      by_cases hf : 240 < slSize (putL l k.toNat x)
      · rw [if_pos hf] at h; cases h
      · obtain ⟨a1, a2, a3, a4⟩ := putBad_not hb
        exact ⟨a1, by omega, by omega, odd_of_put hb hl, by omega, by rw [if_neg hf]⟩
theorem putRes_not {lsn : Int} {l : List Sl} {k : Int} {x : Sl} (h : (putRes lsn l k x).2.2 ≠ 0) : (putRes lsn l k x).1 = 0 ∧ (putRes lsn l k x).2.1 = [] := by
  unfold putRes at *
  split
  · exact ⟨rfl, rfl⟩
  · rename_i h1
    rw [if_neg h1] at h
    split
    · exact ⟨rfl, rfl⟩
    · rename_i h2
      rw [if_neg h2] at h
      split
      · exact ⟨rfl, rfl⟩
      · rename_i h3
        rw [if_neg h3] at h
        exact absurd rfl h
theorem putRes_go {lsn : Int} {l : List Sl} {k : Nat} {x : Sl} (h : slGood lsn l = true) (hk : k < 32) (hx : x.odd = false) : putRes lsn l k x = if 240 < slSize (putL l k x) then (0, [], 22) else (lsn, putL l k x, 0) := by
  have hs := odd_size hx
  have hb : putBad lsn l k x = false := by
    unfold putBad
    have h1 : ¬ ((k : Int) < 0) := by omega
    have h2 : ¬ (32 ≤ (k : Int)) := by omega
    simp [Sl.odd] at hx
    simp [h, h1, h2]
    exact hx.1
  unfold putRes
  rw [hb, if_neg (by simp), if_neg (by omega), Int.toNat_natCast]
end Go.Proofs.Ytakdagmkkelnfaa

/-! What the walks of the statements of layer 3 share. -/
namespace Go.Proofs.Ytakdagmkkelnfaa
open Go.RowKit
set_option linter.unusedVariables false
set_option linter.unusedSimpArgs false

theorem slMod_form (x : Int) (n : Nat) (h0 : 0 < n) (hn : n ≤ 100000) : ∃ a : Nat, a < n ∧ wrap64 ((IntKind.u64.wrap x).tmod (n : Int)) = a := by
  have h0' : 0 ≤ IntKind.u64.wrap x := by rw [IntKind.wrap_u64]; omega
  rw [Int.tmod_eq_emod_of_nonneg h0']
  have h1 := Int.emod_lt_of_pos (IntKind.u64.wrap x) (show (0 : Int) < n by omega)
  have h2 := Int.emod_nonneg (IntKind.u64.wrap x) (show (n : Int) ≠ 0 by omega)
  refine ⟨((IntKind.u64.wrap x) % n).toNat, by omega, ?_⟩
  rw [IntWalk.wrap64_in _ ⟨by omega, by omega⟩]
  omega
theorem great_false {l : List Sl} (h : slGreat l = false) : l.length ≤ 100 ∧ ∀ x ∈ l, x.d.size ≤ 4096 := by
  simp [slGreat] at h
  exact ⟨h.1, h.2⟩
theorem IsSlots.drew {w : World} {A : Option Addr} {n c : Nat} {l : List Sl} (h : IsSlots w A n c l) : IsSlots w.drew A n c l := h.below ((Below.refl _ w).drew)
theorem bcell {W w1 : World} (hb : Below W.heap.size W w1) : (∀ b o, b < W.heap.size → w1.cell? ⟨b, o, none⟩ = W.cell? ⟨b, o, none⟩) ∧ (∀ b o, b < W.heap.size → w1.frozen? ⟨b, o, none⟩ = W.frozen? ⟨b, o, none⟩) :=
  ⟨fun b o h => hb.cell (p := ⟨b, o, none⟩) h, fun b o h => hb.frozen (p := ⟨b, o, none⟩) h⟩
/-- A text of nothing but zeros. -/
def zeros (m : Nat) : List UInt8 := List.replicate m 0
theorem zeros_cells (m : Nat) : (List.replicate m (Value.int .u8 0)).toArray = (byteVals (zeros m) ++ []).toArray := by
  simp [byteVals, zeros]
theorem zeros_text {w : World} {g : Nat} {m : Nat} (h : Has w g (.cells (List.replicate m (.int .u8 0)).toArray 5)) : (convert 37 9 (.slice (some ⟨g, 0, none⟩) m m)).run Try.prog w = .ok (.string (bs (zeros m))) w := by
  rw [zeros_cells] at h
  have := bytes_back (cap := m) h
  rw [show (zeros m).length = m by simp [zeros]] at this
  exact this
theorem IsSlots.but2 {w w' : World} {A : Option Addr} {n c g : Nat} {l : List Sl} (h : IsSlots w A n c l) (hb : But g w w') (hne : 0 < n → ∀ b off, A = some ⟨b, off, none⟩ → b ≠ g) : IsSlots w' A n c l := by
  refine ⟨h.len, h.cap, h.most, h.size, fun hn => ?_⟩
  obtain ⟨b, off, rfl, hlt, hc⟩ := h.row hn
  have hk := hb.block b hlt (hne hn b off rfl)
  refine ⟨b, off, rfl, Nat.lt_of_lt_of_le hlt hb.size, fun i x hx => ?_⟩
  obtain ⟨h1, h2⟩ := hc i x hx
  exact ⟨(World.cell?_of_block (a := ⟨b, off + i * 2, none⟩) hk).trans h1, (World.cell?_of_block (a := ⟨b, off + i * 2 + 1, none⟩) hk).trans h2⟩
/-- A block that holds an image holds no slots. -/
theorem IsSlots.apart {w w' : World} {A : Option Addr} {n c g : Nat} {l : List Sl} {r : Int} {B : Option Addr} {m k : Nat} {t : TypeId} {fr : Nat × Nat} (h : IsSlots w A n c l) (hg : Has w g (.cells #[.int .i64 r, .slice B m k] t fr)) (hb : But g w w') : IsSlots w' A n c l := by
  refine h.but2 hb fun hn b off e => ?_
  rintro rfl
  subst e
  obtain ⟨b', off', x, e2, hx, _, c1, _⟩ := h.at hn
  obtain ⟨rfl, rfl⟩ : b' = b ∧ off' = off := by cases e2; exact ⟨rfl, rfl⟩
  have h0 := hg.cell 0 _ rfl
  have h1 := hg.cell 1 _ rfl
  unfold Has at hg
  simp only [World.cell?, hg, Nat.zero_mul, Nat.add_zero] at c1
  match off', c1 with
  | 0, c1 => simp at c1
  | 1, c1 => simp at c1
  | j + 2, c1 => simp at c1
/-- An image that a call handed back, stored into a variable that was made ahead of the call. -/
theorem close_in {w2 X w5 : World} {g : Nat} {L : List Sl} {A5 B : Option Addr} {n5 c5 m k : Nat} {r z : Int} (hX : Below w2.heap.size w2 X) (hg : w2.heap.size ≤ g) (hq : Has X g (.cells #[.int .i64 z, .slice B m k] 29)) (b5 : Below X.heap.size X w5) (I5 : IsSlots w5 A5 n5 c5 L) :
    Hid (Has ((w5.setCell ⟨g, 0, none⟩ (.int .i64 r)).setCell ⟨g, 1, none⟩ (.slice A5 n5 c5)) g (.cells #[.int .i64 r, .slice A5 n5 c5] 29)) ∧ Hid (IsSlots ((w5.setCell ⟨g, 0, none⟩ (.int .i64 r)).setCell ⟨g, 1, none⟩ (.slice A5 n5 c5)) A5 n5 c5 L) ∧
      Hid (Below w2.heap.size w2 ((w5.setCell ⟨g, 0, none⟩ (.int .i64 r)).setCell ⟨g, 1, none⟩ (.slice A5 n5 c5))) := by
  have h5 := hq.below b5
  have hb := (But.set g 0 w5 (.int .i64 r)).trans (But.set g 1 (w5.setCell ⟨g, 0, none⟩ (.int .i64 r)) (.slice A5 n5 c5))
  have hB := bup hX b5
  exact ⟨Lib.hid ((h5.set 0 _).set 1 _), Lib.hid (I5.apart h5 hb), Lib.hid (hB.trans (hb.below hg hB.size))⟩
theorem close_out {w2 X w5 : World} {L : List Sl} {A5 : Option Addr} {n5 c5 : Nat} {r : Int} (hX : Below w2.heap.size w2 X) (b5 : Below X.heap.size X w5) (I5 : IsSlots w5 A5 n5 c5 L) :
    Hid (Has (w5.alloc (.cells #[.int .i64 r, .slice A5 n5 c5] 29)) w5.heap.size (.cells #[.int .i64 r, .slice A5 n5 c5] 29)) ∧ Hid (IsSlots (w5.alloc (.cells #[.int .i64 r, .slice A5 n5 c5] 29)) A5 n5 c5 L) ∧
      Hid (Below w2.heap.size w2 (w5.alloc (.cells #[.int .i64 r, .slice A5 n5 c5] 29))) :=
  ⟨Lib.hid (Has.new _ _), Lib.hid (I5.alloc _), Lib.hid (bup (bup hX b5) (bnew _ _))⟩
end Go.Proofs.Ytakdagmkkelnfaa

/-! The reference's Put. -/
namespace Go.Proofs.Ytakdagmkkelnfaa
open Go.RowKit
set_option linter.unusedVariables false
set_option linter.unusedSimpArgs false

theorem slotElem : Elem Try.prog 27 62 2 24 (.agg #[.bool false, .string ⟨#[]⟩]) := ⟨Try.underlying27, infoSlot, rfl, by omega⟩
/-- The slice value v is the call's own row of these slots. -/
def RowS (base : Nat) (w : World) (v : Value) (q : List Sl) : Prop := w.ownsRow base 62 2 v q.length (flat q)
theorem RowS.empty (base : Nat) (w : World) (hb : base ≤ w.heap.size) : RowS base (w.alloc (.cells #[] 62)) (.slice (some ⟨w.heap.size, 0, none⟩) 0 0) [] :=
  World.ownsRow_lit w #[] 0 hb (by unfold maxLen; omega) rfl
theorem RowS.form {base : Nat} {w : World} {v : Value} {q : List Sl} (h : RowS base w v q) : ∃ A cap, v = .slice A q.length cap ∧ q.length ≤ cap ∧ cap ≤ 9223372036854775807 := ownsRow_form h
theorem IsSlots.cells {w : World} {A : Option Addr} {n c : Nat} {l : List Sl} (h : IsSlots w A n c l) : (A = none ∧ n = 0) ∨ ∃ ad, A = some ad ∧ ∀ j u, (Go.Proofs.Ytakdagmkkelnfaa.flat l)[j]? = some u → w.cell? (ad.add j) = some u := by
  by_cases hn : 0 < n
  · exact .inr (h.src hn)
  · have h0 : n = 0 := by omega
    subst h0
    have hl : l = [] := List.eq_nil_of_length_eq_zero h.len
    subst hl
    cases A with
    | none => exact .inl ⟨rfl, rfl⟩
    | some ad => exact .inr ⟨ad, rfl, by intro j u hu; simp [Go.Proofs.Ytakdagmkkelnfaa.flat] at hu⟩
theorem Has.low {w w' : World} {b B : Nat} {o : Obj} (h : Has w b o) (hb : Below B w w') (hB : b < B) : Has w' b o := by
  unfold Has at *
  rw [hb.block b hB]; exact h
theorem take_at {cur : Array Value} {q : List Sl} {M k : Nat} {y : Sl} (h : cur.toList.take (M * 2) = flat q) (hk : k < M) (hy : q[k]? = some y) : cur[k * 2]? = some (.bool y.u) ∧ cur[k * 2 + 1]? = some (.string y.d) := by
  have hf := flat_get q k y hy
  rw [← h, List.getElem?_take_of_lt (by omega), List.getElem?_take_of_lt (by omega)] at hf
  simpa using hf
theorem take_set2 {cur : Array Value} {q : List Sl} {M k : Nat} {x : Sl} (h : cur.toList.take (M * 2) = flat q) : ((cur.setIfInBounds (k * 2) (.bool x.u)).setIfInBounds (k * 2 + 1) (.string x.d)).toList.take (M * 2) = flat (q.set k x) := by
  rw [Array.toList_setIfInBounds, Array.toList_setIfInBounds, List.take_set, List.take_set, h, flat_set]
end Go.Proofs.Ytakdagmkkelnfaa

/-! What comes in, opened: a slot, a slice of slots, an image. -/
namespace Go.Proofs.Ytakdagmkkelnfaa
open Go.RowKit Go.ChangeShapes Go.WideShapes Go.Deep Go.Joins
set_option linter.unusedVariables false
set_option linter.unusedSimpArgs false

section
variable {H : Type} {enc : TypeId × Value → H} {w : World} {base : Nat} {spare : Nat → Bool} {held : Bool}
theorem cells_two {P : Program} {t : TypeId} {f0 f1 : Field} {fuel : Nat} {cs : List Value} {x : DataW H × List MemPlace} (ht : P.underlying t = some (.struct #[f0, f1])) (hone : oneCellFields P #[f0, f1] = true) (hC : P.cellsOf t = 2) (h : DataW.trod enc P w base spare held fuel t cs = some x) :
    ∃ v0 v1 y0 y1 n, cs = [v0, v1] ∧ x = (.agg [y0.1, y1.1], y0.2 ++ y1.2) ∧ DataW.trod enc P w base spare held n f0.type [v0] = some y0 ∧ DataW.trod enc P w base spare held n f1.type [v1] = some y1 := by
  obtain ⟨xs, n, _, hx, hcl, hlen, hf⟩ := DataW.trod_struct ht h
  rw [hC] at hcl
  match cs, hcl with
  | [v0, v1], _ =>
    match xs, hlen with
    | [y0, y1], _ =>
      obtain ⟨o0, k0⟩ := hone_of hone 0 f0 rfl
      obtain ⟨o1, k1⟩ := hone_of hone 1 f1 rfl
      have h0 := hf 0 f0 rfl
      have h1 := hf 1 f1 rfl
      rw [o0, k0] at h0
      rw [o1, k1] at h1
      exact ⟨v0, v1, y0, y1, n, rfl, by simpa using hx, by simpa using h0, by simpa using h1⟩
theorem slot_cells {fuel : Nat} {cs : List Value} {x : DataW H × List MemPlace} (h : DataW.trod enc Try.prog w base spare held fuel 62 cs = some x) :
    ∃ (u : Bool) (s : ByteArray), cs = [.bool u, .string s] ∧ x.1 = .agg [.lit (.bool u), .lit (.string s.data.toList)] := by
  obtain ⟨v0, v1, y0, y1, n, rfl, rfl, h0, h1⟩ := cells_two Try.underlying62 (by kernel_rfl) (by kernel_rfl) h
  obtain ⟨b, hb, rfl⟩ := DataW.trod_bool Try.underlying4 h0
  obtain ⟨s, hs, rfl, _⟩ := DataW.trod_string Try.underlying9 h1
  simp at hb hs
  subst hb hs
  exact ⟨b, s, rfl, rfl⟩
theorem slot_weight {u : Bool} {l : List UInt8} : l.length ∈ (DataW.agg [.lit (.bool u), .lit (.string l)] : DataW H).weights Try.prog 62 := by
  simp [DataW.weights, Try.underlying62, DataW.weightsEach]
theorem all_weight {P : Program} {e : TypeId} {ds : List (DataW H)} {d : DataW H} (hd : d ∈ ds) {n : Nat} (hn : n ∈ d.weights P e) : n ∈ DataW.weightsAll P e ds := by
  induction ds with
  | nil => cases hd
  | cons a r ih =>
    simp only [DataW.weightsAll, List.mem_append]
    rcases List.mem_cons.1 hd with rfl | h
    · exact .inl hn
    · exact .inr (ih h)
theorem open_slots {fuel : Nat} {cs : List Value} {x : DataW H × List MemPlace} (h : DataW.trod enc Try.prog w base spare held fuel 27 cs = some x) (hw : ∀ n ∈ x.1.weights Try.prog 27, n ≤ reachBytes) :
    ∃ A n c l, cs = [.slice A n c] ∧ IsSlots w A n c l := by
  rcases open_slice Try.underlying27 h with ⟨rfl, _⟩ | ⟨a, len, cap, m, n, D, Pl, rfl, hb, hl, hm, hmm, rfl, hi⟩
  · exact ⟨none, 0, 0, [], rfl, IsSlots.nil w⟩
  · have hC : Try.prog.cellsOf 62 = 2 := by kernel_rfl
    rw [hC] at hi
    have hlm : len ≤ m := by rw [hmm]; split <;> omega
    have key : ∀ i, i < len → ∃ x : Sl, w.cell? (a.add (i * 2)) = some (.bool x.u) ∧ w.cell? (a.add (i * 2 + 1)) = some (.string x.d) ∧ x.d.size ≤ 140737488351232 := by
      intro i hil
      obtain ⟨cs', hc, ht⟩ := hi i (by omega)
      obtain ⟨u, s, rfl, hD⟩ := slot_cells ht
      obtain ⟨_, _, hat⟩ := World.cells?_some hc
      have c0 := hat 0 (by omega)
      have c1 := hat 1 (by omega)
      rw [Go.Deep.add_add] at c0 c1
      refine ⟨⟨u, s⟩, by simpa using c0, by simpa using c1, ?_⟩
      have hDi : D i ∈ (List.range len).map D := List.mem_map.2 ⟨i, List.mem_range.2 hil, rfl⟩
      have hwt : s.data.toList.length ∈ (D i).weights Try.prog 62 := by
        have hD' : D i = .agg [.lit (.bool u), .lit (.string s.data.toList)] := hD
        rw [hD']; exact slot_weight
      have := hw s.data.toList.length (by
        simp only [DataW.weights, Try.underlying27, List.mem_cons, List.mem_append]
        exact .inr (.inl (all_weight hDi hwt)))
      have e : s.data.toList.length = s.size := Array.length_toList
      unfold reachBytes at this
      show s.size ≤ _
      omega
    by_cases h0 : len = 0
    · subst h0
      exact ⟨some a, 0, cap, [], rfl, rfl, by omega, by unfold maxLen at hm; omega, by simp, by omega⟩
    · obtain ⟨x0, hx0, _, _⟩ := key 0 (by omega)
      have hsp : a.spot = none := by simpa [Addr.add] using World.cell?_spot hx0
      obtain ⟨b, off, sp⟩ := a
      simp only at hsp
      subst hsp
      have ea : ∀ j, (⟨b, off, none⟩ : Addr).add j = ⟨b, off + j, none⟩ := by intro j; unfold Addr.add; split <;> simp_all
      obtain ⟨f, hf⟩ : ∃ f : Nat → Sl, ∀ i, i < len → w.cell? ((⟨b, off, none⟩ : Addr).add (i * 2)) = some (.bool (f i).u) ∧ w.cell? ((⟨b, off, none⟩ : Addr).add (i * 2 + 1)) = some (.string (f i).d) ∧ (f i).d.size ≤ 140737488351232 := by
        refine ⟨fun i => if hi : i < len then Classical.choose (key i hi) else Sl.none, fun i hi => ?_⟩
        simp only [hi, dite_true]
        exact Classical.choose_spec (key i hi)
      refine ⟨_, len, cap, (List.range len).map f, rfl, by simp, hl, by unfold maxLen at hm; omega, ?_, fun _ => ⟨b, off, rfl, ?_, ?_⟩⟩
      · intro x hx
        obtain ⟨i, hi, rfl⟩ := List.mem_map.1 hx
        exact (hf i (List.mem_range.1 hi)).2.2
      · have := (hf 0 (by omega)).1
        exact block_lt_of_cell this
      · intro i x hx
        have hil : i < len := by have := (List.getElem?_eq_some_iff.1 hx).1; simpa using this
        have hxf : x = f i := by simp [hil] at hx; exact hx.symm
        subst hxf
        obtain ⟨h1, h2, _⟩ := hf i hil
        rw [ea] at h1 h2
        exact ⟨h1, by rw [← h2]; congr 2⟩
/-- A slot that came in. -/
theorem open_slot {r : Reach} {b0 : Nat} {v : Value} {d : DataW H} {p : List MemPlace} (hv : Value.okWide Try.prog w r b0 62 v) (h : DataW.Trod enc Try.prog w base spare held 62 v d p) (hw : ∀ n ∈ d.weights Try.prog 62, n ≤ reachBytes) :
    ∃ x : Sl, v = .agg #[.bool x.u, .string x.d] ∧ x.d.size ≤ 140737488351232 := by
  obtain ⟨v0, v1, y0, y1, n, rfl, rfl, rfl, h0, h1⟩ := open_agg2 Try.underlying62 (by kernel_rfl) (by kernel_rfl) hv h
  obtain ⟨b, hb, rfl⟩ := DataW.trod_bool Try.underlying4 h0
  obtain ⟨s, hs, rfl, _⟩ := DataW.trod_string Try.underlying9 h1
  simp at hb hs
  subst hb hs
  refine ⟨⟨b, s⟩, rfl, ?_⟩
  have := hw _ (slot_weight (u := b) (l := s.data.toList))
  have e : s.data.toList.length = s.size := Array.length_toList
  unfold reachBytes at this
  show s.size ≤ _
  omega
/-- An image that came in. -/
theorem open_page {r : Reach} {b0 : Nat} {v : Value} {d : DataW H} {p : List MemPlace} (hv : Value.okWide Try.prog w r b0 29 v) (h : DataW.Trod enc Try.prog w base spare held 29 v d p) (hw : ∀ n ∈ d.weights Try.prog 29, n ≤ reachBytes) :
    ∃ lsn A n c l, v = .agg #[.int .i64 lsn, .slice A n c] ∧ IsSlots w A n c l ∧ (Lit.int .i64 lsn).wf = true := by
  obtain ⟨v0, v1, y0, y1, n, rfl, rfl, rfl, h0, h1⟩ := open_agg2 Try.underlying29 (by kernel_rfl) (by kernel_rfl) hv h
  obtain ⟨k, hk, rfl, hwf⟩ := DataW.trod_int Try.underlying3 h0
  simp at hk
  subst hk
  obtain ⟨A, n', c, l, hc, I⟩ := open_slots h1 (by
    intro m hm
    refine hw m ?_
    simp only [DataW.weights, Try.underlying29, DataW.weightsEach, List.map_cons, List.mem_append]
    right; left; exact hm)
  simp at hc
  subst hc
  exact ⟨k, A, n', c, l, rfl, I, hwf⟩
end
end Go.Proofs.Ytakdagmkkelnfaa
