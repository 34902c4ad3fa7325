/-
  Images in plain words: slots, sizes, which can be.
-/
import Derived.Test.YtklmoigpalhlmaaBytes
namespace Go.Proofs.Ytklmoigpalhlmaa
open Go.RowKit

/-- A slot: whether it is used, and its data. -/
structure Sl where
  u : Bool
  d : ByteArray
def Sl.val (x : Sl) : Value := .agg #[.bool x.u, .string x.d]
def Sl.none : Sl := ⟨false, ⟨#[]⟩⟩
def Sl.odd (x : Sl) : Bool := (!x.u && !x.d.toList.isEmpty) || decide (200 < x.d.size)
def slSum (l : List Sl) : Nat := (l.map fun x => 1 + x.d.size).sum
def slSize (l : List Sl) : Nat := 9 + slSum l
theorem slSum_snoc (l : List Sl) (x : Sl) : slSum (l ++ [x]) = slSum l + (1 + x.d.size) := by simp [slSum]
theorem slSum_append (l m : List Sl) : slSum (l ++ m) = slSum l + slSum m := by simp [slSum]
theorem slSum_take (l : List Sl) (k : Nat) (x : Sl) (h : l[k]? = some x) : slSum (l.take (k + 1)) = slSum (l.take k) + (1 + x.d.size) := by
  rw [List.take_add_one, h]; exact slSum_snoc _ _
theorem slSum_take_le (l : List Sl) (k : Nat) : slSum (l.take k) ≤ slSum l := by
  conv => rhs; rw [← List.take_append_drop k l]
  rw [slSum_append]; omega
theorem slSum_le (l : List Sl) (m : Nat) (h : ∀ x ∈ l, x.d.size ≤ m) : slSum l ≤ l.length * (1 + m) := by
  induction l with
  | nil => simp [slSum]
  | cons a l ih =>
    have h1 := h a (by simp)
    have h2 := ih (fun x hx => h x (by simp [hx]))
    have e : slSum (a :: l) = (1 + a.d.size) + slSum l := rfl
    rw [e, List.length_cons, Nat.add_mul, Nat.one_mul]; omega
/-- The last slot, if there is one, has something. -/
def slLast (l : List Sl) : Bool := match l.getLast? with
  | Option.none => true
  | some x => x.u
/-- Whether an image can be. -/
def slGood (lsn : Int) (l : List Sl) : Bool :=
  decide (0 ≤ lsn ∧ lsn ≤ 1099511627776) && (decide (l.length ≤ 32) && (!(l.any Sl.odd) && (slLast l && decide (slSize l ≤ 240))))
theorem slGood_iff (lsn : Int) (l : List Sl) : slGood lsn l = true ↔ (0 ≤ lsn ∧ lsn ≤ 1099511627776) ∧ l.length ≤ 32 ∧ l.any Sl.odd = false ∧ slLast l = true ∧ slSize l ≤ 240 := by
  simp [slGood]
theorem odd_size {x : Sl} (h : x.odd = false) : x.d.size ≤ 200 := by simp [Sl.odd] at h; omega
theorem any_odd_sizes {l : List Sl} (h : l.any Sl.odd = false) : ∀ x ∈ l, x.d.size ≤ 200 := by
  intro x hx
  have := List.any_eq_false.1 h x hx
  exact odd_size (by simpa using this)
/-- A slice of slots in memory, nil let in. -/
structure IsSlots (w : World) (A : Option Addr) (n c : Nat) (l : List Sl) : Prop where
  len : l.length = n
  cap : n ≤ c
  most : c ≤ 9223372036854775807
  size : ∀ x ∈ l, x.d.size ≤ 140737488351232
  row : 0 < n → ∃ b off, A = some ⟨b, off, Option.none⟩ ∧ b < w.heap.size ∧ ∀ i x, l[i]? = some x → w.cell? ⟨b, off + i * 2, Option.none⟩ = some (.bool x.u) ∧ w.cell? ⟨b, off + i * 2 + 1, Option.none⟩ = some (.string x.d)
theorem IsSlots.nil (w : World) : IsSlots w Option.none 0 0 [] := ⟨rfl, by omega, by omega, by simp, by omega⟩
theorem IsSlots.below {w w' : World} {A : Option Addr} {n c : Nat} {l : List Sl} (h : IsSlots w A n c l) (hb : Below w.heap.size w w') : IsSlots w' A n c l := by
  refine ⟨h.len, h.cap, h.most, h.size, fun hn => ?_⟩
  obtain ⟨b, off, rfl, hlt, hc⟩ := h.row hn
  refine ⟨b, off, rfl, Nat.lt_of_lt_of_le hlt hb.size, fun i x hx => ?_⟩
  obtain ⟨h1, h2⟩ := hc i x hx
  exact ⟨(hb.cell (p := ⟨b, off + i * 2, Option.none⟩) hlt).trans h1, (hb.cell (p := ⟨b, off + i * 2 + 1, Option.none⟩) hlt).trans h2⟩
theorem IsSlots.alloc {w : World} {A : Option Addr} {n c : Nat} {l : List Sl} (h : IsSlots w A n c l) (o : Obj) : IsSlots (w.alloc o) A n c l := h.below (bnew w o)
theorem IsSlots.at {w : World} {A : Option Addr} {n c : Nat} {l : List Sl} (h : IsSlots w A n c l) {k : Nat} (hk : k < n) :
    ∃ b off x, A = some ⟨b, off, Option.none⟩ ∧ l[k]? = some x ∧ b < w.heap.size ∧ w.cell? ⟨b, off + k * 2, Option.none⟩ = some (.bool x.u) ∧ w.cell? ⟨b, off + k * 2 + 1, Option.none⟩ = some (.string x.d) ∧ x.d.size ≤ 140737488351232 := by
  obtain ⟨b, off, rfl, hlt, hc⟩ := h.row (by omega)
  have hl : k < l.length := by have := h.len; omega
  have hx : l[k]? = some l[k] := List.getElem?_eq_getElem hl
  obtain ⟨h1, h2⟩ := hc k _ hx
  exact ⟨b, off, l[k], rfl, hx, hlt, h1, h2, h.size _ (List.getElem_mem hl)⟩
/-- Where the first one of a kind stands; -1: there is none. -/
def slIdx (p : Sl → Bool) (l : List Sl) : Int := if l.any p then (l.findIdx p : Int) else -1
theorem slIdx_none {p : Sl → Bool} {l : List Sl} (h : l.any p = false) : slIdx p l = -1 := by simp [slIdx, h]
theorem any_take_snoc {p : Sl → Bool} {l : List Sl} {k : Nat} {x : Sl} (hx : l[k]? = some x) (h : (l.take k).any p = false) (hp : p x = false) : (l.take (k + 1)).any p = false := by
  rw [List.take_add_one, hx, List.any_append, h]; simp [hp]
theorem slIdx_here {p : Sl → Bool} {l : List Sl} {k : Nat} {x : Sl} (hx : l[k]? = some x) (h : (l.take k).any p = false) (hp : p x = true) : slIdx p l = (k : Int) := by
  have hk : k < l.length := (List.getElem?_eq_some_iff.1 hx).1
  have hl : l.any p = true := List.any_eq_true.2 ⟨x, List.mem_of_getElem? hx, hp⟩
  have hf : l.findIdx p = k := by
    rw [List.findIdx_eq hk]
    have hxx : l[k] = x := (List.getElem?_eq_some_iff.1 hx).2
    refine ⟨by rw [hxx]; exact hp, fun j hj => ?_⟩
    have := List.any_eq_false.1 h (l[j]'(by omega)) (by rw [List.mem_take_iff_getElem]; exact ⟨j, by omega, rfl⟩)
    simpa using this
  simp [slIdx, hl, hf]
theorem slIdx_ge (p : Sl → Bool) (l : List Sl) : (decide (0 ≤ slIdx p l)) = l.any p := by
  unfold slIdx; split <;> simp_all
end Go.Proofs.Ytklmoigpalhlmaa
