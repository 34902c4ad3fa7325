/-
  Images in plain words: slots, sizes, which can be.
-/
import Derived.Test.YtakdagmkkelnfaaBase
import Derived.Deep.QuietTactic
import Derived.BigQuiet
import Derived.Outline
/-! Images in plain words: slots, sizes, which can be. -/
namespace Go.Proofs.Ytakdagmkkelnfaa
open Go.RowKit

/-- A slot: whether it is used, and its data. -/
structure Sl where
  u : Bool
  d : ByteArray
def Sl.val (x : Sl) : Value := .agg #[.bool x.u, .string x.d]
def Sl.none : Sl := ⟨false, ⟨#[]⟩⟩
def Sl.odd (x : Sl) : Bool := (!x.u && !x.d.toList.isEmpty) || decide (200 < x.d.size)
def slSum (l : List Sl) : Nat := (l.map fun x => 1 + x.d.size).sum
def slSize (l : List Sl) : Nat := 9 + slSum l
theorem slSum_snoc (l : List Sl) (x : Sl) : slSum (l ++ [x]) = slSum l + (1 + x.d.size) := by simp [slSum]
theorem slSum_append (l m : List Sl) : slSum (l ++ m) = slSum l + slSum m := by simp [slSum]
theorem slSum_take (l : List Sl) (k : Nat) (x : Sl) (h : l[k]? = some x) : slSum (l.take (k + 1)) = slSum (l.take k) + (1 + x.d.size) := by
  rw [List.take_add_one, h]; exact slSum_snoc _ _
theorem slSum_take_le (l : List Sl) (k : Nat) : slSum (l.take k) ≤ slSum l := by
  conv => rhs; rw [← List.take_append_drop k l]
  rw [slSum_append]; omega
theorem slSum_le (l : List Sl) (m : Nat) (h : ∀ x ∈ l, x.d.size ≤ m) : slSum l ≤ l.length * (1 + m) := by
  induction l with
  | nil => simp [slSum]
  | cons a l ih =>
    have h1 := h a (by simp)
    have h2 := ih (fun x hx => h x (by simp [hx]))
    have e : slSum (a :: l) = (1 + a.d.size) + slSum l := rfl
    rw [e, List.length_cons, Nat.add_mul, Nat.one_mul]; omega
/-- The last slot, if there is one, has something. -/
def slLast (l : List Sl) : Bool := match l.getLast? with
  | Option.none => true
  | some x => x.u
/-- Whether an image can be. -/
def slGood (lsn : Int) (l : List Sl) : Bool :=
  decide (0 ≤ lsn ∧ lsn ≤ 1099511627776) && (decide (l.length ≤ 32) && (!(l.any Sl.odd) && (slLast l && decide (slSize l ≤ 240))))
theorem slGood_iff (lsn : Int) (l : List Sl) : slGood lsn l = true ↔ (0 ≤ lsn ∧ lsn ≤ 1099511627776) ∧ l.length ≤ 32 ∧ l.any Sl.odd = false ∧ slLast l = true ∧ slSize l ≤ 240 := by
  simp [slGood]
theorem odd_size {x : Sl} (h : x.odd = false) : x.d.size ≤ 200 := by simp [Sl.odd] at h; omega
theorem any_odd_sizes {l : List Sl} (h : l.any Sl.odd = false) : ∀ x ∈ l, x.d.size ≤ 200 := by
  intro x hx
  have := List.any_eq_false.1 h x hx
  exact odd_size (by simpa using this)
/-- A slice of slots in memory, nil let in. -/
structure IsSlots (w : World) (A : Option Addr) (n c : Nat) (l : List Sl) : Prop where
  len : l.length = n
  cap : n ≤ c
  most : c ≤ 9223372036854775807
  size : ∀ x ∈ l, x.d.size ≤ 140737488351232
  row : 0 < n → ∃ b off, A = some ⟨b, off, Option.none⟩ ∧ b < w.heap.size ∧ ∀ i x, l[i]? = some x → w.cell? ⟨b, off + i * 2, Option.none⟩ = some (.bool x.u) ∧ w.cell? ⟨b, off + i * 2 + 1, Option.none⟩ = some (.string x.d)
theorem IsSlots.nil (w : World) : IsSlots w Option.none 0 0 [] := ⟨rfl, by omega, by omega, by simp, by omega⟩
theorem IsSlots.below {w w' : World} {A : Option Addr} {n c : Nat} {l : List Sl} (h : IsSlots w A n c l) (hb : Below w.heap.size w w') : IsSlots w' A n c l := by
  refine ⟨h.len, h.cap, h.most, h.size, fun hn => ?_⟩
  obtain ⟨b, off, rfl, hlt, hc⟩ := h.row hn
  refine ⟨b, off, rfl, Nat.lt_of_lt_of_le hlt hb.size, fun i x hx => ?_⟩
  obtain ⟨h1, h2⟩ := hc i x hx
  exact ⟨(hb.cell (p := ⟨b, off + i * 2, Option.none⟩) hlt).trans h1, (hb.cell (p := ⟨b, off + i * 2 + 1, Option.none⟩) hlt).trans h2⟩
theorem IsSlots.alloc {w : World} {A : Option Addr} {n c : Nat} {l : List Sl} (h : IsSlots w A n c l) (o : Obj) : IsSlots (w.alloc o) A n c l := h.below (bnew w o)
theorem IsSlots.at {w : World} {A : Option Addr} {n c : Nat} {l : List Sl} (h : IsSlots w A n c l) {k : Nat} (hk : k < n) :
    ∃ b off x, A = some ⟨b, off, Option.none⟩ ∧ l[k]? = some x ∧ b < w.heap.size ∧ w.cell? ⟨b, off + k * 2, Option.none⟩ = some (.bool x.u) ∧ w.cell? ⟨b, off + k * 2 + 1, Option.none⟩ = some (.string x.d) ∧ x.d.size ≤ 140737488351232 := by
  obtain ⟨b, off, rfl, hlt, hc⟩ := h.row (by omega)
  have hl : k < l.length := by have := h.len; omega
  have hx : l[k]? = some l[k] := List.getElem?_eq_getElem hl
  obtain ⟨h1, h2⟩ := hc k _ hx
  exact ⟨b, off, l[k], rfl, hx, hlt, h1, h2, h.size _ (List.getElem_mem hl)⟩
/-- Where the first one of a kind stands; -1: there is none. -/
def slIdx (p : Sl → Bool) (l : List Sl) : Int := if l.any p then (l.findIdx p : Int) else -1
theorem slIdx_none {p : Sl → Bool} {l : List Sl} (h : l.any p = false) : slIdx p l = -1 := by simp [slIdx, h]
theorem any_take_snoc {p : Sl → Bool} {l : List Sl} {k : Nat} {x : Sl} (hx : l[k]? = some x) (h : (l.take k).any p = false) (hp : p x = false) : (l.take (k + 1)).any p = false := by
  rw [List.take_add_one, hx, List.any_append, h]; simp [hp]
theorem slIdx_here {p : Sl → Bool} {l : List Sl} {k : Nat} {x : Sl} (hx : l[k]? = some x) (h : (l.take k).any p = false) (hp : p x = true) : slIdx p l = (k : Int) := by
  have hk : k < l.length := (List.getElem?_eq_some_iff.1 hx).1
  have hl : l.any p = true := List.any_eq_true.2 ⟨x, List.mem_of_getElem? hx, hp⟩
  have hf : l.findIdx p = k := by
    rw [List.findIdx_eq hk]
    have hxx : l[k] = x := (List.getElem?_eq_some_iff.1 hx).2
    refine ⟨by rw [hxx]; exact hp, fun j hj => ?_⟩
    have := List.any_eq_false.1 h (l[j]'(by omega)) (by rw [List.mem_take_iff_getElem]; exact ⟨j, by omega, rfl⟩)
    simpa using this
  simp [slIdx, hl, hf]
theorem slIdx_ge (p : Sl → Bool) (l : List Sl) : (decide (0 ≤ slIdx p l)) = l.any p := by
  unfold slIdx; split <;> simp_all
end Go.Proofs.Ytakdagmkkelnfaa

/-! Slots: the small functions, and going over them. -/
namespace Go.Proofs.Ytakdagmkkelnfaa
open Go.RowKit

set_option maxRecDepth 100000 in
theorem isOdd_any (x : Sl) (hd : x.d.size ≤ 140737488351232) (w : World) :
    Calls Try.prog 57 #[x.val] w fun r w' => r = .returned (.bool x.odd) ∧ Below w.heap.size w w' := by
  obtain ⟨u, d⟩ := x
  simp only [Sl.val, Sl.odd] at *
  by_cases h1 : 200 < d.size <;> by_cases h2 : d.toList = [] <;> cases u <;>
  · go_enter Try.func57, Try.ntmps57
    go_wp2_with fail
    all_goals
      go_ret
      refine ⟨congrArg (fun b => Ending.returned (.bool b)) ?_, bnew _ _⟩
      first | (simp [h1, h2]; done) | (simp [h1, h2]; omega)
def Sl.free (x : Sl) : Bool := !x.u
set_option maxRecDepth 100000 in
set_option maxHeartbeats 1000000 in
theorem idxOdd_any (A : Option Addr) (n c : Nat) (l : List Sl) (w : World) (h : IsSlots w A n c l) :
    Calls Try.prog 73 #[.slice A n c, .func (.func 57) #[] #[]] w fun r w' => r = .returned (.int .i64 (slIdx Sl.odd l)) ∧ Below w.heap.size w w' := by
  have hcap := h.cap
  have hmost := h.most
  have H := Lib.hid h
  clear h
  go_enter Try.func73, Try.ntmps73
  go_wp2_with fail
  go_loopw [8] (fun i wr => ∃ k : Nat, k ≤ n ∧ i = .int .i64 k ∧ Hid ((l.take k).any Sl.odd = false) ∧ Below w.heap.size w wr) (fun i _ => n - (intOf i).toNat)
  case atStart => exact ⟨0, by omega, rfl, Lib.hid rfl, Below.refl _ _⟩
  case round =>
    obtain ⟨k, hk, rfl, Hn, hb⟩ := hrel
    by_cases hlt : k < n
    · obtain ⟨b, off, x, rfl, hx, hbl, h1, h2, hs⟩ := (H.out.below hb).at hlt
      have Hx := Lib.hid hx
      have Hb := Lib.hid hb
      clear hx hb
      go_wp2_with fail
      refine (isOdd_any x (by omega) _).mono ?_
      rintro e w1 ⟨rfl, b1⟩
      cases hp : Sl.odd x with
      | true =>
        have HX := Lib.hid (slIdx_here Hx.out Hn.out hp)
        have Hp := Lib.hid hp
        clear hp
        go_wp2
        go_ret
        exact ⟨by rw [HX.out]; rfl, bup Hb.out b1⟩
      | false =>
        have HX := Lib.hid (any_take_snoc Hx.out Hn.out hp)
        have Hp := Lib.hid hp
        clear hp
        go_wp2
        go_roundw
        case rel => exact ⟨k + 1, by omega, by go_num, HX, bup Hb.out b1⟩
        case measure => simp [intOf]; omega
    · have hkn : l.take k = l := List.take_of_length_le (by have := H.out.len; omega)
      rw [hkn] at Hn
      have HX := Lib.hid (slIdx_none Hn.out)
      clear hkn
      go_wp2
      go_ret
      exact ⟨by rw [HX.out]; rfl, hb⟩
set_option maxRecDepth 100000 in
theorem hasOdd_any (A : Option Addr) (n c : Nat) (l : List Sl) (w : World) (h : IsSlots w A n c l) :
    Calls Try.prog 56 #[.slice A n c, .func (.func 57) #[] #[]] w fun r w' => r = .returned (.bool (l.any Sl.odd)) ∧ Below w.heap.size w w' := by
  have C := Lib.hid (fun w h => idxOdd_any A n c l w h)
  have HX := Lib.hid (slIdx_ge Sl.odd l)
  obtain ⟨z, hz⟩ : ∃ z, slIdx Sl.odd l = z := ⟨_, rfl⟩
  rw [hz] at C HX
  clear hz
  have H := Lib.hid h
  clear h
  go_enter Try.func56, Try.ntmps56
  go_wp2_with fail
  refine (C.out _ H.out).mono ?_
  rintro e w1 ⟨rfl, b1⟩
  go_wp2
  go_ret
  exact ⟨congrArg (fun b => Ending.returned (.bool b)) HX.out, b1⟩
set_option maxRecDepth 100000 in
set_option maxHeartbeats 1000000 in
theorem size_any (A : Option Addr) (n c : Nat) (l : List Sl) (w : World) (h : IsSlots w A n c l) (hm : slSize l ≤ 4611686018427387904) :
    Calls Try.prog 58 #[.slice A n c] w fun r w' => r = .returned (.int .i64 (slSize l : Nat)) ∧ Below w.heap.size w w' := by
  have hcap := h.cap
  have hmost := h.most
  have H := Lib.hid h
  have Hm := Lib.hid hm
  clear h hm
  go_enter Try.func58, Try.ntmps58
  go_wp2_with fail
  go_loopw [3, 8] (fun s i wr => ∃ k m : Nat, k ≤ n ∧ i = .int .i64 k ∧ s = .int .i64 m ∧ Hid (m = slSize (l.take k)) ∧ Below w.heap.size w wr) (fun _ i _ => n - (intOf i).toNat)
  case atStart => exact ⟨0, 9, by omega, rfl, rfl, Lib.hid rfl, Below.refl _ _⟩
  case round =>
    obtain ⟨k, m, hk, rfl, rfl, Hn, hb⟩ := hrel
    by_cases hlt : k < n
    · obtain ⟨b, off, x, rfl, hx, hbl, h1, h2, hs⟩ := (H.out.below hb).at hlt
      have h3 := slSum_take l k x hx
      have h4 := slSum_take_le l (k + 1)
      have hmn := Hn.out
      have hmm := Hm.out
      have hle : m + 1 + x.d.size ≤ 4611686018427387904 := by unfold slSize at hmn hmm; omega
      have HX : Hid (m + (1 + x.d.size) = slSize (l.take (k + 1))) := Lib.hid (by unfold slSize at hmn ⊢; omega)
      have Hb := Lib.hid hb
      clear hx hb h3 h4 hmn hmm
      go_wp2_with fail
      go_roundw
      case rel => exact ⟨k + 1, m + (1 + x.d.size), by omega, by go_num, by go_num, HX, bup Hb.out (bnew _ _)⟩
      case measure => simp [intOf]; omega
    · have hkn : l.take k = l := List.take_of_length_le (by have := H.out.len; omega)
      rw [hkn] at Hn
      go_wp2
      go_ret
      exact ⟨by rw [← Hn.out]; rfl, hb⟩
/-- The size as the reference reckons it. -/
def rfSum (l : List Sl) : Nat := (l.map fun x => 1 + min x.d.size 1000).sum
def rfSize (l : List Sl) : Nat := 9 + rfSum (l.take 33)
theorem rfSum_take (l : List Sl) (k : Nat) (x : Sl) (h : l[k]? = some x) : rfSum (l.take (k + 1)) = rfSum (l.take k) + (1 + min x.d.size 1000) := by
  rw [List.take_add_one, h]; simp [rfSum]
theorem rfSum_le (l : List Sl) : rfSum l ≤ l.length * 1001 := by
  induction l with
  | nil => simp [rfSum]
  | cons a l ih =>
    have e : rfSum (a :: l) = (1 + min a.d.size 1000) + rfSum l := rfl
    rw [e, List.length_cons, Nat.add_mul]; omega
theorem rfSum_eq (l : List Sl) (h : ∀ x ∈ l, x.d.size ≤ 200) : rfSum l = slSum l := by
  induction l with
  | nil => rfl
  | cons a l ih =>
    have e : rfSum (a :: l) = (1 + min a.d.size 1000) + rfSum l := rfl
    have e2 : slSum (a :: l) = (1 + a.d.size) + slSum l := rfl
    have := h a (by simp)
    rw [e, e2, ih (fun x hx => h x (by simp [hx]))]; omega
theorem rfSize_eq (l : List Sl) (h : ∀ x ∈ l, x.d.size ≤ 200) (hl : l.length ≤ 33) : rfSize l = slSize l := by
  unfold rfSize slSize
  rw [List.take_of_length_le hl, rfSum_eq l h]
set_option maxRecDepth 100000 in
set_option maxHeartbeats 1000000 in
theorem refSize_any (lsn : Int) (A : Option Addr) (n c : Nat) (l : List Sl) (w : World) (h : IsSlots w A n c l) :
    Calls Try.prog 66 #[.agg #[.int .i64 lsn, .slice A n c]] w fun r w' => r = .returned (.int .i64 (rfSize l : Nat)) ∧ Below w.heap.size w w' := by
  have hcap := h.cap
  have hmost := h.most
  have hlen := h.len
  have H := Lib.hid h
  clear h
  go_enter Try.func66, Try.ntmps66
  go_wp2_with fail
  go_loopw [3, 4] (fun s i wr => ∃ k m : Nat, k ≤ n ∧ k ≤ 33 ∧ m ≤ 100000 ∧ i = .int .i64 k ∧ s = .int .i64 m ∧ Hid (m = 9 + rfSum (l.take k)) ∧ wr = w.alloc (.cells #[.int .i64 lsn, .slice A n c] 29)) (fun _ i _ => n - (intOf i).toNat)
  case atStart => exact ⟨0, 9, by omega, by omega, by omega, rfl, rfl, Lib.hid rfl, rfl⟩
  case round =>
    obtain ⟨k, m, hk, hk2, hm2, rfl, rfl, Hn, rfl⟩ := hrel
    by_cases hlt : k < n
    · by_cases hl3 : k < 33
      · obtain ⟨b, off, x, rfl, hx, hbl, h1, h2, hs⟩ := (H.out.alloc (.cells #[.int .i64 lsn, .slice A n c] 29)).at hlt
        have h3 := rfSum_take l k x hx
        have h5 := rfSum_le (l.take (k + 1))
        have hmn := Hn.out
        have h6 : (l.take (k + 1)).length = k + 1 := by simp; omega
        rw [h6] at h5
        have hle : m + (1 + min x.d.size 1000) ≤ 100000 := by omega
        have HX : Hid (m + (1 + min x.d.size 1000) = 9 + rfSum (l.take (k + 1))) := Lib.hid (by omega)
        clear hx h3 h5 hmn h6
        by_cases hsz : x.d.size ≤ 1000
        · rw [Nat.min_eq_left hsz] at HX hle
          go_wp2_with fail
          go_roundw
          case rel => exact ⟨k + 1, m + (1 + x.d.size), by omega, by omega, by omega, by go_num, by go_num, HX, trivial⟩
          case measure => simp [intOf]; omega
        · rw [Nat.min_eq_right (by omega)] at HX hle
          go_wp2_with fail
          go_roundw
          case rel => exact ⟨k + 1, m + (1 + 1000), by omega, by omega, by omega, by go_num, by go_num, HX, trivial⟩
          case measure => simp [intOf]; omega
      · have hkn : k = 33 := by omega
        subst hkn
        go_wp2
        go_ret
        exact ⟨by rw [rfSize, ← Hn.out]; rfl, bnew _ _⟩
    · have hkn : l.take k = l.take 33 := by rw [List.take_of_length_le (by omega), List.take_of_length_le (by omega)]
      rw [hkn] at Hn
      go_wp2
      go_ret
      exact ⟨by rw [rfSize, ← Hn.out]; rfl, bnew _ _⟩
end Go.Proofs.Ytakdagmkkelnfaa

/-! Which images can be, and their size: both answers. -/
namespace Go.Proofs.Ytakdagmkkelnfaa
open Go.RowKit

theorem slots_small {w : World} {A : Option Addr} {n c : Nat} {l : List Sl} (h : IsSlots w A n c l) (hn : n ≤ 100) : slSize l ≤ 4611686018427387904 := by
  have h1 := slSum_le l 140737488351232 h.size
  have h2 := h.len
  have h3 : l.length * (1 + 140737488351232) ≤ 100 * (1 + 140737488351232) := Nat.mul_le_mul_right _ (by omega)
  unfold slSize; omega
theorem last_here {l : List Sl} {n : Nat} {x : Sl} (hl : l.length = n + 1) (hx : l[n]? = some x) : slLast l = x.u := by
  unfold slLast
  rw [List.getLast?_eq_getElem?, hl]
  simp [hx]
set_option maxRecDepth 100000 in
set_option maxHeartbeats 1000000 in
theorem pgood_any (lsn : Int) (A : Option Addr) (n c : Nat) (l : List Sl) (w : World) (h : IsSlots w A n c l) :
    Calls Try.prog 32 #[.agg #[.int .i64 lsn, .slice A n c]] w fun r w' => r = .returned (.bool (slGood lsn l)) ∧ Below w.heap.size w w' := by
  have hcap := h.cap
  have hmost := h.most
  have hlen := h.len
  obtain ⟨G, hG⟩ : ∃ G, slGood lsn l = G := ⟨_, rfl⟩
  rw [hG]
  have HG := Lib.hid hG
  clear hG
  have H := Lib.hid h
  clear h
  by_cases l1 : lsn < 0
  · go_enter Try.func32, Try.ntmps32
    go_wp2_with fail
    go_ret
    exact ⟨by rw [← HG.out]; simp [slGood]; omega, bnew _ _⟩
  by_cases l2 : 1099511627776 < lsn
  · go_enter Try.func32, Try.ntmps32
    go_wp2_with fail
    go_ret
    exact ⟨by rw [← HG.out]; simp [slGood]; omega, bnew _ _⟩
  by_cases l3 : 32 < n
  · go_enter Try.func32, Try.ntmps32
    go_wp2_with fail
    go_ret
    exact ⟨by rw [← HG.out]; simp [slGood]; omega, bnew _ _⟩
  have CO := Lib.hid (fun w h => hasOdd_any A n c l w h)
  have CS := Lib.hid (fun w h => size_any A n c l w h (slots_small H.out (by omega)))
  cases ho : l.any Sl.odd with
  | true =>
    have HR : Hid (G = false) := Lib.hid (by rw [← HG.out]; simp [slGood, ho])
    rw [ho] at CO
    clear ho
    go_enter Try.func32, Try.ntmps32
    go_wp2_with fail
    refine (CO.out _ (H.out.alloc _)).mono ?_
    rintro e w1 ⟨rfl, b1⟩
    go_wp2_with fail
    go_ret
    exact ⟨by rw [HR.out]; rfl, bup (bnew _ _) b1⟩
  | false =>
    rw [ho] at CO
    have Ho := Lib.hid ho
    clear ho
    by_cases n0 : n = 0
    · subst n0
      have hl0 : l = [] := List.eq_nil_of_length_eq_zero hlen
      have hs : slSize l = 9 := by rw [hl0]; rfl
      have HR : Hid (G = true) := Lib.hid (by rw [← HG.out, hl0]; simp [slGood, slLast, slSize, slSum]; omega)
      rw [hs] at CS
      clear hs hl0
      go_enter Try.func32, Try.ntmps32
      go_wp2_with fail
      refine (CO.out _ (H.out.alloc _)).mono ?_
      rintro e w1 ⟨rfl, b1⟩
      have H1 := Lib.hid ((H.out.alloc _).below b1)
      have K := (Has.new w _).below b1
      have k1 := K.cell 1 _ rfl
      go_wp2_with fail
      refine (CS.out _ H1.out).mono ?_
      rintro e w2 ⟨rfl, b2⟩
      go_wp2_with fail
      go_ret
      exact ⟨by rw [HR.out]; rfl, bup (bup (bnew _ _) b1) b2⟩
    · obtain ⟨m, rfl⟩ : ∃ m, n = m + 1 := ⟨n - 1, by omega⟩
      obtain ⟨b, off, x, rfl, hx, hbl, h1, h2, hs⟩ := H.out.at (show m < m + 1 by omega)
      have hlast := last_here hlen hx
      obtain ⟨S, hS⟩ : ∃ S, slSize l = S := ⟨_, rfl⟩
      rw [hS] at CS
      have HR : Hid (G = (x.u && decide ((S : Int) ≤ 240))) := Lib.hid (by
        rw [← HG.out]
        unfold slGood
        rw [Ho.out, hlast, hS, decide_eq_true (p := 0 ≤ lsn ∧ lsn ≤ 1099511627776) (by omega), decide_eq_true (p := l.length ≤ 32) (by omega)]
        simp only [Bool.true_and, Bool.not_false]
        congr 1
        simp only [decide_eq_decide]
        omega)
      clear hx hlast hS
      obtain ⟨u, d⟩ := x
      simp only at h1 h2 hs HR
      cases u with
      | false =>
        go_enter Try.func32, Try.ntmps32
        go_wp2_with fail
        refine (CO.out _ (H.out.alloc _)).mono ?_
        rintro e w1 ⟨rfl, b1⟩
        have H1 := Lib.hid ((H.out.alloc _).below b1)
        have K := (Has.new w _).below b1
        have k1 := K.cell 1 _ rfl
        have k2 := ((bup (bnew w _) b1).cell (p := ⟨b, off + m * 2, none⟩) hbl).trans h1
        go_wp2_with fail
        go_ret
        exact ⟨by rw [HR.out]; rfl, bup (bnew _ _) b1⟩
      | true =>
        go_enter Try.func32, Try.ntmps32
        go_wp2_with fail
        refine (CO.out _ (H.out.alloc _)).mono ?_
        rintro e w1 ⟨rfl, b1⟩
        have H1 := Lib.hid ((H.out.alloc _).below b1)
        have K := (Has.new w _).below b1
        have k1 := K.cell 1 _ rfl
        have k2 := ((bup (bnew w _) b1).cell (p := ⟨b, off + m * 2, none⟩) hbl).trans h1
        go_wp2_with fail
        refine (CS.out _ H1.out).mono ?_
        rintro e w2 ⟨rfl, b2⟩
        go_wp2_with fail
        go_ret
        exact ⟨by rw [HR.out]; rfl, bup (bup (bnew _ _) b1) b2⟩
/-- An image's size; 0 if it can't be. -/
def pgSize (lsn : Int) (l : List Sl) : Nat := if slGood lsn l then slSize l else 0
end Go.Proofs.Ytakdagmkkelnfaa

/-! The reference: which images can be, and their size. -/
namespace Go.Proofs.Ytakdagmkkelnfaa
open Go.RowKit
set_option linter.unusedVariables false

theorem good_rfSize {lsn : Int} {l : List Sl} (h : slGood lsn l = true) : rfSize l = slSize l ∧ slSize l ≤ 240 := by
  obtain ⟨_, h2, h3, _, h5⟩ := (slGood_iff lsn l).1 h
  exact ⟨rfSize_eq l (any_odd_sizes h3) (by omega), h5⟩
theorem odd_not {x : Sl} {l : List Sl} {k : Nat} (hx : l[k]? = some x) (h : x.odd = true) (lsn : Int) : slGood lsn l = false := by
  have : l.any Sl.odd = true := List.any_eq_true.2 ⟨x, List.mem_of_getElem? hx, h⟩
  simp [slGood, this]
theorem rfSize_lt (l : List Sl) : rfSize l ≤ 100000 := by
  unfold rfSize
  have h := rfSum_le (l.take 33)
  have h2 : (l.take 33).length ≤ 33 := by simp; omega
  have h3 : (l.take 33).length * 1001 ≤ 33 * 1001 := Nat.mul_le_mul_right _ h2
  omega
set_option maxRecDepth 100000 in
set_option maxHeartbeats 2000000 in
theorem rgood_any (lsn : Int) (A : Option Addr) (n c : Nat) (l : List Sl) (w : World) (h : IsSlots w A n c l) :
    Calls Try.prog 44 #[.agg #[.int .i64 lsn, .slice A n c]] w fun r w' => r = .returned (.bool (slGood lsn l)) ∧ Below w.heap.size w w' := by
  have hcap := h.cap
  have hmost := h.most
  have hlen := h.len
  obtain ⟨G, hG⟩ : ∃ G, slGood lsn l = G := ⟨_, rfl⟩
  rw [hG]
  have HG := Lib.hid hG
  clear hG
  have H := Lib.hid h
  clear h
  by_cases l1 : lsn < 0
  · go_enter Try.func44, Try.ntmps44
    go_wp2_with fail
    go_ret
    exact ⟨by rw [← HG.out]; simp [slGood]; omega, bnew _ _⟩
  by_cases l2 : 1099511627776 < lsn
  · go_enter Try.func44, Try.ntmps44
    go_wp2_with fail
    go_ret
    exact ⟨by rw [← HG.out]; simp [slGood]; omega, bnew _ _⟩
  by_cases l3 : 32 < n
  · go_enter Try.func44, Try.ntmps44
    go_wp2_with fail
    go_ret
    exact ⟨by rw [← HG.out]; simp [slGood]; omega, bnew _ _⟩
  have CS := Lib.hid (fun w h => refSize_any lsn A n c l w h)
  obtain ⟨S, hS⟩ : ∃ S, rfSize l = S := ⟨_, rfl⟩
  rw [hS] at CS
  have HS := Lib.hid hS
  have hS2 : S ≤ 100000 := by rw [← hS]; exact rfSize_lt l
  clear hS
  by_cases l4 : 240 < S
  · have HR : Hid (G = false) := Lib.hid (by
      rw [← HG.out]
      cases hg : slGood lsn l with
      | false => rfl
      | true => have := good_rfSize hg; have := HS.out; omega)
    have l5 : (240 : Int) < (S : Int) := by omega
    go_enter Try.func44, Try.ntmps44
    go_wp2_with fail
    refine (CS.out _ (H.out.alloc _)).mono ?_
    rintro e w1 ⟨rfl, b1⟩
    go_wp2_with fail
    go_ret
    exact ⟨by rw [HR.out]; rfl, bup (bnew _ _) b1⟩
  have l5 : (S : Int) ≤ 240 := by omega
  go_enter Try.func44, Try.ntmps44
  go_wp2_with fail
  refine (CS.out _ (H.out.alloc _)).mono ?_
  rintro e w1 ⟨rfl, b1⟩
  have K1 := Lib.hid ((Has.new w _).below b1)
  have B1 := Lib.hid (bup (bnew w _) b1)
  have H1 := Lib.hid ((H.out.alloc _).below b1)
  clear b1
  go_wp2_with fail
  go_loopw [3] (fun i wr => ∃ k : Nat, k ≤ n ∧ i = .int .i64 k ∧ Hid ((l.take k).any Sl.odd = false) ∧ Below w1.heap.size w1 wr) (fun i _ => n - (intOf i).toNat)
  case atStart => exact ⟨0, by omega, rfl, Lib.hid rfl, Below.refl _ _⟩
  case round =>
    obtain ⟨k, hk, rfl, Hn, hb⟩ := hrel
    have k1 := (K1.out.below hb).cell 1 _ rfl
    by_cases hlt : k < n
    · obtain ⟨b, off, x, rfl, hx, hbl, h1, h2, hs⟩ := (H1.out.below hb).at hlt
      have HX := Lib.hid (fun hp => odd_not hx hp lsn)
      have HY := Lib.hid (fun hp => any_take_snoc hx Hn.out hp)
      have Hb := Lib.hid hb
      have hd : x.odd = ((!x.u && !x.d.toList.isEmpty) || decide (200 < x.d.size)) := rfl
      clear hx hb
      obtain ⟨u, d⟩ := x
      simp only at h1 h2 hs hd
      have HD := Lib.hid hd
      clear hd
      by_cases hz : 200 < d.size <;> by_cases he : d.toList = [] <;> cases u <;>
      · go_wp2_with fail
        all_goals
          first
          | (go_ret
             refine ⟨?_, bup B1.out (bup Hb.out (bnew _ _))⟩
             rw [← HG.out, HX.out (by rw [HD.out]; simp [hz, he])]; rfl)
          | (go_roundw
             case rel => exact ⟨k + 1, by omega, by go_num, HY.out (by rw [HD.out]; simp [hz, he]), bup Hb.out (bnew _ _)⟩
             case measure => simp [intOf]; omega)
    · have hkn : l.take k = l := List.take_of_length_le (by omega)
      rw [hkn] at Hn
      have Hb := Lib.hid hb
      clear hkn hb
      have HX : Hid (slGood lsn l = slLast l) := Lib.hid (by
        have h5 := rfSize_eq l (any_odd_sizes Hn.out) (by omega)
        have h6 := HS.out
        unfold slGood
        rw [Hn.out, decide_eq_true (p := 0 ≤ lsn ∧ lsn ≤ 1099511627776) (by omega), decide_eq_true (p := l.length ≤ 32) (by omega), decide_eq_true (p := slSize l ≤ 240) (by omega)]
        simp)
      by_cases n0 : n = 0
      · subst n0
        have hl0 : l = [] := List.eq_nil_of_length_eq_zero hlen
        have HL : Hid (slLast l = true) := Lib.hid (by rw [hl0]; rfl)
        clear hl0
        go_wp2_with fail
        go_ret
        exact ⟨by rw [← HG.out, HX.out, HL.out]; rfl, bup B1.out Hb.out⟩
      · obtain ⟨m, rfl⟩ : ∃ m, n = m + 1 := ⟨n - 1, by omega⟩
        obtain ⟨b, off, x, rfl, hx, hbl, h1, h2, hs⟩ := (H1.out.below Hb.out).at (show m < m + 1 by omega)
        have HL := Lib.hid (last_here hlen hx)
        clear hx
        go_wp2_with fail
        go_ret
        exact ⟨by rw [← HG.out, HX.out, HL.out]; rfl, bup B1.out Hb.out⟩
/-- What is more than a statement of layer 3 asks. -/
def slGreat (l : List Sl) : Bool := decide (100 < l.length) || l.any fun x => decide (4096 < x.d.size)
end Go.Proofs.Ytakdagmkkelnfaa
