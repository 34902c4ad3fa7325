/-
  Slots: the small functions, and going over them.
-/
import Derived.Test.YtklmoigpalhlmaaSlPure
import Derived.Deep.QuietTactic
import Derived.BigQuiet
import Derived.Outline
namespace Go.Proofs.Ytklmoigpalhlmaa
open Go.RowKit

set_option maxRecDepth 100000 in
theorem isOdd_any (x : Sl) (hd : x.d.size ≤ 140737488351232) (w : World) :
    Calls Try.prog 32 #[x.val] w fun r w' => r = .returned (.bool x.odd) ∧ Below w.heap.size w w' := by
  obtain ⟨u, d⟩ := x
  simp only [Sl.val, Sl.odd] at *
  by_cases h1 : 200 < d.size <;> by_cases h2 : d.toList = [] <;> cases u <;>
  · go_enter Try.func32, Try.ntmps32
    go_wp2_with fail
    all_goals
      go_ret
      refine ⟨congrArg (fun b => Ending.returned (.bool b)) ?_, bnew _ _⟩
      first | (simp [h1, h2]; done) | (simp [h1, h2]; omega)
def Sl.free (x : Sl) : Bool := !x.u
set_option maxRecDepth 100000 in
theorem unused_any (x : Sl) (w : World) :
    Calls Try.prog 36 #[x.val] w fun r w' => r = .returned (.bool x.free) ∧ Below w.heap.size w w' := by
  obtain ⟨u, d⟩ := x
  simp only [Sl.val]
  go_enter Try.func36, Try.ntmps36
  go_wp2_with fail
  go_ret
  exact ⟨rfl, bnew _ _⟩
set_option maxRecDepth 100000 in
set_option maxHeartbeats 1000000 in
theorem idxOdd_any (A : Option Addr) (n c : Nat) (l : List Sl) (w : World) (h : IsSlots w A n c l) :
    Calls Try.prog 35 #[.slice A n c, .func (.func 32) #[] #[]] w fun r w' => r = .returned (.int .i64 (slIdx Sl.odd l)) ∧ Below w.heap.size w w' := by
  have hcap := h.cap
  have hmost := h.most
  have H := Lib.hid h
  clear h
  go_enter Try.func35, Try.ntmps35
  go_wp2_with fail
  go_loopw [8] (fun i wr => ∃ k : Nat, k ≤ n ∧ i = .int .i64 k ∧ Hid ((l.take k).any Sl.odd = false) ∧ Below w.heap.size w wr) (fun i _ => n - (intOf i).toNat)
  case atStart => exact ⟨0, by omega, rfl, Lib.hid rfl, Below.refl _ _⟩
  case round =>
    obtain ⟨k, hk, rfl, Hn, hb⟩ := hrel
    by_cases hlt : k < n
    · obtain ⟨b, off, x, rfl, hx, hbl, h1, h2, hs⟩ := (H.out.below hb).at hlt
      have Hx := Lib.hid hx
      have Hb := Lib.hid hb
      clear hx hb
      go_wp2_with fail
      refine (isOdd_any x (by omega) _).mono ?_
      rintro e w1 ⟨rfl, b1⟩
      cases hp : Sl.odd x with
      | true =>
        have HX := Lib.hid (slIdx_here Hx.out Hn.out hp)
        have Hp := Lib.hid hp
        clear hp
        go_wp2
        go_ret
        exact ⟨by rw [HX.out]; rfl, bup Hb.out b1⟩
      | false =>
        have HX := Lib.hid (any_take_snoc Hx.out Hn.out hp)
        have Hp := Lib.hid hp
        clear hp
        go_wp2
        go_roundw
        case rel => exact ⟨k + 1, by omega, by go_num, HX, bup Hb.out b1⟩
        case measure => simp [intOf]; omega
    · have hkn : l.take k = l := List.take_of_length_le (by have := H.out.len; omega)
      rw [hkn] at Hn
      have HX := Lib.hid (slIdx_none Hn.out)
      clear hkn
      go_wp2
      go_ret
      exact ⟨by rw [HX.out]; rfl, hb⟩
set_option maxRecDepth 100000 in
set_option maxHeartbeats 1000000 in
theorem idxFree_any (A : Option Addr) (n c : Nat) (l : List Sl) (w : World) (h : IsSlots w A n c l) :
    Calls Try.prog 35 #[.slice A n c, .func (.func 36) #[] #[]] w fun r w' => r = .returned (.int .i64 (slIdx Sl.free l)) ∧ Below w.heap.size w w' := by
  have hcap := h.cap
  have hmost := h.most
  have H := Lib.hid h
  clear h
  go_enter Try.func35, Try.ntmps35
  go_wp2_with fail
  go_loopw [8] (fun i wr => ∃ k : Nat, k ≤ n ∧ i = .int .i64 k ∧ Hid ((l.take k).any Sl.free = false) ∧ Below w.heap.size w wr) (fun i _ => n - (intOf i).toNat)
  case atStart => exact ⟨0, by omega, rfl, Lib.hid rfl, Below.refl _ _⟩
  case round =>
    obtain ⟨k, hk, rfl, Hn, hb⟩ := hrel
    by_cases hlt : k < n
    · obtain ⟨b, off, x, rfl, hx, hbl, h1, h2, hs⟩ := (H.out.below hb).at hlt
      have Hx := Lib.hid hx
      have Hb := Lib.hid hb
      clear hx hb
      go_wp2_with fail
      refine (unused_any x _).mono ?_
      rintro e w1 ⟨rfl, b1⟩
      cases hp : Sl.free x with
      | true =>
        have HX := Lib.hid (slIdx_here Hx.out Hn.out hp)
        have Hp := Lib.hid hp
        clear hp
        go_wp2
        go_ret
        exact ⟨by rw [HX.out]; rfl, bup Hb.out b1⟩
      | false =>
        have HX := Lib.hid (any_take_snoc Hx.out Hn.out hp)
        have Hp := Lib.hid hp
        clear hp
        go_wp2
        go_roundw
        case rel => exact ⟨k + 1, by omega, by go_num, HX, bup Hb.out b1⟩
        case measure => simp [intOf]; omega
    · have hkn : l.take k = l := List.take_of_length_le (by have := H.out.len; omega)
      rw [hkn] at Hn
      have HX := Lib.hid (slIdx_none Hn.out)
      clear hkn
      go_wp2
      go_ret
      exact ⟨by rw [HX.out]; rfl, hb⟩
set_option maxRecDepth 100000 in
theorem hasOdd_any (A : Option Addr) (n c : Nat) (l : List Sl) (w : World) (h : IsSlots w A n c l) :
    Calls Try.prog 31 #[.slice A n c, .func (.func 32) #[] #[]] w fun r w' => r = .returned (.bool (l.any Sl.odd)) ∧ Below w.heap.size w w' := by
  have C := Lib.hid (fun w h => idxOdd_any A n c l w h)
  have HX := Lib.hid (slIdx_ge Sl.odd l)
  obtain ⟨z, hz⟩ : ∃ z, slIdx Sl.odd l = z := ⟨_, rfl⟩
  rw [hz] at C HX
  clear hz
  have H := Lib.hid h
  clear h
  go_enter Try.func31, Try.ntmps31
  go_wp2_with fail
  refine (C.out _ H.out).mono ?_
  rintro e w1 ⟨rfl, b1⟩
  go_wp2
  go_ret
  exact ⟨congrArg (fun b => Ending.returned (.bool b)) HX.out, b1⟩
set_option maxRecDepth 100000 in
set_option maxHeartbeats 1000000 in
theorem size_any (A : Option Addr) (n c : Nat) (l : List Sl) (w : World) (h : IsSlots w A n c l) (hm : slSize l ≤ 4611686018427387904) :
    Calls Try.prog 33 #[.slice A n c] w fun r w' => r = .returned (.int .i64 (slSize l : Nat)) ∧ Below w.heap.size w w' := by
  have hcap := h.cap
  have hmost := h.most
  have H := Lib.hid h
  have Hm := Lib.hid hm
  clear h hm
  go_enter Try.func33, Try.ntmps33
  go_wp2_with fail
  go_loopw [3, 8] (fun s i wr => ∃ k m : Nat, k ≤ n ∧ i = .int .i64 k ∧ s = .int .i64 m ∧ Hid (m = slSize (l.take k)) ∧ Below w.heap.size w wr) (fun _ i _ => n - (intOf i).toNat)
  case atStart => exact ⟨0, 9, by omega, rfl, rfl, Lib.hid rfl, Below.refl _ _⟩
  case round =>
    obtain ⟨k, m, hk, rfl, rfl, Hn, hb⟩ := hrel
    by_cases hlt : k < n
    · obtain ⟨b, off, x, rfl, hx, hbl, h1, h2, hs⟩ := (H.out.below hb).at hlt
      have h3 := slSum_take l k x hx
      have h4 := slSum_take_le l (k + 1)
      have hmn := Hn.out
      have hmm := Hm.out
      have hle : m + 1 + x.d.size ≤ 4611686018427387904 := by unfold slSize at hmn hmm; omega
      have HX : Hid (m + (1 + x.d.size) = slSize (l.take (k + 1))) := Lib.hid (by unfold slSize at hmn ⊢; omega)
      have Hb := Lib.hid hb
      clear hx hb h3 h4 hmn hmm
      go_wp2_with fail
      go_roundw
      case rel => exact ⟨k + 1, m + (1 + x.d.size), by omega, by go_num, by go_num, HX, bup Hb.out (bnew _ _)⟩
      case measure => simp [intOf]; omega
    · have hkn : l.take k = l := List.take_of_length_le (by have := H.out.len; omega)
      rw [hkn] at Hn
      go_wp2
      go_ret
      exact ⟨by rw [← Hn.out]; rfl, hb⟩
/-- The size as the reference reckons it. -/
def rfSum (l : List Sl) : Nat := (l.map fun x => 1 + min x.d.size 1000).sum
def rfSize (l : List Sl) : Nat := 9 + rfSum (l.take 33)
theorem rfSum_take (l : List Sl) (k : Nat) (x : Sl) (h : l[k]? = some x) : rfSum (l.take (k + 1)) = rfSum (l.take k) + (1 + min x.d.size 1000) := by
  rw [List.take_add_one, h]; simp [rfSum]
theorem rfSum_le (l : List Sl) : rfSum l ≤ l.length * 1001 := by
  induction l with
  | nil => simp [rfSum]
  | cons a l ih =>
    have e : rfSum (a :: l) = (1 + min a.d.size 1000) + rfSum l := rfl
    rw [e, List.length_cons, Nat.add_mul]; omega
theorem rfSum_eq (l : List Sl) (h : ∀ x ∈ l, x.d.size ≤ 200) : rfSum l = slSum l := by
  induction l with
  | nil => rfl
  | cons a l ih =>
    have e : rfSum (a :: l) = (1 + min a.d.size 1000) + rfSum l := rfl
    have e2 : slSum (a :: l) = (1 + a.d.size) + slSum l := rfl
    have := h a (by simp)
    rw [e, e2, ih (fun x hx => h x (by simp [hx]))]; omega
theorem rfSize_eq (l : List Sl) (h : ∀ x ∈ l, x.d.size ≤ 200) (hl : l.length ≤ 33) : rfSize l = slSize l := by
  unfold rfSize slSize
  rw [List.take_of_length_le hl, rfSum_eq l h]
set_option maxRecDepth 100000 in
set_option maxHeartbeats 1000000 in
theorem refSize_any (lsn : Int) (A : Option Addr) (n c : Nat) (l : List Sl) (w : World) (h : IsSlots w A n c l) :
    Calls Try.prog 34 #[.agg #[.int .i64 lsn, .slice A n c]] w fun r w' => r = .returned (.int .i64 (rfSize l : Nat)) ∧ Below w.heap.size w w' := by
  have hcap := h.cap
  have hmost := h.most
  have hlen := h.len
  have H := Lib.hid h
  clear h
  go_enter Try.func34, Try.ntmps34
  go_wp2_with fail
  go_loopw [3, 4] (fun s i wr => ∃ k m : Nat, k ≤ n ∧ k ≤ 33 ∧ m ≤ 100000 ∧ i = .int .i64 k ∧ s = .int .i64 m ∧ Hid (m = 9 + rfSum (l.take k)) ∧ wr = w.alloc (.cells #[.int .i64 lsn, .slice A n c] 24)) (fun _ i _ => n - (intOf i).toNat)
  case atStart => exact ⟨0, 9, by omega, by omega, by omega, rfl, rfl, Lib.hid rfl, rfl⟩
  case round =>
    obtain ⟨k, m, hk, hk2, hm2, rfl, rfl, Hn, rfl⟩ := hrel
    by_cases hlt : k < n
    · by_cases hl3 : k < 33
      · obtain ⟨b, off, x, rfl, hx, hbl, h1, h2, hs⟩ := (H.out.alloc (.cells #[.int .i64 lsn, .slice A n c] 24)).at hlt
        have h3 := rfSum_take l k x hx
        have h5 := rfSum_le (l.take (k + 1))
        have hmn := Hn.out
        have h6 : (l.take (k + 1)).length = k + 1 := by simp; omega
        rw [h6] at h5
        have hle : m + (1 + min x.d.size 1000) ≤ 100000 := by omega
        have HX : Hid (m + (1 + min x.d.size 1000) = 9 + rfSum (l.take (k + 1))) := Lib.hid (by omega)
        clear hx h3 h5 hmn h6
        by_cases hsz : x.d.size ≤ 1000
        · rw [Nat.min_eq_left hsz] at HX hle
          go_wp2_with fail
          go_roundw
          case rel => exact ⟨k + 1, m + (1 + x.d.size), by omega, by omega, by omega, by go_num, by go_num, HX, trivial⟩
          case measure => simp [intOf]; omega
        · rw [Nat.min_eq_right (by omega)] at HX hle
          go_wp2_with fail
          go_roundw
          case rel => exact ⟨k + 1, m + (1 + 1000), by omega, by omega, by omega, by go_num, by go_num, HX, trivial⟩
          case measure => simp [intOf]; omega
      · have hkn : k = 33 := by omega
        subst hkn
        go_wp2
        go_ret
        exact ⟨by rw [rfSize, ← Hn.out]; rfl, bnew _ _⟩
    · have hkn : l.take k = l.take 33 := by rw [List.take_of_length_le (by omega), List.take_of_length_le (by omega)]
      rw [hkn] at Hn
      go_wp2
      go_ret
      exact ⟨by rw [rfSize, ← Hn.out]; rfl, bnew _ _⟩
end Go.Proofs.Ytklmoigpalhlmaa
