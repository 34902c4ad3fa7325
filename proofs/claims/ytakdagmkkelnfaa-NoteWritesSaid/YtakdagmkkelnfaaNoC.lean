/-
  Whether there is an entry that can't be among the entries of a message.
-/
import Derived.Test.YtakdagmkkelnfaaNoA
namespace Go.Proofs.Ytakdagmkkelnfaa
open Go.RowKit Go.Sort
set_option linter.unusedVariables false
set_option linter.unusedSimpArgs false
def lIdx {α : Type} (p : α → Bool) (l : List α) : Int := if l.any p then (l.findIdx p : Int) else -1
theorem lIdx_none {α : Type} {p : α → Bool} {l : List α} (h : l.any p = false) : lIdx p l = -1 := by simp [lIdx, h]
theorem lany_take_snoc {α : Type} {p : α → Bool} {l : List α} {k : Nat} {x : α} (hx : l[k]? = some x) (h : (l.take k).any p = false) (hp : p x = false) : (l.take (k + 1)).any p = false := by
  rw [List.take_add_one, hx, List.any_append, h]; simp [hp]
theorem lIdx_here {α : Type} {p : α → Bool} {l : List α} {k : Nat} {x : α} (hx : l[k]? = some x) (h : (l.take k).any p = false) (hp : p x = true) : lIdx p l = (k : Int) := by
  have hk : k < l.length := (List.getElem?_eq_some_iff.1 hx).1
  have hl : l.any p = true := List.any_eq_true.2 ⟨x, List.mem_of_getElem? hx, hp⟩
  have hf : l.findIdx p = k := by
    rw [List.findIdx_eq hk]
    have hxx : l[k] = x := (List.getElem?_eq_some_iff.1 hx).2
    refine ⟨by rw [hxx]; exact hp, fun j hj => ?_⟩
    have := List.any_eq_false.1 h (l[j]'(by omega)) (by rw [List.mem_take_iff_getElem]; exact ⟨j, by omega, rfl⟩)
    simpa using this
  simp [lIdx, hl, hf]
theorem lIdx_ge {α : Type} (p : α → Bool) (l : List α) : (decide (0 ≤ lIdx p l)) = l.any p := by
  unfold lIdx; split <;> simp_all
def Ent.badB (x : Ent) : Bool := !x.good
set_option maxRecDepth 100000 in
set_option maxHeartbeats 2000000 in
theorem oddEnt_any (x : Ent) (h : x.wd.size ≤ 140737488351232 ∧ x.ix.size ≤ 140737488351232) (w : World) :
    Calls Try.prog 27 #[x.val] w fun r w' => r = .returned (.bool x.badB) ∧ Below w.heap.size w w' := by
  have C := fun w => good_any x (by omega) (by omega) w
  obtain ⟨g, hg⟩ : ∃ g, x.good = g := ⟨_, rfl⟩
  rw [hg] at C
  have e : x.badB = !g := by unfold Ent.badB; rw [hg]
  rw [e]
  clear hg e
  obtain ⟨k, c, e, n, l, p, pg, sl, wu, wd, iu, ix, nx⟩ := x
  simp only [Ent.val, Ent.row] at C ⊢
  replace C := Lib.hid C
  clear h
  cases g <;>
  · go_enter Try.func27, Try.ntmps27
    go_wp2_with fail
    refine (C.out _).mono ?_
    rintro e w1 ⟨rfl, b1⟩
    go_wp2_with fail
    go_ret
    exact ⟨rfl, bup (bnew w _) b1⟩
set_option maxRecDepth 100000 in
set_option maxHeartbeats 2000000 in
theorem idxEnt_any (A : Option Addr) (n c : Nat) (l : List Ent) (w : World) (h : IsEnts w A n c l) :
    Calls Try.prog 59 #[.slice A n c, .func (.func 27) #[] #[]] w fun r w' => r = .returned (.int .i64 (lIdx Ent.badB l)) ∧ Below w.heap.size w w' := by
  have hcap := h.cap
  have hmost := h.most
  have H := Lib.hid h
  clear h
  go_enter Try.func59, Try.ntmps59
  go_wp2_with fail
  go_loopw [8] (fun i wr => ∃ k : Nat, k ≤ n ∧ i = .int .i64 k ∧ Hid ((l.take k).any Ent.badB = false) ∧ Below w.heap.size w wr) (fun i _ => n - (intOf i).toNat)
  case atStart => exact ⟨0, by omega, rfl, Lib.hid rfl, Below.refl _ _⟩
  case round =>
    obtain ⟨k, hk, rfl, Hn, hb⟩ := hrel
    by_cases hlt : k < n
    · obtain ⟨x, hx⟩ : ∃ x, l[k]? = some x := ⟨_, List.getElem?_eq_getElem (by rw [H.out.len]; exact hlt)⟩
      obtain ⟨b, off, rfl, hbl, hE⟩ := H.out.here hx
      have hE := hE.below hbl hb
      have hsz := H.out.small x (List.mem_of_getElem? hx)
      have Hx := Lib.hid hx
      have Hb := Lib.hid hb
      have CO := Lib.hid (fun w => oddEnt_any x hsz w)
      obtain ⟨p, hp⟩ : ∃ p, x.badB = p := ⟨_, rfl⟩
      rw [hp] at CO
      have HP := Lib.hid hp
      clear hx hb hsz hp
      obtain ⟨x0, x1, x2, x3, x4, x5, x6, x7, x8, x9, x10, x11, x12⟩ := hE
      simp only [Ent.val, Ent.row] at CO
      go_wp2_with fail
      refine (CO.out _).mono ?_
      rintro e w1 ⟨rfl, b1⟩
      clear x0 x1 x2 x3 x4 x5 x6 x7 x8 x9 x10 x11 x12
      cases p with
      | true =>
        have HX := Lib.hid (lIdx_here Hx.out Hn.out HP.out)
        go_wp2
        go_ret
        exact ⟨by rw [HX.out]; rfl, bup Hb.out b1⟩
      | false =>
        have HX := Lib.hid (lany_take_snoc Hx.out Hn.out HP.out)
        go_wp2
        go_roundw
        case rel => exact ⟨k + 1, by omega, by go_num, HX, bup Hb.out b1⟩
        case measure => simp [intOf]; omega
    · have hkn : l.take k = l := List.take_of_length_le (by have := H.out.len; omega)
      rw [hkn] at Hn
      have HX := Lib.hid (lIdx_none Hn.out)
      clear hkn
      go_wp2
      go_ret
      exact ⟨by rw [HX.out]; rfl, hb⟩
set_option maxRecDepth 100000 in
theorem hasBad_any (A : Option Addr) (n c : Nat) (l : List Ent) (w : World) (h : IsEnts w A n c l) :
    Calls Try.prog 33 #[.slice A n c, .func (.func 27) #[] #[]] w fun r w' => r = .returned (.bool (l.any Ent.badB)) ∧ Below w.heap.size w w' := by
  have C := Lib.hid (fun w h => idxEnt_any A n c l w h)
  have HX := Lib.hid (lIdx_ge Ent.badB l)
  obtain ⟨z, hz⟩ : ∃ z, lIdx Ent.badB l = z := ⟨_, rfl⟩
  rw [hz] at C HX
  clear hz
  have H := Lib.hid h
  clear h
  go_enter Try.func33, Try.ntmps33
  go_wp2_with fail
  refine (C.out _ H.out).mono ?_
  rintro e w1 ⟨rfl, b1⟩
  go_wp2
  go_ret
  exact ⟨congrArg (fun b => Ending.returned (.bool b)) HX.out, b1⟩
theorem any_bad (l : List Ent) : l.any Ent.badB = !(l.all Ent.good) := by
  unfold Ent.badB
  induction l with
  | nil => rfl
  | cons x l ih => simp only [List.any_cons, List.all_cons, ih]; cases x.good <;> simp
end Go.Proofs.Ytakdagmkkelnfaa
