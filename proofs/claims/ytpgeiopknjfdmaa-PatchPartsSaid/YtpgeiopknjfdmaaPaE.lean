/-
  What is more than is asked.
-/
import Derived.Test.YtpgeiopknjfdmaaPaA
import Derived.Test.YtpgeiopknjfdmaaEntRowOpen
namespace Go.Proofs.Ytpgeiopknjfdmaa
open Go.RowKit Go.Sort
set_option linter.unusedVariables false
set_option linter.unusedSimpArgs false

def Ent.big (x : Ent) : Bool := decide (4096 < x.wd.size) || decide (4096 < x.ix.size)
def Sl.big (x : Sl) : Bool := decide (4096 < x.d.size)
def paGreat (l : List Sl) (L : List Ent) : Bool := (decide (100 < l.length) || decide (60 < L.length)) || (l.any Sl.big || L.any Ent.big)
theorem any_take_next {α : Type} {p : α → Bool} {l : List α} {k : Nat} {x : α} (hx : l[k]? = some x) (h : (l.take k).any p = false) (hp : p x = false) : (l.take (k + 1)).any p = false := by
  rw [List.take_add_one, hx]; simp [h, hp]
set_option maxRecDepth 100000 in
set_option maxHeartbeats 4000000 in
theorem paGreat_any (lsn : Int) (A : Option Addr) (n c : Nat) (l : List Sl) (B : Option Addr) (m d : Nat) (L : List Ent) (w : World) (h : IsSlots w A n c l) (h2 : IsEnts w B m d L) :
    Calls Try.prog 10 #[.agg #[.int .i64 lsn, .slice A n c], .slice B m d] w fun r w' => r = .returned (.bool (paGreat l L)) ∧ Below w.heap.size w w' := by
  have hcap := h.cap
  have hmost := h.most
  have hlen := h.len
  have hcap2 := h2.cap
  have hmost2 := h2.most
  have hlen2 := h2.len
  have H := Lib.hid h
  have HE := Lib.hid h2
  obtain ⟨G, hG⟩ : ∃ G, paGreat l L = G := ⟨_, rfl⟩
  rw [hG]
  have HG := Lib.hid hG
  clear hG h h2
  by_cases hbig : 100 < n
  · have HR : Hid (G = true) := Lib.hid (by rw [← HG.out]; simp [paGreat]; omega)
    go_enter Try.func10, Try.ntmps10
    go_wp2_with fail
    go_ret
    exact ⟨by rw [HR.out]; rfl, bnew _ _⟩
  by_cases hbig2 : 60 < m
  · have HR : Hid (G = true) := Lib.hid (by rw [← HG.out]; simp [paGreat]; omega)
    go_enter Try.func10, Try.ntmps10
    go_wp2_with fail
    go_ret
    exact ⟨by rw [HR.out]; rfl, bnew _ _⟩
  go_enter Try.func10, Try.ntmps10
  go_upto_region 3 with (fail)
  generalize hw1 : World.alloc _ _ = w1
  have K : Hid (Has w1 w.heap.size (.cells #[.int .i64 lsn, .slice A n c] 24)) := Lib.hid (by rw [← hw1]; exact Has.new _ _)
  have B1 : Hid (Below w.heap.size w w1) := Lib.hid (by rw [← hw1]; exact bnew _ _)
  have H1 := Lib.hid (H.out.below B1.out)
  have HE1 := Lib.hid (HE.out.below B1.out)
  clear hw1
  have k1 := K.out.cell 1 _ rfl
  go_wp2_with fail
  go_loop [5] (fun i => ∃ k : Nat, k ≤ n ∧ i = .int .i64 k ∧ Hid ((l.take k).any Sl.big = false)) (fun i => n - (intOf i).toNat)
  case atStart => exact ⟨0, by omega, rfl, Lib.hid rfl⟩
  case round =>
    obtain ⟨k, hk, rfl, Hn⟩ := hrel
    by_cases hlt : k < n
    · obtain ⟨b, off, x, rfl, hx, hbl, h1, h2, hs⟩ := H1.out.at hlt
      by_cases hz : 4096 < x.d.size
      · have HR : Hid (G = true) := Lib.hid (by
          rw [← HG.out]
          have : l.any Sl.big = true := List.any_eq_true.2 ⟨x, List.mem_of_getElem? hx, by simpa [Sl.big] using hz⟩
          simp only [paGreat, this, Bool.true_or, Bool.or_true])
        clear hx
        go_wp2_with fail
        go_ret
        exact ⟨by rw [HR.out]; rfl, B1.out⟩
      · have HX := Lib.hid (any_take_next hx Hn.out (by simpa [Sl.big] using hz))
        clear hx
        go_wp2_with fail
        go_round
        case rel => exact ⟨k + 1, by omega, by go_num, HX⟩
        case measure => simp [intOf]; omega
    · have HN : Hid (l.any Sl.big = false) := Lib.hid (by
        have hn := Hn.out
        rw [List.take_of_length_le (by omega)] at hn
        exact hn)
      obtain rfl : k = n := by omega
      clear Hn hlt hk
      go_wp2_with fail
      go_loop [6] (fun i => ∃ t : Nat, t ≤ m ∧ i = .int .i64 t ∧ Hid ((L.take t).any Ent.big = false)) (fun i => m - (intOf i).toNat)
      case atStart => exact ⟨0, by omega, rfl, Lib.hid rfl⟩
      case round =>
        obtain ⟨t, ht, rfl, Hm⟩ := hrel
        by_cases hlt : t < m
        · obtain ⟨x, hx⟩ : ∃ x, L[t]? = some x := ⟨_, List.getElem?_eq_getElem (by omega)⟩
          obtain ⟨b, off, hA, hbl, E⟩ := HE1.out.here hx
          subst hA
          obtain ⟨hsw, hsi⟩ := HE1.out.small x (List.mem_of_getElem? hx)
          have a9 := E.a9
          have a11 := E.a11
          clear E
          by_cases hz : 4096 < x.wd.size
          · have HR : Hid (G = true) := Lib.hid (by
              rw [← HG.out]
              have : L.any Ent.big = true := List.any_eq_true.2 ⟨x, List.mem_of_getElem? hx, by simp [Ent.big, hz]⟩
              simp only [paGreat, this, Bool.or_true])
            clear hx
            go_wp2_with fail
            go_ret
            exact ⟨by rw [HR.out]; rfl, B1.out⟩
          by_cases hz2 : 4096 < x.ix.size
          · have HR : Hid (G = true) := Lib.hid (by
              rw [← HG.out]
              have : L.any Ent.big = true := List.any_eq_true.2 ⟨x, List.mem_of_getElem? hx, by simp [Ent.big, hz2]⟩
              simp only [paGreat, this, Bool.or_true])
            clear hx
            go_wp2_with fail
            go_ret
            exact ⟨by rw [HR.out]; rfl, B1.out⟩
          have HX := Lib.hid (any_take_next hx Hm.out (by simp only [Ent.big, Bool.or_eq_false_iff, decide_eq_false_iff_not]; exact ⟨hz, hz2⟩))
          clear hx
          go_wp2_with fail
          go_round
          case rel => exact ⟨t + 1, by omega, by go_num, HX⟩
          case measure => simp [intOf]; omega
        · have HR : Hid (G = false) := Lib.hid (by
            have hn := Hm.out
            rw [List.take_of_length_le (by omega)] at hn
            rw [← HG.out, paGreat, hn, HN.out]
            simp; omega)
          go_wp2_with fail
          go_ret
          exact ⟨by rw [HR.out]; rfl, B1.out⟩
end Go.Proofs.Ytpgeiopknjfdmaa
