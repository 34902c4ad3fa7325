/-
  Whether a message is more than is asked: great.
-/
import Derived.Test.YtakdagmkkelnfaaNoK
namespace Go.Proofs.Ytakdagmkkelnfaa
open Go.RowKit Go.Sort NibPure SumPure
set_option linter.unusedVariables false
set_option linter.unusedSimpArgs false
def slBig (x : Sl) : Bool := decide ((4096 : Int) < (x.d.size : Int))
def entBig (x : Ent) : Bool := decide ((4096 : Int) < (x.wd.size : Int)) || decide ((4096 : Int) < (x.ix.size : Int))
def greatB (m : Ms) : Bool := decide ((100 : Int) < (m.sl.length : Int)) || decide ((40 : Int) < (m.en.length : Int)) || m.sl.any slBig || m.en.any entBig

set_option maxHeartbeats 64000000 in
set_option maxRecDepth 100000 in
theorem great_any (m : Ms) (A : Option Addr) (sn sc : Nat) (B : Option Addr) (en ec : Nat) (w : World) (hS : IsSlots w A sn sc m.sl) (hE : IsEnts w B en ec m.en) :
    Calls Try.prog 14 #[.agg (m.row A sn sc B en ec)] w fun r w' => r = .returned (.bool (greatB m)) ∧ Below w.heap.size w w' := by
  obtain ⟨k, pg, x, need, n, tc, te, tn, lsn, sl, el⟩ := m
  simp only at hS hE
  have l1 := hS.len
  have l2 := hE.len
  have hcap := hS.cap
  have hmost := hS.most
  have hcap2 := hE.cap
  have hmost2 := hE.most
  obtain ⟨R, hR⟩ : ∃ R, greatB ⟨k, pg, x, need, n, tc, te, tn, lsn, sl, el⟩ = R := ⟨_, rfl⟩
  rw [hR]
  unfold greatB at hR
  simp only [l1, l2] at hR
  have HR := Lib.hid hR
  have HS := Lib.hid hS
  have HE := Lib.hid hE
  clear hR hS hE
  simp only [Ms.row, msgC]
  go_enter Try.func14, Try.ntmps14
  go_upto_region 1 with (fail)
  have X := Lib.hid (Has.new w (.cells #[.int .i64 k, .int .i64 pg, .bool x, .bool need, .int .i64 n, .int .i64 tc, .int .i64 te, .int .i64 tn, .int .i64 lsn, .slice A sn sc, .slice B en ec] 32))
  have BW := Lib.hid (bnew w (.cells #[.int .i64 k, .int .i64 pg, .bool x, .bool need, .int .i64 n, .int .i64 tc, .int .i64 te, .int .i64 tn, .int .i64 lsn, .slice A sn sc, .slice B en ec] 32))
  have HS := Lib.hid (HS.out.alloc (.cells #[.int .i64 k, .int .i64 pg, .bool x, .bool need, .int .i64 n, .int .i64 tc, .int .i64 te, .int .i64 tn, .int .i64 lsn, .slice A sn sc, .slice B en ec] 32))
  have HE := Lib.hid (HE.out.below (bnew w (.cells #[.int .i64 k, .int .i64 pg, .bool x, .bool need, .int .i64 n, .int .i64 tc, .int .i64 te, .int .i64 tn, .int .i64 lsn, .slice A sn sc, .slice B en ec] 32)))
  generalize World.alloc w _ = wa at X BW HS HE ⊢
  have x9 := X.out.cell 9 _ rfl
  have x10 := X.out.cell 10 _ rfl
  by_cases h1 : (100 : Int) < (sn : Int)
  · obtain rfl : R = true := by have := HR.out; rw [← this]; simp [h1]
    go_wp2_with fail
    go_ret
    exact ⟨rfl, BW.out⟩
  by_cases h2 : (40 : Int) < (en : Int)
  · obtain rfl : R = true := by have := HR.out; rw [← this]; simp [h2]
    go_wp2_with fail
    go_ret
    exact ⟨rfl, BW.out⟩
  have HR : Hid ((sl.any slBig || el.any entBig) = R) := Lib.hid (by have := HR.out; rw [← this]; simp [h1, h2])
  go_wp2_with fail
  go_loopw [3] (fun i wr => ∃ k : Nat, k ≤ sn ∧ i = .int .i64 k ∧ Hid ((sl.take k).any slBig = false) ∧ wa = wr) (fun i _ => sn - (intOf i).toNat)
  case atStart => exact ⟨0, by omega, rfl, Lib.hid rfl, rfl⟩
  case round =>
    obtain ⟨k, hk, rfl, Hn, rfl⟩ := hrel
    by_cases hlt : k < sn
    · obtain ⟨b, off, x, rfl, hx, hbl, c1, c2, hs⟩ := HS.out.at hlt
      have Hx := Lib.hid hx
      clear hx
      by_cases hbig : (4096 : Int) < (x.d.size : Int)
      · have hb1 : slBig x = true := by unfold slBig; simp [hbig]
        obtain rfl : R = true := by
          have := HR.out
          rw [← this, List.any_eq_true.2 ⟨x, List.mem_of_getElem? Hx.out, hb1⟩]; rfl
        clear hb1
        go_wp2_with fail
        go_ret
        exact ⟨rfl, BW.out⟩
      · have HX := Lib.hid (any_take_snoc Hx.out Hn.out (show slBig x = false by unfold slBig; simp [hbig]))
        go_wp2_with fail
        go_roundw
        case rel => exact ⟨k + 1, by omega, by go_num, HX, by first | trivial | rfl⟩
        case measure => simp [intOf]; omega
    · have hkn : sl.take k = sl := List.take_of_length_le (by omega)
      rw [hkn] at Hn
      clear hkn
      have HR : Hid (el.any entBig = R) := Lib.hid (by have := HR.out; rw [← this, Hn.out]; rfl)
      go_wp2_with fail
      go_loopw [4] (fun i wr => ∃ k : Nat, k ≤ en ∧ i = .int .i64 k ∧ Hid ((el.take k).any entBig = false) ∧ wa = wr) (fun i _ => en - (intOf i).toNat)
      case atStart => exact ⟨0, by omega, rfl, Lib.hid rfl, rfl⟩
      case round =>
        obtain ⟨j, hj, rfl, Hm, rfl⟩ := hrel
        by_cases hlt2 : j < en
        · obtain ⟨y, hy⟩ : ∃ y, el[j]? = some y := ⟨_, List.getElem?_eq_getElem (by omega)⟩
          obtain ⟨b, off, rfl, hbl, hEE⟩ := HE.out.here hy
          have hsz := HE.out.small y (List.mem_of_getElem? hy)
          have Hy := Lib.hid hy
          obtain ⟨y0, y1, y2, y3, y4, y5, y6, y7, y8, y9, y10, y11, y12⟩ := hEE
          clear hy
          by_cases hb1 : (4096 : Int) < (y.wd.size : Int)
          · obtain rfl : R = true := by
              have := HR.out
              rw [← this, List.any_eq_true.2 ⟨y, List.mem_of_getElem? Hy.out, by unfold entBig; simp [hb1]⟩]
            go_wp2_with fail
            go_ret
            exact ⟨rfl, BW.out⟩
          by_cases hb2 : (4096 : Int) < (y.ix.size : Int)
          · obtain rfl : R = true := by
              have := HR.out
              rw [← this, List.any_eq_true.2 ⟨y, List.mem_of_getElem? Hy.out, by unfold entBig; simp [hb2]⟩]
            go_wp2_with fail
            go_ret
            exact ⟨rfl, BW.out⟩
          have HX := Lib.hid (lany_take_snoc Hy.out Hm.out (show entBig y = false by unfold entBig; simp [hb1, hb2]))
          go_wp2_with fail
          go_roundw
          case rel => exact ⟨j + 1, by omega, by go_num, HX, by first | trivial | rfl⟩
          case measure => simp [intOf]; omega
        · have hkn : el.take j = el := List.take_of_length_le (by omega)
          rw [hkn] at Hm
          clear hkn
          obtain rfl : R = false := by have := HR.out; rw [← this, Hm.out]
          go_wp2_with fail
          go_ret
          exact ⟨rfl, BW.out⟩
end Go.Proofs.Ytakdagmkkelnfaa
