/-
  The reference net: how many datagrams a way has, where one stands, one that is put.
-/
import Derived.Test.YtkdopflnaeejeaaMiPut
import Derived.Test.YtkdopflnaeejeaaMiCnt
namespace Go.Proofs.Ytkdopflnaeejeaa
open Go.RowKit
set_option linter.unusedVariables false
set_option linter.unusedSimpArgs false

theorem cnt_take {c : Int} {u : Bool} {q : List Gr} {k : Nat} {x : Gr} (hx : q[k]? = some x) : cnt c u (q.take (k + 1)) = cnt c u (q.take k) + (if onWay c u x then 1 else 0) := by
  rw [List.take_add_one, hx]
  exact cnt_more c u _ x
set_option maxRecDepth 100000 in
set_option maxHeartbeats 2000000 in
theorem rcount_any (p : Nat) (r : Option Nat) (c : Int) (u : Bool) (q : List Gr) (w : World) (hN : NetAt 48 w p r q) :
    Calls Try.prog 21 #[.pointer (some ⟨p, 0, none⟩), .int .i64 c, .bool u] w fun e w' => e = .returned (.int .i64 (cnt c u q : Int)) ∧ Below w.heap.size w w' := by
  obtain ⟨A, cap, hp, hrow, hv, hle, hcap, hat⟩ := hN.open
  obtain ⟨n, hn⟩ : ∃ n, q.length = n := ⟨_, rfl⟩
  rw [hn] at hp hle
  have HP := Lib.hid hp
  have HA := Lib.hid hat
  have Hlen := Lib.hid hn
  have hpl := hp.lt
  clear hp hat hn hrow hv hN
  go_enter Try.func21, Try.ntmps21
  go_wp2_with fail
  go_loopw [7, 8] (fun kv iv wr => ∃ k m : Nat, k ≤ n ∧ m ≤ k ∧ iv = .int .i64 k ∧ kv = .int .i64 m ∧ Hid (m = cnt c u (q.take k)) ∧ Hid (Below w.heap.size w wr)) (fun _ iv _ => n - (intOf iv).toNat)
  case atStart => exact ⟨0, 0, by omega, by omega, rfl, rfl, Lib.hid rfl, Lib.hid (Below.refl _ _)⟩
  case round =>
    obtain ⟨k, m, hk, hm, rfl, rfl, HM, HB⟩ := hrel
    have p0 := (HP.out.below HB.out).cell 0 _ rfl
    by_cases hlt : k < n
    · obtain ⟨x, hx⟩ : ∃ x, q[k]? = some x := ⟨_, List.getElem?_eq_getElem (by rw [Hlen.out]; exact hlt)⟩
      obtain ⟨g, rfl, hg, hG⟩ := HA.out k x hx
      have hG' := hG.below hG.lt HB.out
      have d0 := hG'.a0
      have d1 := hG'.a1
      have Ht := Lib.hid (cnt_take (c := c) (u := u) hx)
      clear hG hG' hx hg
      by_cases h1 : (x.cl == c) = true
      · by_cases h2 : (x.up == u) = true
        · have Ho : Hid (onWay c u x = true) := Lib.hid (by unfold onWay; rw [h1, h2]; rfl)
          go_wp2_with fail
          go_roundw
          case rel => exact ⟨k + 1, m + 1, by omega, by omega, by go_num, by go_num, Lib.hid (by rw [Ht.out, if_pos Ho.out, ← HM.out]), HB⟩
          case measure => simp [intOf]; omega
        · have h2' : (x.up == u) = false := by simpa using h2
          have Ho : Hid (onWay c u x = false) := Lib.hid (by unfold onWay; rw [h1, h2']; rfl)
          clear h2
          go_wp2_with fail
          go_roundw
          case rel => exact ⟨k + 1, m, by omega, by omega, by go_num, rfl, Lib.hid (by rw [Ht.out, if_neg (by rw [Ho.out]; simp), ← HM.out, Nat.add_zero]), HB⟩
          case measure => simp [intOf]; omega
      · have h1' : (x.cl == c) = false := by simpa using h1
        have Ho : Hid (onWay c u x = false) := Lib.hid (by unfold onWay; rw [h1']; rfl)
        clear h1
        go_wp2_with fail
        go_roundw
        case rel => exact ⟨k + 1, m, by omega, by omega, by go_num, rfl, Lib.hid (by rw [Ht.out, if_neg (by rw [Ho.out]; simp), ← HM.out, Nat.add_zero]), HB⟩
        case measure => simp [intOf]; omega
    · obtain rfl : k = n := by omega
      have HX : Hid ((m : Int) = (cnt c u q : Int)) := Lib.hid (by rw [HM.out, List.take_of_length_le (by rw [Hlen.out]; omega)])
      clear HM
      go_wp2_with fail
      go_ret
      exact ⟨by rw [HX.out]; rfl, HB.out⟩
theorem place_none' {c : Int} {u : Bool} {q : List Gr} {k : Int} (h : k < 0 ∨ ((idxF c u 0 q).length : Int) ≤ k) : plc c u q k = -1 := by
  refine plc_neg (plc_none.2 ?_)
  rw [idxF_len] at h
  exact h
set_option maxRecDepth 100000 in
set_option maxHeartbeats 2000000 in
theorem rplace_any (p : Nat) (r : Option Nat) (c : Int) (u : Bool) (z : Int) (q : List Gr) (w : World) (hN : NetAt 48 w p r q) (hz1 : -9223372036854775808 ≤ z) (hz2 : z ≤ 9223372036854775807) :
    Calls Try.prog 28 #[.pointer (some ⟨p, 0, none⟩), .int .i64 c, .bool u, .int .i64 z] w fun e w' => e = .returned (.int .i64 (plc c u q z)) ∧ Below w.heap.size w w' := by
  obtain ⟨A, cap, hp, hrow, hv, hle, hcap, hat⟩ := hN.open
  obtain ⟨n, hn⟩ : ∃ n, q.length = n := ⟨_, rfl⟩
  rw [hn] at hp hle
  have HP := Lib.hid hp
  have HA := Lib.hid hat
  have Hlen := Lib.hid hn
  have hpl := hp.lt
  clear hp hat hn hrow hv hN
  go_enter Try.func28, Try.ntmps28
  go_wp2_with fail
  go_loopw [9, 10] (fun kv iv wr => ∃ k m : Nat, k ≤ n ∧ m ≤ k ∧ iv = .int .i64 k ∧ kv = .int .i64 m ∧ Hid (m = (idxF c u 0 (q.take k)).length) ∧ Hid (z < 0 ∨ (m : Int) ≤ z) ∧ Hid (Below w.heap.size w wr)) (fun _ iv _ => n - (intOf iv).toNat)
  case atStart => exact ⟨0, 0, by omega, by omega, rfl, rfl, Lib.hid rfl, Lib.hid (by omega), Lib.hid (Below.refl _ _)⟩
  case round =>
    obtain ⟨k, m, hk, hm, rfl, rfl, HM, HZ, HB⟩ := hrel
    have p0 := (HP.out.below HB.out).cell 0 _ rfl
    by_cases hlt : k < n
    · obtain ⟨x, hx⟩ : ∃ x, q[k]? = some x := ⟨_, List.getElem?_eq_getElem (by rw [Hlen.out]; exact hlt)⟩
      obtain ⟨g, rfl, hg, hG⟩ := HA.out k x hx
      have hG' := hG.below hG.lt HB.out
      have d0 := hG'.a0
      have d1 := hG'.a1
      have Ht := Lib.hid (idxF_take c u q k x hx)
      clear hG hG' hx hg
      by_cases h1 : (x.cl == c) = true
      · have h1n : (x.cl != c) = false := by simp only [bne, h1]; rfl
        by_cases h2 : (x.up == u) = true
        · have h2n : (x.up != u) = false := by simp only [bne, h2]; rfl
          have Ho : Hid (onWay c u x = true) := Lib.hid (by unfold onWay; rw [h1, h2]; rfl)
          by_cases h3 : ((m : Int) == z) = true
          · have HX : Hid ((k : Int) = plc c u q z) := Lib.hid (by
              have e := Ht.out
              rw [if_pos Ho.out] at e
              have := plc_here e
              rw [← HM.out, show (m : Int) = z by simpa using h3] at this
              exact this.symm)
            clear HM Ht HZ
            go_wp2_with fail
            go_ret
            exact ⟨by rw [HX.out]; rfl, HB.out⟩
          · have h3' : ((m : Int) == z) = false := by simpa using h3
            have hne : (m : Int) ≠ z := by simpa using h3
            have HZ' : Hid (z < 0 ∨ ((m + 1 : Nat) : Int) ≤ z) := Lib.hid (by have := HZ.out; omega)
            clear h3 hne HZ
            go_wp2_with fail
            go_roundw
            case rel => exact ⟨k + 1, m + 1, by omega, by omega, by go_num, by go_num, Lib.hid (by rw [Ht.out, if_pos Ho.out, List.length_append, ← HM.out]; rfl), HZ', HB⟩
            case measure => simp [intOf]; omega
        · have h2' : (x.up == u) = false := by simpa using h2
          have h2n : (x.up != u) = true := by simp only [bne, h2']; rfl
          have Ho : Hid (onWay c u x = false) := Lib.hid (by unfold onWay; rw [h1, h2']; rfl)
          clear h2
          go_wp2_with fail
          go_roundw
          case rel => exact ⟨k + 1, m, by omega, by omega, by go_num, rfl, Lib.hid (by rw [Ht.out, if_neg (by rw [Ho.out]; simp), List.append_nil, ← HM.out]), HZ, HB⟩
          case measure => simp [intOf]; omega
      · have h1' : (x.cl == c) = false := by simpa using h1
        have h1n : (x.cl != c) = true := by simp only [bne, h1']; rfl
        have Ho : Hid (onWay c u x = false) := Lib.hid (by unfold onWay; rw [h1']; rfl)
        clear h1
        go_wp2_with fail
        go_roundw
        case rel => exact ⟨k + 1, m, by omega, by omega, by go_num, rfl, Lib.hid (by rw [Ht.out, if_neg (by rw [Ho.out]; simp), List.append_nil, ← HM.out]), HZ, HB⟩
        case measure => simp [intOf]; omega
    · obtain rfl : k = n := by omega
      have HX : Hid ((-1 : Int) = plc c u q z) := Lib.hid (by
        have := HM.out
        rw [List.take_of_length_le (by rw [Hlen.out]; omega)] at this
        exact (place_none' (by have := HZ.out; omega)).symm)
      clear HM
      go_wp2_with fail
      go_ret
      exact ⟨by rw [HX.out]; rfl, HB.out⟩
set_option maxRecDepth 100000 in
set_option maxHeartbeats 2000000 in
theorem rput_any (p : Nat) (r : Option Nat) (q : List Gr) (x : Gr) (w : World) (hN : NetAt 48 w p r q) (hq : q.length ≤ 1000000) :
    Calls Try.prog 16 #[.pointer (some ⟨p, 0, none⟩), x.val] w fun e w' => e = .returned (.int .i64 (putG q x).2) ∧ NetOut 48 p r (putG q x).1 w w' := by
  obtain ⟨c, u, ep, sq, ak, bd⟩ := x
  have CN := fun w h => rcount_any p r c u q w h
  obtain ⟨R, hR⟩ : ∃ R, putG q ⟨c, u, ep, sq, ak, bd⟩ = R := ⟨_, rfl⟩
  have hR' := hR
  unfold putG at hR'
  simp only at hR'
  rw [hR]
  obtain ⟨A, cap, hp, hrow, hv, hle, hcap, _⟩ := hN.open
  obtain ⟨m, hm⟩ : ∃ m, cnt c u q = m := ⟨_, rfl⟩
  rw [hm] at CN hR'
  have CN' := Lib.hid CN
  have HN := Lib.hid hN
  have hpl := hp.lt
  clear CN hm hR hN
  simp only [Gr.val]
  by_cases hc : c < 1 ∨ 8 < c
  · rw [if_pos hc] at hR'
    subst hR'
    by_cases h1 : c < 1
    · go_enter Try.func16, Try.ntmps16
      go_wp2_with fail
      go_ret
      exact ⟨rfl, NetOut.same HN.out (bnew w _)⟩
    · have h8 : 8 < c := by omega
      go_enter Try.func16, Try.ntmps16
      go_wp2_with fail
      go_ret
      exact ⟨rfl, NetOut.same HN.out (bnew w _)⟩
  · rw [if_neg hc] at hR'
    have h1 : 1 ≤ c := by omega
    have h8 : c ≤ 8 := by omega
    clear hc
    by_cases h64 : 64 ≤ m
    · rw [if_pos h64] at hR'
      subst hR'
      go_enter Try.func16, Try.ntmps16
      go_wp2_with fail
      refine (CN'.out _ (HN.out.below (bnew w _))).mono ?_
      rintro e w1 ⟨rfl, b1⟩
      go_wp2_with fail
      go_ret
      exact ⟨rfl, NetOut.same HN.out (bup (bnew w _) b1)⟩
    · rw [if_neg h64] at hR'
      subst hR'
      have h64' : m < 64 := by omega
      clear h64
      go_enter Try.func16, Try.ntmps16
      go_wp2_with fail
      refine (CN'.out _ (HN.out.below (bnew w _))).mono ?_
      rintro e w1 ⟨rfl, b1⟩
      have X1 := (Has.new w (.cells #[.int .i64 c, .bool u, .int .i64 ep, .int .i64 sq, .int .i64 ak, .string bd] 27)).below b1
      have x0 := X1.cell 0 _ rfl
      have x1 := X1.cell 1 _ rfl
      have x2 := X1.cell 2 _ rfl
      have x3 := X1.cell 3 _ rfl
      have x4 := X1.cell 4 _ rfl
      have x5 := X1.cell 5 _ rfl
      have B1 := Lib.hid (bup (bnew w (.cells #[.int .i64 c, .bool u, .int .i64 ep, .int .i64 sq, .int .i64 ak, .string bd] 27)) b1)
      have p0 := (hp.below B1.out).cell 0 _ rfl
      have pf := (hp.below B1.out).free 0
      have hpl1 : p < w1.heap.size := (hp.below B1.out).lt
      clear b1 X1
      go_upto_region 5 with (fail)
      have HB2 : Below w.heap.size w (w1.alloc (.cells #[.int .i64 c, .bool u, .int .i64 ep, .int .i64 sq, .int .i64 ak, .string bd] 27)).drew := (bup B1.out (bnew w1 _)).drew
      have HRow := Lib.hid (hrow.held (S := fun _ => False) (Kept.of HB2) (fun _ _ e => e))
      have HNew := Lib.hid (news_one (w := w1) (cs := #[.int .i64 c, .bool u, .int .i64 ep, .int .i64 sq, .int .i64 ak, .string bd]) (te := 27))
      have HPK : Hid (∀ w6, World.grownBy (w1.alloc (.cells #[.int .i64 c, .bool u, .int .i64 ep, .int .i64 sq, .int .i64 ak, .string bd] 27)).drew w6 (Value.slice A q.length cap).ownBlock → Has w6 p (.cells #[.slice A q.length cap] 48)) := Lib.hid (fun w6 g => (hp.below HB2).held (S := fun k => r = some k) (Kept.grown g (fun j e => by rw [← hv]; exact e)) (fun e => HN.out.ne e))
      have HB := Lib.hid HB2
      have HV := Lib.hid hv
      clear HB2 hrow hv
      go_region_law ((refine step_grow_own (w := (w1.alloc (.cells #[.int .i64 c, .bool u, .int .i64 ep, .int .i64 sq, .int .i64 ak, .string bd] 27)).drew) gramElem (by rfl) (.tmp 24) (.tmp 26) (by rfl) (.slice A q.length cap) q.length (flatG q) (by rfl) HRow.out (some ⟨w1.heap.size, 0, none⟩) 1 1 [.int .i64 c, .bool u, .int .i64 ep, .int .i64 sq, .int .i64 ak, .string bd] (by rfl) rfl (.inr ⟨_, rfl, HNew.out⟩) (by simp [Value.oneCell']) (by omega) (by omega) ?_; intro v6 w6 R6 g6 f6; have P6 := HPK.out w6 g6; have p61 := P6.cell 0 _ rfl; have pf1 := P6.free 0; obtain ⟨A6, cap6, rfl, h61, h62⟩ := ownsRow_form R6; have R6' := Lib.hid R6; have g6' := Lib.hid g6; have f6' := Lib.hid f6; clear R6 g6 f6 P6))
      all_goals
        go_wp2_with fail
        go_ret
        exact ⟨rfl, net_more (x := ⟨c, u, ep, sq, ak, bd⟩) HN.out HV.out HB.out R6'.out g6'.out (fun g e => by
          rcases f6'.out g e with h | h
          · exact .inl (HV.out ▸ h)
          · exact .inr (by have := HB.out.size; omega))⟩
end Go.Proofs.Ytkdopflnaeejeaa
