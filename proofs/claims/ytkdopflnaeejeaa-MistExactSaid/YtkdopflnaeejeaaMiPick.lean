/-
  The eldest datagram; one that is picked; one that is copied.
-/
import Derived.Test.YtkdopflnaeejeaaMiPull
namespace Go.Proofs.Ytkdopflnaeejeaa
open Go.RowKit
set_option linter.unusedVariables false
set_option linter.unusedSimpArgs false

theorem pull_any (p : Nat) (r : Option Nat) (q : List Gr) (i : Int) (w : World) (hN : NetAt 53 w p r q) :
    Calls Try.prog 23 #[.pointer (some ⟨p, 0, none⟩), .int .i64 i] w (PullOut 53 p r (pullG q i) w) := by
  by_cases h : i < 0 ∨ (q.length : Int) ≤ i
  · exact pull_out p r q i w hN h
  · obtain ⟨k, rfl⟩ : ∃ k : Nat, i = k := ⟨i.toNat, by omega⟩
    exact pull_in p r q k (q[k]'(by omega)) w hN (List.getElem?_eq_getElem _)
/-- What lay outside the net lies as it lay. -/
theorem NetOut.has {t : TypeId} {p : Nat} {r : Option Nat} {l l0 : List Gr} {w w' : World} (h : NetOut t p r l w w') {b : Nat} {o : Obj} (hb : Has w b o) (hz : ¬ zone p r b) : Has w' b o := by
  obtain ⟨r', _, hk, _⟩ := h
  exact hb.held hk hz
/-- What a call on a net leaves, seen from the world ahead of what was laid before it, and behind a store into that. -/
theorem NetOut.wrap {t : TypeId} {p b : Nat} {r : Option Nat} {l l0 : List Gr} {w0 w1 w2 w3 : World} (hN : NetAt t w0 p r l0) (h1 : Below w0.heap.size w0 w1) (h : NetOut t p r l w1 w2) (hb : But b w2 w3) (hb0 : w0.heap.size ≤ b) (hb1 : b < w1.heap.size) : NetOut t p r l w0 w3 := by
  obtain ⟨r', hN', hk, hf⟩ := h
  have hlt := hN.lt
  have hs := h1.size
  refine ⟨r', hN'.held (S := fun k => k = b) (Kept.but hb rfl) ?_, ((Kept.of h1).trans hk).join (Kept.but (S := fun k => k = b) hb rfl) (fun k e => .inr (by omega)), fun g e => ?_⟩
  · rintro j (rfl | e) h
    · have := hlt j (.inl rfl); omega
    · rcases hf j e with h' | h'
      · have := hlt j (.inr h'); omega
      · omega
  · rcases hf g e with h' | h'
    · exact .inl h'
    · exact .inr (by omega)
theorem NetOut.lift {t : TypeId} {p : Nat} {r : Option Nat} {l : List Gr} {w0 w1 w2 : World} (h1 : Below w0.heap.size w0 w1) (h : NetOut t p r l w1 w2) : NetOut t p r l w0 w2 := by
  obtain ⟨r', hN', hk, hf⟩ := h
  have hs := h1.size
  refine ⟨r', hN', (Kept.of h1).trans hk, fun g e => ?_⟩
  rcases hf g e with h' | h'
  · exact .inl h'
  · exact .inr (by omega)
def grZero : Obj := .cells #[.int .i64 0, .bool false, .int .i64 0, .int .i64 0, .int .i64 0, .string ⟨#[]⟩] 27
set_option maxRecDepth 100000 in
set_option maxHeartbeats 2000000 in
theorem eldest_some (p : Nat) (r : Option Nat) (q : List Gr) (w : World) (hN : NetAt 53 w p r q) :
    Calls Try.prog 10 #[.pointer (some ⟨p, 0, none⟩)] w (PullOut 53 p r (pullG q 0) w) := by
  obtain ⟨fs, hu⟩ := gramUnd
  have Hu := Lib.hid hu
  have CP := Lib.hid (fun w h => pull_any p r q 0 w h)
  obtain ⟨R, hR⟩ : ∃ R, pullG q 0 = R := ⟨_, rfl⟩
  rw [hR] at CP ⊢
  have hlt := hN.lt
  have HN := Lib.hid hN
  have hz : ¬ zone p r w.heap.size := fun h => by have := hlt _ h; omega
  have Hz := Lib.hid hz
  clear hu hR hN hlt hz
  obtain ⟨l, ⟨c, u, ep, sq, ak, bd⟩, b⟩ := R
  go_enter Try.func10, Try.ntmps10
  go_wp2_with fail
  refine (CP.out _ (HN.out.below (bnew w _))).mono ?_
  rintro e w1 ⟨rfl, ho⟩
  have Z := Lib.hid (ho.has (l0 := q) (Has.new w _) Hz.out)
  have HO := Lib.hid ho
  clear ho
  simp only [Gr.val]
  go_wp2_with ((with_reducible refine at_store rfl ?_); refine wpList_put_row rfl _ _ _ rfl rfl w.heap.size _ rfl rfl _ _ Z.out (by kernel_rfl) rfl (by first | kernel_rfl | simp [Value.oneCell']) ?_; intro w8 Z8 B8)
  (try simp only [Exit.inBlock, Exit.then])
  refine bodyPost_ret (v := .tuple #[.agg #[.int .i64 c, .bool u, .int .i64 ep, .int .i64 sq, .int .i64 ak, .string bd], .bool b]) ?_ rfl ⟨rfl, NetOut.wrap HN.out (bnew w _) HO.out B8 (Nat.le_refl _) (by simp)⟩
  refine Eq.trans (gr_results (p := 2) (u := 3) ?_ _ _ w.heap.size _ _ _ fs ?_ Z8 Hu.out (by kernel_rfl)) ?_
  all_goals rfl
set_option maxRecDepth 100000 in
set_option maxHeartbeats 2000000 in
theorem eldest_nil (w : World) :
    Calls Try.prog 10 #[.pointer none] w fun e w' => e = .returned (.tuple #[Gr.none.val, .bool false]) ∧ Below w.heap.size w w' := by
  obtain ⟨fs, hu⟩ := gramUnd
  have Hu := Lib.hid hu
  have CP := Lib.hid (fun w => pull_nil 0 w)
  clear hu
  go_enter Try.func10, Try.ntmps10
  go_wp2_with fail
  refine (CP.out _).mono ?_
  rintro e w1 ⟨rfl, b1⟩
  have Z := Lib.hid ((Has.new w _).below b1)
  have B := Lib.hid (bup (bnew w _) b1)
  clear b1
  simp only [Gr.val, Gr.none]
  go_wp2_with ((with_reducible refine at_store rfl ?_); refine wpList_put_row rfl _ _ _ rfl rfl w.heap.size _ rfl rfl _ _ Z.out (by kernel_rfl) rfl (by first | kernel_rfl | simp [Value.oneCell']) ?_; intro w8 Z8 B8)
  (try simp only [Exit.inBlock, Exit.then])
  refine bodyPost_ret (v := .tuple #[.agg #[.int .i64 0, .bool false, .int .i64 0, .int .i64 0, .int .i64 0, .string ⟨#[]⟩], .bool false]) ?_ rfl ⟨rfl, B.out.trans (B8.below (Nat.le_refl _) B.out.size)⟩
  refine Eq.trans (gr_results (p := 2) (u := 3) ?_ _ _ w.heap.size _ _ _ fs ?_ Z8 Hu.out (by kernel_rfl)) ?_
  all_goals rfl
set_option maxRecDepth 100000 in
set_option maxHeartbeats 2000000 in
theorem pick_some (p : Nat) (r : Option Nat) (q : List Gr) (c0 : Int) (u0 : Bool) (k : Int) (w : World) (hN : NetAt 53 w p r q) (hk1 : -9223372036854775808 ≤ k) (hk2 : k ≤ 9223372036854775807) :
    Calls Try.prog 11 #[.pointer (some ⟨p, 0, none⟩), .int .i64 c0, .bool u0, .int .i64 k] w (PullOut 53 p r (pickG q c0 u0 k) w) := by
  obtain ⟨fs, hu⟩ := gramUnd
  have Hu := Lib.hid hu
  have CA := Lib.hid (fun w h => place_some 53 p r c0 u0 k q w h hk1 hk2)
  unfold pickG
  obtain ⟨i, hi⟩ : ∃ i, plc c0 u0 q k = i := ⟨_, rfl⟩
  rw [hi] at CA ⊢
  have CP := Lib.hid (fun w h => pull_any p r q i w h)
  obtain ⟨R, hR⟩ : ∃ R, pullG q i = R := ⟨_, rfl⟩
  rw [hR] at CP ⊢
  have hlt := hN.lt
  have HN := Lib.hid hN
  have hz : ¬ zone p r w.heap.size := fun h => by have := hlt _ h; omega
  have Hz := Lib.hid hz
  clear hu hR hN hlt hz hi hk1 hk2
  obtain ⟨l, ⟨c, u, ep, sq, ak, bd⟩, b⟩ := R
  go_enter Try.func11, Try.ntmps11
  go_wp2_with fail
  refine (CA.out _ (HN.out.below (bnew w _))).mono ?_
  rintro e w1 ⟨rfl, b1⟩
  have B1 := Lib.hid (bup (bnew w _) b1)
  have Z1 := Lib.hid ((Has.new w _).below b1)
  clear b1
  go_wp2_with fail
  refine (CP.out _ (HN.out.below B1.out)).mono ?_
  rintro e w2 ⟨rfl, ho⟩
  have Z := Lib.hid (ho.has (l0 := q) Z1.out Hz.out)
  have HO := Lib.hid ho
  have hl1 := Z1.out.lt
  clear ho
  simp only [Gr.val]
  go_wp2_with ((with_reducible refine at_store rfl ?_); refine wpList_put_row rfl _ _ _ rfl rfl w.heap.size _ rfl rfl _ _ Z.out (by kernel_rfl) rfl (by first | kernel_rfl | simp [Value.oneCell']) ?_; intro w8 Z8 B8)
  (try simp only [Exit.inBlock, Exit.then])
  refine bodyPost_ret (v := .tuple #[.agg #[.int .i64 c, .bool u, .int .i64 ep, .int .i64 sq, .int .i64 ak, .string bd], .bool b]) ?_ rfl ⟨rfl, NetOut.wrap HN.out B1.out HO.out B8 (Nat.le_refl _) hl1⟩
  refine Eq.trans (gr_results (p := 8) (u := 9) ?_ _ _ w.heap.size _ _ _ fs ?_ Z8 Hu.out (by kernel_rfl)) ?_
  all_goals rfl
set_option maxRecDepth 100000 in
set_option maxHeartbeats 2000000 in
theorem copy_nil (c0 : Int) (u0 : Bool) (k : Int) (w : World) :
    Calls Try.prog 15 #[.pointer none, .int .i64 c0, .bool u0, .int .i64 k] w fun e w' => e = .returned (.bool false) ∧ Below w.heap.size w w' := by
  have CA := Lib.hid (fun w => place_nil c0 u0 k w)
  go_enter Try.func15, Try.ntmps15
  go_wp2_with fail
  refine (CA.out _).mono ?_
  rintro e w1 ⟨rfl, b1⟩
  go_wp2_with fail
  go_ret
  exact ⟨rfl, b1⟩
theorem copyG_in {q : List Gr} {c0 : Int} {u0 : Bool} {k : Int} {i : Nat} {x : Gr} (hi : plc c0 u0 q k = (i : Int)) (hx : q[i]? = some x) : copyG q c0 u0 k = ((putG q x).1, (putG q x).2 == 0) := by
  unfold copyG
  rw [hi, if_pos (by omega), Int.toNat_natCast, hx]
theorem copyG_out {q : List Gr} {c0 : Int} {u0 : Bool} {k : Int} (hi : plc c0 u0 q k < 0) : copyG q c0 u0 k = (q, false) := by
  unfold copyG
  rw [if_neg (by omega)]
set_option maxRecDepth 100000 in
set_option maxHeartbeats 2000000 in
theorem copy_some (p : Nat) (r : Option Nat) (q : List Gr) (c0 : Int) (u0 : Bool) (k : Int) (w : World) (hN : NetAt 53 w p r q) (hq : q.length ≤ 1000000) (hk1 : -9223372036854775808 ≤ k) (hk2 : k ≤ 9223372036854775807) :
    Calls Try.prog 15 #[.pointer (some ⟨p, 0, none⟩), .int .i64 c0, .bool u0, .int .i64 k] w fun e w' => e = .returned (.bool (copyG q c0 u0 k).2) ∧ NetOut 53 p r (copyG q c0 u0 k).1 w w' := by
  have CA := Lib.hid (fun w h => place_some 53 p r c0 u0 k q w h hk1 hk2)
  have HN := Lib.hid hN
  clear hk1 hk2
  by_cases h0 : plc c0 u0 q k < 0
  · rw [copyG_out h0]
    rw [plc_neg h0] at CA
    clear h0 hN
    go_enter Try.func15, Try.ntmps15
    go_wp2_with fail
    refine (CA.out _ HN.out).mono ?_
    rintro e w1 ⟨rfl, b1⟩
    go_wp2_with fail
    go_ret
    exact ⟨rfl, NetOut.same HN.out b1⟩
  · obtain ⟨i, x, hi, hx, _⟩ := plc_some (show 0 ≤ plc c0 u0 q k by omega)
    rw [copyG_in hi hx]
    rw [hi] at CA
    have hil : i < q.length := (List.getElem?_eq_some_iff.1 hx).1
    have CP := Lib.hid (fun w h => put_some p r q x w h hq)
    obtain ⟨R, hR⟩ : ∃ R, putG q x = R := ⟨_, rfl⟩
    rw [hR] at CP ⊢
    obtain ⟨A, cap, hp, hrow, hv, hle, hcap, hat⟩ := hN.open
    obtain ⟨g, rfl, hr, hG⟩ := hat i x hx
    have HG := Lib.hid hG
    have HP := Lib.hid hp
    obtain ⟨n, hn⟩ : ∃ n, q.length = n := ⟨_, rfl⟩
    rw [hn] at HP hle hil
    clear h0 hN hi hx hat hG hp hrow hv hr hR hn
    obtain ⟨l, er⟩ := R
    obtain ⟨c, u, ep, sq, ak, bd⟩ := x
    simp only [Gr.val] at CP
    go_enter Try.func15, Try.ntmps15
    go_wp2_with fail
    refine (CA.out _ HN.out).mono ?_
    rintro e w1 ⟨rfl, b1⟩
    have G1 := HG.out.below HG.out.lt b1
    have d0 := G1.a0
    have d1 := G1.a1
    have d2 := G1.a2
    have d3 := G1.a3
    have d4 := G1.a4
    have d5 := G1.a5
    simp only at d0 d1 d2 d3 d4 d5
    have p0 := (HP.out.below b1).cell 0 _ rfl
    have B1 := Lib.hid b1
    clear b1 G1
    go_wp2_with fail
    refine (CP.out _ (HN.out.below B1.out)).mono ?_
    rintro e w2 ⟨rfl, ho⟩
    have HO := Lib.hid ho
    clear ho
    go_wp2_with fail
    go_ret
    exact ⟨rfl, HO.out.lift B1.out⟩
end Go.Proofs.Ytkdopflnaeejeaa
