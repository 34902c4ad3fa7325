/-
  A datagram that is pulled out of a net.
-/
import Derived.Test.YtkdopflnaeejeaaMiDel
import Derived.Test.YtkdopflnaeejeaaStore
namespace Go.Proofs.Ytkdopflnaeejeaa
open Go.RowKit
set_option linter.unusedVariables false
set_option linter.unusedSimpArgs false

theorem pullG_in {q : List Gr} {i : Nat} {x : Gr} (h : q[i]? = some x) : pullG q (i : Int) = (q.eraseIdx i, x, true) := by
  unfold pullG
  rw [if_pos (by omega), Int.toNat_natCast, h]
theorem pullG_out {q : List Gr} {i : Int} (h : i < 0 ∨ (q.length : Int) ≤ i) : pullG q i = (q, Gr.none, false) := by
  unfold pullG
  by_cases h0 : 0 ≤ i
  · rw [if_pos h0, List.getElem?_eq_none (by omega)]
  · rw [if_neg h0]
theorem ownBlock_at {g j n c : Nat} (e : (Value.slice (some ⟨g, 0, none⟩) n c).ownBlock = some j) : g = j := by simpa [Value.ownBlock] using e
/-- A datagram and a mark come out. -/
def PullOut (t : TypeId) (p : Nat) (r : Option Nat) (R : List Gr × Gr × Bool) (w : World) (e : Ending) (w' : World) : Prop :=
  e = .returned (.tuple #[R.2.1.val, .bool R.2.2]) ∧ NetOut t p r R.1 w w'
set_option maxRecDepth 100000 in
set_option maxHeartbeats 2000000 in
theorem pull_out (p : Nat) (r : Option Nat) (q : List Gr) (i : Int) (w : World) (hN : NetAt 53 w p r q) (hi : i < 0 ∨ (q.length : Int) ≤ i) :
    Calls Try.prog 23 #[.pointer (some ⟨p, 0, none⟩), .int .i64 i] w (PullOut 53 p r (pullG q i) w) := by
  obtain ⟨fs, hu⟩ := gramUnd
  have Hu := Lib.hid hu
  clear hu
  rw [pullG_out hi]
  obtain ⟨A, cap, hp, _, _, hle, hcap, _⟩ := hN.open
  have HN := Lib.hid hN
  have hpl := hp.lt
  have p0 := hp.cell 0 _ rfl
  clear hN
  rcases (show i < 0 ∨ (0 ≤ i ∧ (q.length : Int) ≤ i) by omega) with h | ⟨h, h'⟩
  all_goals
    go_enter Try.func23, Try.ntmps23
    go_wp2_with fail
    (try simp only [Exit.inBlock, Exit.then])
    refine bodyPost_ret (v := .tuple #[.agg #[.int .i64 0, .bool false, .int .i64 0, .int .i64 0, .int .i64 0, .string ⟨#[]⟩], .bool false]) ?_ rfl ⟨rfl, NetOut.same HN.out (bnew w _)⟩
    refine Eq.trans (gr_results (p := 4) (u := 5) ?_ _ _ w.heap.size _ _ _ fs ?_ (Has.new w _) Hu.out (by kernel_rfl)) ?_
    all_goals rfl
set_option maxRecDepth 100000 in
set_option maxHeartbeats 2000000 in
theorem pull_nil (i : Int) (w : World) :
    Calls Try.prog 23 #[.pointer none, .int .i64 i] w fun e w' => e = .returned (.tuple #[Gr.none.val, .bool false]) ∧ Below w.heap.size w w' := by
  obtain ⟨fs, hu⟩ := gramUnd
  have Hu := Lib.hid hu
  clear hu
  go_enter Try.func23, Try.ntmps23
  go_wp2_with fail
  (try simp only [Exit.inBlock, Exit.then])
  refine bodyPost_ret (v := .tuple #[.agg #[.int .i64 0, .bool false, .int .i64 0, .int .i64 0, .int .i64 0, .string ⟨#[]⟩], .bool false]) ?_ rfl ⟨rfl, bnew w _⟩
  refine Eq.trans (gr_results (p := 4) (u := 5) ?_ _ _ w.heap.size _ _ _ fs ?_ (Has.new w _) Hu.out (by kernel_rfl)) ?_
  all_goals rfl
set_option maxRecDepth 100000 in
set_option maxHeartbeats 2000000 in
theorem pull_in (p : Nat) (r : Option Nat) (q : List Gr) (i : Nat) (x : Gr) (w : World) (hN : NetAt 53 w p r q) (hx : q[i]? = some x) :
    Calls Try.prog 23 #[.pointer (some ⟨p, 0, none⟩), .int .i64 (i : Int)] w (PullOut 53 p r (pullG q i) w) := by
  obtain ⟨fs, hu⟩ := gramUnd
  have Hu := Lib.hid hu
  clear hu
  rw [pullG_in hx]
  have hi : i < q.length := (List.getElem?_eq_some_iff.1 hx).1
  obtain ⟨A, cap, hp, hrow, hv, hle, hcap, hat⟩ := hN.open
  obtain ⟨g, rfl, hr, hG⟩ := hat i x hx
  have hne : g ≠ p := fun e => hN.ne (by rw [hr, e])
  have CD := fun w h => delete_any g cap i q w h hi
  obtain ⟨n, hn⟩ : ∃ n, q.length = n := ⟨_, rfl⟩
  obtain ⟨m, hm⟩ : ∃ m, (q.eraseIdx i).length = m := ⟨_, rfl⟩
  rw [hn] at CD hp hrow hi hle
  rw [hm] at CD
  have CD' := Lib.hid CD
  have Hm := Lib.hid hm
  clear hn hm
  obtain ⟨c, u, ep, sq, ak, bd⟩ := x
  have d0 := hG.a0
  have d1 := hG.a1
  have d2 := hG.a2
  have d3 := hG.a3
  have d4 := hG.a4
  have d5 := hG.a5
  simp only at d0 d1 d2 d3 d4 d5
  have hgl := hG.lt
  have HN := Lib.hid hN
  have HP := Lib.hid hp
  have HR := Lib.hid hrow
  have hpl := hp.lt
  have p0 := hp.cell 0 _ rfl
  have Hr := Lib.hid hr
  have Hv := Lib.hid hv
  clear hN CD hG hrow hx hat hp hr hv
  go_enter Try.func23, Try.ntmps23
  go_wp2_with fail
  have BW : Below w.heap.size w ((w.alloc (.cells #[.int .i64 0, .bool false, .int .i64 0, .int .i64 0, .int .i64 0, .string ⟨#[]⟩] 27)).alloc (.cells #[.int .i64 c, .bool u, .int .i64 ep, .int .i64 sq, .int .i64 ak, .string bd] 27)) := bup (bnew w _) (bnew _ _)
  refine (CD'.out _ (HR.out.held (S := fun _ => False) (Kept.of BW) (fun _ _ e => e))).mono ?_
  rintro e w3 ⟨rfl, R3, b3⟩
  have P3 := Lib.hid ((HP.out.below BW).but b3 (fun e => hne e.symm))
  have Z3 := Lib.hid (((Has.new w (.cells #[.int .i64 0, .bool false, .int .i64 0, .int .i64 0, .int .i64 0, .string ⟨#[]⟩] 27)).alloc (.cells #[.int .i64 c, .bool u, .int .i64 ep, .int .i64 sq, .int .i64 ak, .string bd] 27)).but b3 (by omega))
  have C3 := Lib.hid ((Has.new1 w (.cells #[.int .i64 0, .bool false, .int .i64 0, .int .i64 0, .int .i64 0, .string ⟨#[]⟩] 27) (.cells #[.int .i64 c, .bool u, .int .i64 ep, .int .i64 sq, .int .i64 ak, .string bd] 27)).but b3 (by omega))
  have K3 : Hid (Kept (zone p r) w w3) := Lib.hid ((Kept.of BW).trans (Kept.but b3 (.inr Hr.out)))
  have R3' := Lib.hid R3
  have q0 := P3.out.cell 0 _ rfl
  have qf := P3.out.free 0
  clear BW R3 b3 d0 d1 d2 d3 d4 d5 p0
  go_upto_region 5 with (fail)
  have P4 : Hid (Has (w3.setCell ⟨p, 0, none⟩ (.slice (some ⟨g, 0, none⟩) m cap)) p (.cells #[.slice (some ⟨g, 0, none⟩) m cap] 53)) := Lib.hid (P3.out.set 0 (.slice (some ⟨g, 0, none⟩) m cap))
  have Z4 := Lib.hid (Z3.out.setOther (g := p) (by omega) 0 (.slice (some ⟨g, 0, none⟩) m cap))
  have C4 := Lib.hid (C3.out.setOther (g := p) (by omega) 0 (.slice (some ⟨g, 0, none⟩) m cap))
  have K4 := Lib.hid (K3.out.trans (Kept.but (But.set p 0 w3 (.slice (some ⟨g, 0, none⟩) m cap)) (.inl rfl)))
  have R4 := Lib.hid (R3'.out.held (S := fun k => k = p) (Kept.but (But.set p 0 w3 (.slice (some ⟨g, 0, none⟩) m cap)) rfl) (fun j e h => hne ((ownBlock_at e).trans h)))
  generalize hw4 : World.setCell w3 _ _ = w4
  rw [hw4] at P4 Z4 C4 K4 R4
  clear hw4 P3 Z3 C3 K3 R3' q0 qf
  have c0 := C4.out.cell 0 _ rfl
  have c1 := C4.out.cell 1 _ rfl
  have c2 := C4.out.cell 2 _ rfl
  have c3 := C4.out.cell 3 _ rfl
  have c4 := C4.out.cell 4 _ rfl
  have c5 := C4.out.cell 5 _ rfl
  go_wp2_with ((with_reducible refine at_store rfl ?_); refine wpList_put_row rfl _ _ _ rfl rfl w.heap.size _ rfl rfl _ _ Z4.out (by kernel_rfl) rfl (by first | kernel_rfl | simp [Value.oneCell']) ?_; intro w8 Z8 B8)
  (try simp only [Exit.inBlock, Exit.then])
  have hwl := K4.out.size
  refine bodyPost_ret (v := .tuple #[.agg #[.int .i64 c, .bool u, .int .i64 ep, .int .i64 sq, .int .i64 ak, .string bd], .bool true]) ?_ rfl ⟨rfl, r, ⟨⟨.slice (some ⟨g, 0, none⟩) m cap, P4.out.but B8 (by omega), R4.out.held (S := fun k => k = w.heap.size) (Kept.but B8 rfl) ?_, by rw [Hr.out]; rfl⟩, HN.out.ne⟩, ?_, fun j e => .inl e⟩
  · refine Eq.trans (gr_results (p := 4) (u := 5) ?_ _ _ w.heap.size _ _ _ fs ?_ Z8 Hu.out (by kernel_rfl)) ?_
    all_goals rfl
  · intro j e h
    have := ownBlock_at e
    omega
  · exact K4.out.join (Kept.but (S := fun k => k = w.heap.size) B8 rfl) (fun k e => .inr (by omega))
end Go.Proofs.Ytkdopflnaeejeaa
