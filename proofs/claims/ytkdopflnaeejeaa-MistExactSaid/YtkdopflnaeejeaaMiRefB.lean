/-
  The reference net: what is taken out, picked, copied, cleared.
-/
import Derived.Test.YtkdopflnaeejeaaMiRefA
import Derived.Test.YtkdopflnaeejeaaMiClear
namespace Go.Proofs.Ytkdopflnaeejeaa
open Go.RowKit
set_option linter.unusedVariables false
set_option linter.unusedSimpArgs false

theorem NetOut.wrap2 {t : TypeId} {p b : Nat} {r : Option Nat} {l l0 : List Gr} {w0 w1 w2 w3 : World} (hN : NetAt t w0 p r l0) (h1 : Below w0.heap.size w0 w1) (h : NetOut t p r l w1 w2) (hb : But b w2 w3) (hb0 : w0.heap.size ≤ b) (hb1 : b < w1.heap.size) : NetOut t p r l w0 w3 := NetOut.wrap hN h1 h hb hb0 hb1
set_option maxRecDepth 100000 in
set_option maxHeartbeats 2000000 in
theorem rdrop_any (p : Nat) (r : Option Nat) (q : List Gr) (i : Nat) (w : World) (hN : NetAt 48 w p r q) (hi : i < q.length) (hq : q.length ≤ 1000000) :
    Calls Try.prog 29 #[.pointer (some ⟨p, 0, none⟩), .int .i64 (i : Int)] w fun e w' => (∃ v, e = .returned v) ∧ NetOut 48 p r (q.eraseIdx i) w w' := by
  obtain ⟨A0, cap, hp, hrow, hv, hle, hcap, hat⟩ := hN.open
  obtain ⟨g, rfl, hr, hGx⟩ := hat i (q[i]'hi) (List.getElem?_eq_getElem hi)
  have hne : g ≠ p := fun e => hN.ne (by rw [hr, e])
  obtain ⟨n, hn⟩ : ∃ n, q.length = n := ⟨_, rfl⟩
  have hgl : g < w.heap.size := hN.lt g (.inr hr)
  have T1 := Lib.hid (show (flatG (q.take i)).length = i * 6 by rw [flatG_len, List.length_take, Nat.min_eq_left (by omega)])
  have T2 := Lib.hid (show (flatG (q.drop (i + 1))).length = (n - (i + 1)) * 6 by rw [flatG_len, List.length_drop, hn])
  have CL : Hid (∀ W, RowG 0 W (.slice (some ⟨g, 0, none⟩) q.length cap) q → ∀ j u, (flatG (q.take i))[j]? = some u → W.cell? ((⟨g, 0, none⟩ : Addr).add j) = some u) := Lib.hid (fun W hW j u hu => by
    have hj : j < i * 6 := by rw [← T1.out]; exact (List.getElem?_eq_some_iff.1 hu).1
    rw [Addr.add_lit]
    have := World.ownsRow.cellAt hW j (by omega)
    rw [Nat.zero_add, this, ← hu, flatG_take, List.getElem?_take, if_pos (by omega)])
  obtain ⟨A, hA, hcells⟩ : ∃ A : Addr, (if cap = i + 1 then some (⟨g, 0, none⟩ : Addr) else some ⟨g, (i + 1) * 6, none⟩) = some A ∧ Hid (∀ W, RowG 0 W (.slice (some ⟨g, 0, none⟩) q.length cap) q → ∀ j u, (flatG (q.drop (i + 1)))[j]? = some u → W.cell? (A.add j) = some u) := by
    by_cases hx : cap = i + 1
    · refine ⟨_, if_pos hx, Lib.hid (fun W hW j u hu => ?_)⟩
      have : (flatG (q.drop (i + 1))) = [] := List.eq_nil_of_length_eq_zero (by rw [T2.out]; omega)
      rw [this] at hu; simp at hu
    · refine ⟨_, if_neg hx, Lib.hid (fun W hW j u hu => ?_)⟩
      have hj : j < (n - (i + 1)) * 6 := by rw [← T2.out]; exact (List.getElem?_eq_some_iff.1 hu).1
      rw [Addr.add_lit]
      have := World.ownsRow.cellAt hW ((i + 1) * 6 + j) (by omega)
      rw [this, ← hu, flatG_drop, List.getElem?_drop]
  have HE : Hid (flatG q = flatG q ∧ (q.eraseIdx i).length = i + (n - (i + 1)) ∧ flatG (q.eraseIdx i) = flatG (q.take i) ++ flatG (q.drop (i + 1))) := Lib.hid ⟨rfl, by rw [List.length_eraseIdx_of_lt hi, hn]; omega, flatG_erase q i⟩
  have HR0 : Hid (RowG 0 (w.alloc (.cells #[] 27)) (.slice (some ⟨g, 0, none⟩) q.length cap) q) := Lib.hid (hrow.held (S := fun _ => False) (Kept.of (bnew w _)) (fun _ _ e => e))
  have HE0 := Lib.hid (RowG.empty 0 w (by omega))
  have HN := Lib.hid hN
  have Hr := Lib.hid hr
  rw [hn] at hp
  have P1 := Lib.hid (hp.alloc (.cells #[] 27))
  have Hn := Lib.hid hn
  have hpl := hp.lt
  have HT1 := Lib.hid (flatG_one (q.take i))
  have HT2 := Lib.hid (flatG_one (q.drop (i + 1)))
  obtain ⟨X1, hX1⟩ : ∃ X, flatG (q.take i) = X := ⟨_, rfl⟩
  obtain ⟨X2, hX2⟩ : ∃ X, flatG (q.drop (i + 1)) = X := ⟨_, rfl⟩
  rw [hX1] at T1 CL HE HT1
  rw [hX2] at T2 hcells HE HT2
  have hin : i < n := by omega
  have hnm : n ≤ 1000000 := by omega
  have hnc : n ≤ cap := by omega
  have p0 := P1.out.cell 0 _ rfl
  clear hN hrow hv hle hat hr hGx hn hp hi hq hX1 hX2
  have hwr : IntKind.i64.wrap ((i : Int) + 1) = (i : Int) + 1 := by rw [IntKind.wrap_i64]; omega
  have hp0 : (0 : Int) ≤ (i : Int) + 1 := by omega
  have hp1 : (i : Int) + 1 ≤ (n : Int) := by omega
  have hp2 : ((i : Int) + 1).toNat = i + 1 := by omega
  have hic : i ≤ cap := by omega
  go_enter Try.func29, Try.ntmps29
  go_upto_region 1 with (at_builtin; refine grow_own gramElem rfl (.tmp 5) (.tmp 11) rfl _ (.slice (some ⟨w.heap.size, 0, none⟩) 0 0) 0 (flatG []) rfl HE0.out (some ⟨g, 0, none⟩) i cap X1 rfl T1.out (.inr ⟨_, rfl, CL.out _ HR0.out⟩) HT1.out (by omega) (by omega) ?_; intro v2 w2 R2 g2 f2; obtain ⟨A2, cap2, rfl, h21, h22⟩ := ownsRow_form R2; have R2' := Lib.hid R2; have g2' := Lib.hid g2; have f2' := Lib.hid f2; clear R2 g2 f2)
  have hf2 : ∀ k, (Value.slice A2 (0 + i) cap2).ownBlock = some k → w.heap.size ≤ k := fun k e => by
    rcases f2'.out k e with h | h
    · have := ownBlock_at h; omega
    · simp at h; omega
  have K2 : Hid (Kept (fun k => w.heap.size ≤ k) w w2) := Lib.hid ((Kept.of (bnew w _)).trans (Kept.grown g2'.out (fun k e => by have := ownBlock_at e; omega)))
  have P2 := Lib.hid (P1.out.held (S := fun k => k = w.heap.size) (Kept.grown g2'.out (fun k e => (ownBlock_at e).symm)) (by omega))
  have HR2 := Lib.hid (HR0.out.held (S := fun k => k = w.heap.size) (Kept.grown g2'.out (fun k e => (ownBlock_at e).symm)) (fun k e h => by have := ownBlock_at e; omega))
  have HF2 := Lib.hid hf2
  clear g2' f2' hf2 p0 HR0 P1
  have p0 := P2.out.cell 0 _ rfl
  have hX0 : flatG [] ++ X1 = X1 := rfl
  rw [hX0, Nat.zero_add] at R2'
  rw [Nat.zero_add] at HF2
  rw [Nat.zero_add] at h21
  try rw [Nat.zero_add]
  clear hX0
  go_wp2_with (at_builtin; refine grow_own gramElem rfl (.tmp 14) (.tmp 21) rfl _ _ i X1 (by simp [Act.eval, Act.put]) R2'.out (some A) (n - (i + 1)) (cap - (i + 1)) X2 (by simp [Act.eval, Act.put, hA]) T2.out (.inr ⟨_, rfl, hcells.out _ HR2.out⟩) HT2.out (by omega) (by omega) ?_; intro v3 w3 R3 g3 f3; obtain ⟨A3, cap3, rfl, h31, h32⟩ := ownsRow_form R3; have R3' := Lib.hid R3; have g3' := Lib.hid g3; have f3' := Lib.hid f3; clear R3 g3 f3; have P3 := Lib.hid (P2.out.held (S := fun k => w.heap.size ≤ k) (Kept.grown g3'.out (fun k e => HF2.out k e)) (by omega)); have p3 := P3.out.cell 0 _ rfl; have pf := P3.out.free 0)
  go_end0
  have hf3 : ∀ k, (Value.slice A3 (i + (n - (i + 1))) cap3).ownBlock = some k → w.heap.size ≤ k := fun k e => by
    rcases f3'.out k e with h | h
    · exact HF2.out k h
    · have := K2.out.size; omega
  have hRR : RowG 0 w3 (.slice A3 (i + (n - (i + 1))) cap3) (q.eraseIdx i) := by
    unfold RowG
    rw [HE.out.2.1, HE.out.2.2]
    exact R3'.out
  have hK3 : Kept (fun k => w.heap.size ≤ k) w w3 := K2.out.trans (Kept.grown g3'.out (fun k e => HF2.out k e))
  refine ⟨⟨_, rfl⟩, _, ⟨⟨_, P3.out.set 0 _, hRR.held (S := fun k => k = p) (Kept.but (But.set p 0 w3 _) rfl) (fun k e h => by have := hf3 k e; omega), rfl⟩, fun e => by have := hf3 _ e; omega⟩, ?_, fun k e => .inr (hf3 k e)⟩
  exact (Kept.of (hK3.below (fun _ h => h) (Nat.le_refl _))).trans (Kept.but (But.set p 0 w3 _) (.inl rfl))
/-- One that stands in the net is taken out: the shared end of a pick. -/
theorem NetOut.below {t : TypeId} {p : Nat} {r : Option Nat} {l : List Gr} {w0 w1 : World} (h : NetOut t p r l w0 w1) {l0 : List Gr} (hN : NetAt t w0 p r l0) : w0.heap.size ≤ w1.heap.size := by
  obtain ⟨_, _, k, _⟩ := h
  exact k.size
set_option maxRecDepth 100000 in
set_option maxHeartbeats 2000000 in
theorem reldest_any (p : Nat) (r : Option Nat) (q : List Gr) (w : World) (hN : NetAt 48 w p r q) (hq : q.length ≤ 1000000) :
    Calls Try.prog 19 #[.pointer (some ⟨p, 0, none⟩)] w (PullOut 48 p r (pullG q 0) w) := by
  obtain ⟨fs, hu⟩ := gramUnd
  have Hu := Lib.hid hu
  clear hu
  obtain ⟨A0, cap, hp, hrow, hv, hle, hcap, hat⟩ := hN.open
  cases q with
  | nil =>
    rw [pull_none]
    have hpl := hp.lt
    have p0 := hp.cell 0 _ rfl
    have HN := Lib.hid hN
    clear hN hat hrow hp hv
    go_enter Try.func19, Try.ntmps19
    go_wp2_with fail
    (try simp only [Exit.inBlock, Exit.then])
    refine bodyPost_ret (v := .tuple #[.agg #[.int .i64 0, .bool false, .int .i64 0, .int .i64 0, .int .i64 0, .string ⟨#[]⟩], .bool false]) ?_ rfl ⟨rfl, NetOut.same HN.out (bnew w _)⟩
    refine Eq.trans (gr_results (p := 2) (u := 3) ?_ _ _ w.heap.size _ _ _ fs ?_ (Has.new w _) Hu.out (by kernel_rfl)) ?_
    all_goals rfl
  | cons x t =>
    rw [pull_first]
    obtain ⟨g, rfl, hr, hG⟩ := hat 0 x rfl
    have CD := Lib.hid (fun w h => rdrop_any p r (x :: t) 0 w h (by simp) hq)
    obtain ⟨c, u, ep, sq, ak, bd⟩ := x
    have d0 := hG.a0
    have d1 := hG.a1
    have d2 := hG.a2
    have d3 := hG.a3
    have d4 := hG.a4
    have d5 := hG.a5
    simp only [Nat.zero_mul, Nat.zero_add] at d0 d1 d2 d3 d4 d5
    have hgl : g < w.heap.size := block_lt_of_cell d0
    obtain ⟨n, hn⟩ : ∃ n, (⟨c, u, ep, sq, ak, bd⟩ :: t : List Gr).length = n := ⟨_, rfl⟩
    have hn1 : 1 ≤ n := by rw [← hn]; simp
    rw [hn] at hp
    have hn0 : ((n : Int) == 0) = false := by simp; omega
    have hn00 : 0 < n := hn1
    have hpl := hp.lt
    have p0 := hp.cell 0 _ rfl
    have HN := Lib.hid hN
    have Hlt := Lib.hid hN.lt
    clear hN hat hrow hp hv hG hr hn hle
    go_enter Try.func19, Try.ntmps19
    go_wp2_with fail
    have BW := Lib.hid (bup (bnew w (.cells #[.int .i64 0, .bool false, .int .i64 0, .int .i64 0, .int .i64 0, .string ⟨#[]⟩] 27)) (bnew _ (.cells #[.int .i64 c, .bool u, .int .i64 ep, .int .i64 sq, .int .i64 ak, .string bd] 27)))
    refine (CD.out _ (HN.out.below BW.out)).mono ?_
    rintro e w4 ⟨⟨v, rfl⟩, ho⟩
    have Z4 := Lib.hid (ho.has (l0 := []) ((Has.new w (.cells #[.int .i64 0, .bool false, .int .i64 0, .int .i64 0, .int .i64 0, .string ⟨#[]⟩] 27)).alloc (.cells #[.int .i64 c, .bool u, .int .i64 ep, .int .i64 sq, .int .i64 ak, .string bd] 27)) (fun h => by have := Hlt.out _ h; omega))
    have C4 := Lib.hid (ho.has (l0 := []) (Has.new1 w (.cells #[.int .i64 0, .bool false, .int .i64 0, .int .i64 0, .int .i64 0, .string ⟨#[]⟩] 27) (.cells #[.int .i64 c, .bool u, .int .i64 ep, .int .i64 sq, .int .i64 ak, .string bd] 27)) (fun h => by have := Hlt.out _ h; omega))
    have HO := Lib.hid ho
    clear ho d0 d1 d2 d3 d4 d5 p0
    have c0 := C4.out.cell 0 _ rfl
    have c1 := C4.out.cell 1 _ rfl
    have c2 := C4.out.cell 2 _ rfl
    have c3 := C4.out.cell 3 _ rfl
    have c4 := C4.out.cell 4 _ rfl
    have c5 := C4.out.cell 5 _ rfl
    go_wp2_with ((with_reducible refine at_store rfl ?_); refine wpList_put_row rfl _ _ _ rfl rfl w.heap.size _ rfl rfl _ _ Z4.out (by kernel_rfl) rfl (by first | kernel_rfl | simp [Value.oneCell']) ?_; intro w8 Z8 B8)
    (try simp only [Exit.inBlock, Exit.then])
    refine bodyPost_ret (v := .tuple #[.agg #[.int .i64 c, .bool u, .int .i64 ep, .int .i64 sq, .int .i64 ak, .string bd], .bool true]) ?_ rfl ⟨rfl, NetOut.wrap HN.out BW.out HO.out B8 (Nat.le_refl _) (by simp; omega)⟩
    refine Eq.trans (gr_results (p := 2) (u := 3) ?_ _ _ w.heap.size _ _ _ fs ?_ Z8 Hu.out (by kernel_rfl)) ?_
    all_goals rfl
set_option maxRecDepth 100000 in
set_option maxHeartbeats 2000000 in
theorem rpick_any (p : Nat) (r : Option Nat) (q : List Gr) (c0 : Int) (u0 : Bool) (k : Int) (w : World) (hN : NetAt 48 w p r q) (hq : q.length ≤ 1000000) (hk1 : -9223372036854775808 ≤ k) (hk2 : k ≤ 9223372036854775807) :
    Calls Try.prog 17 #[.pointer (some ⟨p, 0, none⟩), .int .i64 c0, .bool u0, .int .i64 k] w (PullOut 48 p r (pickG q c0 u0 k) w) := by
  obtain ⟨fs, hu⟩ := gramUnd
  have Hu := Lib.hid hu
  clear hu
  have CA := Lib.hid (fun w h => rplace_any p r c0 u0 k q w h hk1 hk2)
  have HN := Lib.hid hN
  clear hk1 hk2
  unfold pickG
  by_cases h0 : plc c0 u0 q k < 0
  · rw [pullG_out (.inl h0)]
    rw [plc_neg h0] at CA
    clear h0 hN
    go_enter Try.func17, Try.ntmps17
    go_wp2_with fail
    refine (CA.out _ (HN.out.below (bnew w _))).mono ?_
    rintro e w1 ⟨rfl, b1⟩
    have Z4 := Lib.hid ((Has.new w (.cells #[.int .i64 0, .bool false, .int .i64 0, .int .i64 0, .int .i64 0, .string ⟨#[]⟩] 27)).below b1)
    have B1 := Lib.hid (bup (bnew w (.cells #[.int .i64 0, .bool false, .int .i64 0, .int .i64 0, .int .i64 0, .string ⟨#[]⟩] 27)) b1)
    clear b1
    go_wp2_with ((with_reducible refine at_store rfl ?_); refine wpList_put_row rfl _ _ _ rfl rfl w.heap.size _ rfl rfl _ _ Z4.out (by kernel_rfl) rfl (by first | kernel_rfl | simp [Value.oneCell']) ?_; intro w8 Z8 B8)
    (try simp only [Exit.inBlock, Exit.then])
    refine bodyPost_ret (v := .tuple #[.agg #[.int .i64 0, .bool false, .int .i64 0, .int .i64 0, .int .i64 0, .string ⟨#[]⟩], .bool false]) ?_ rfl ⟨rfl, NetOut.same HN.out (B1.out.trans (B8.below (Nat.le_refl _) B1.out.size))⟩
    refine Eq.trans (gr_results (p := 8) (u := 9) ?_ _ _ w.heap.size _ _ _ fs ?_ Z8 Hu.out (by kernel_rfl)) ?_
    all_goals rfl
  · obtain ⟨i, x, hi, hx, _⟩ := plc_some (show 0 ≤ plc c0 u0 q k by omega)
    rw [hi, pullG_in hx]
    rw [hi] at CA
    have hil : i < q.length := (List.getElem?_eq_some_iff.1 hx).1
    obtain ⟨A0, cap, hp, hrow, hv, hle, hcap, hat⟩ := hN.open
    obtain ⟨g, rfl, hr, hG⟩ := hat i x hx
    have CD := Lib.hid (fun w h => rdrop_any p r q i w h hil hq)
    have HG := Lib.hid hG
    obtain ⟨n, hn⟩ : ∃ n, q.length = n := ⟨_, rfl⟩
    rw [hn] at hp hle hil
    have HP := Lib.hid hp
    have Hlt := Lib.hid hN.lt
    obtain ⟨c, u, ep, sq, ak, bd⟩ := x
    clear hN hat hrow hp hv hG hr hn h0 hi hx hq
    go_enter Try.func17, Try.ntmps17
    go_wp2_with fail
    refine (CA.out _ (HN.out.below (bnew w _))).mono ?_
    rintro e w1 ⟨rfl, b1⟩
    have Z1 := Lib.hid ((Has.new w (.cells #[.int .i64 0, .bool false, .int .i64 0, .int .i64 0, .int .i64 0, .string ⟨#[]⟩] 27)).below b1)
    have B1 := Lib.hid (bup (bnew w (.cells #[.int .i64 0, .bool false, .int .i64 0, .int .i64 0, .int .i64 0, .string ⟨#[]⟩] 27)) b1)
    clear b1
    have hG := HG.out.below HG.out.lt B1.out
    have d0 := hG.a0
    have d1 := hG.a1
    have d2 := hG.a2
    have d3 := hG.a3
    have d4 := hG.a4
    have d5 := hG.a5
    simp only at d0 d1 d2 d3 d4 d5
    have p0 := (HP.out.below B1.out).cell 0 _ rfl
    have hzl := Z1.out.lt
    clear hG
    go_wp2_with fail
    have BW := Lib.hid (bup B1.out (bnew w1 (.cells #[.int .i64 c, .bool u, .int .i64 ep, .int .i64 sq, .int .i64 ak, .string bd] 27)))
    refine (CD.out _ (HN.out.below BW.out)).mono ?_
    rintro e w4 ⟨⟨v, rfl⟩, ho⟩
    have Z4 := Lib.hid (ho.has (l0 := []) (Z1.out.alloc (.cells #[.int .i64 c, .bool u, .int .i64 ep, .int .i64 sq, .int .i64 ak, .string bd] 27)) (fun h => by have := Hlt.out _ h; omega))
    have C4 := Lib.hid (ho.has (l0 := []) (Has.new w1 (.cells #[.int .i64 c, .bool u, .int .i64 ep, .int .i64 sq, .int .i64 ak, .string bd] 27)) (fun h => by have := Hlt.out _ h; have := B1.out.size; omega))
    have HO := Lib.hid ho
    clear ho d0 d1 d2 d3 d4 d5 p0
    have c0 := C4.out.cell 0 _ rfl
    have c1 := C4.out.cell 1 _ rfl
    have c2 := C4.out.cell 2 _ rfl
    have c3 := C4.out.cell 3 _ rfl
    have c4 := C4.out.cell 4 _ rfl
    have c5 := C4.out.cell 5 _ rfl
    go_wp2_with ((with_reducible refine at_store rfl ?_); refine wpList_put_row rfl _ _ _ rfl rfl w.heap.size _ rfl rfl _ _ Z4.out (by kernel_rfl) rfl (by first | kernel_rfl | simp [Value.oneCell']) ?_; intro w8 Z8 B8)
    (try simp only [Exit.inBlock, Exit.then])
    refine bodyPost_ret (v := .tuple #[.agg #[.int .i64 c, .bool u, .int .i64 ep, .int .i64 sq, .int .i64 ak, .string bd], .bool true]) ?_ rfl ⟨rfl, NetOut.wrap HN.out BW.out HO.out B8 (Nat.le_refl _) (by simp; omega)⟩
    refine Eq.trans (gr_results (p := 8) (u := 9) ?_ _ _ w.heap.size _ _ _ fs ?_ Z8 Hu.out (by kernel_rfl)) ?_
    all_goals rfl
set_option maxRecDepth 100000 in
set_option maxHeartbeats 2000000 in
theorem rcopy_any (p : Nat) (r : Option Nat) (q : List Gr) (c0 : Int) (u0 : Bool) (k : Int) (w : World) (hN : NetAt 48 w p r q) (hq : q.length ≤ 1000000) (hk1 : -9223372036854775808 ≤ k) (hk2 : k ≤ 9223372036854775807) :
    Calls Try.prog 18 #[.pointer (some ⟨p, 0, none⟩), .int .i64 c0, .bool u0, .int .i64 k] w fun e w' => e = .returned (.bool (copyG q c0 u0 k).2) ∧ NetOut 48 p r (copyG q c0 u0 k).1 w w' := by
  have CA := Lib.hid (fun w h => rplace_any p r c0 u0 k q w h hk1 hk2)
  have HN := Lib.hid hN
  clear hk1 hk2
  by_cases h0 : plc c0 u0 q k < 0
  · rw [copyG_out h0]
    rw [plc_neg h0] at CA
    clear h0 hN
    go_enter Try.func18, Try.ntmps18
    go_wp2_with fail
    refine (CA.out _ HN.out).mono ?_
    rintro e w1 ⟨rfl, b1⟩
    go_wp2_with fail
    go_ret
    exact ⟨rfl, NetOut.same HN.out b1⟩
  · obtain ⟨i, x, hi, hx, _⟩ := plc_some (show 0 ≤ plc c0 u0 q k by omega)
    rw [copyG_in hi hx]
    rw [hi] at CA
    have hil : i < q.length := (List.getElem?_eq_some_iff.1 hx).1
    have CP := Lib.hid (fun w h => rput_any p r q x w h hq)
    obtain ⟨R, hR⟩ : ∃ R, putG q x = R := ⟨_, rfl⟩
    rw [hR] at CP ⊢
    obtain ⟨A, cap, hp, hrow, hv, hle, hcap, hat⟩ := hN.open
    obtain ⟨g, rfl, hr, hG⟩ := hat i x hx
    have HG := Lib.hid hG
    have HP := Lib.hid hp
    obtain ⟨n, hn⟩ : ∃ n, q.length = n := ⟨_, rfl⟩
    rw [hn] at HP hle hil
    clear h0 hN hi hx hat hG hp hrow hv hr hR hn
    obtain ⟨l, er⟩ := R
    obtain ⟨c, u, ep, sq, ak, bd⟩ := x
    simp only [Gr.val] at CP
    go_enter Try.func18, Try.ntmps18
    go_wp2_with fail
    refine (CA.out _ HN.out).mono ?_
    rintro e w1 ⟨rfl, b1⟩
    have G1 := HG.out.below HG.out.lt b1
    have d0 := G1.a0
    have d1 := G1.a1
    have d2 := G1.a2
    have d3 := G1.a3
    have d4 := G1.a4
    have d5 := G1.a5
    simp only at d0 d1 d2 d3 d4 d5
    have p0 := (HP.out.below b1).cell 0 _ rfl
    have B1 := Lib.hid b1
    clear b1 G1
    go_wp2_with fail
    refine (CP.out _ (HN.out.below B1.out)).mono ?_
    rintro e w2 ⟨rfl, ho⟩
    have HO := Lib.hid ho
    clear ho
    go_wp2_with fail
    go_ret
    exact ⟨rfl, HO.out.lift B1.out⟩
set_option maxRecDepth 100000 in
set_option maxHeartbeats 2000000 in
theorem rclear_any (p : Nat) (r : Option Nat) (q : List Gr) (c : Int) (w : World) (hN : NetAt 48 w p r q) (hq : q.length ≤ 1000000) :
    Calls Try.prog 20 #[.pointer (some ⟨p, 0, none⟩), .int .i64 c] w fun e w' => e = .returned (.int .i64 ((clearG q c).2 : Int)) ∧ NetOut 48 p r (clearG q c).1 w w' := by
  obtain ⟨A0, cap, hp, hrow, hv, hle, hcap, hat⟩ := hN.open
  obtain ⟨n, hn⟩ : ∃ n, q.length = n := ⟨_, rfl⟩
  rw [hn] at hp hle hq
  have HP := Lib.hid hp
  have HA := Lib.hid hat
  have Hlen := Lib.hid hn
  have HN := Lib.hid hN
  have hpl := hp.lt
  have B00 := Lib.hid (bnew w (.cells #[] 27))
  have R00 := Lib.hid (RowG.empty 0 w (by omega))
  clear hp hat hn hrow hv hN
  go_enter Try.func20, Try.ntmps20
  go_wp2_with fail
  go_loopw [5, 6] (fun v iv wr => ∃ (k m cap' : Nat) (A' : Option Addr), k ≤ n ∧ m ≤ k ∧ m ≤ cap' ∧ cap' ≤ 9223372036854775807 ∧ iv = .int .i64 k ∧ v = .slice A' m cap' ∧ Hid (m = ((q.take k).filter (keepG c)).length) ∧ Hid (RowG 0 wr v ((q.take k).filter (keepG c))) ∧ Hid (∀ j, v.ownBlock = some j → w.heap.size ≤ j) ∧ Hid (Below w.heap.size w wr)) (fun _ iv _ => n - (intOf iv).toNat)
  case atStart => exact ⟨0, 0, 0, _, by omega, by omega, by omega, by omega, rfl, rfl, Lib.hid rfl, R00, Lib.hid (fun j e => by have := ownBlock_at e; omega), B00⟩
  case round =>
    obtain ⟨k, m, cap', A', hk, hm, hm2, hm3, rfl, rfl, HM, HR, HFr, HB⟩ := hrel
    have p0 := (HP.out.below HB.out).cell 0 _ rfl
    have pf := (HP.out.below HB.out).free 0
    by_cases hlt : k < n
    · obtain ⟨x, hx⟩ : ∃ x, q[k]? = some x := ⟨_, List.getElem?_eq_getElem (by rw [Hlen.out]; exact hlt)⟩
      obtain ⟨g, rfl, hg, hG⟩ := HA.out k x hx
      have hG' := hG.below hG.lt HB.out
      obtain ⟨t, ht⟩ : ∃ t, (x.cl == c) = t := ⟨_, rfl⟩
      cases t with
      | true =>
        have HX := Lib.hid (keep_no hx ht)
        have d0 := hG'.a0
        clear hG hG' hx hg
        go_wp2_with fail
        go_roundw
        case rel => exact ⟨k + 1, m, cap', A', by omega, by omega, hm2, hm3, by go_num, rfl, Lib.hid (by rw [HX.out]; exact HM.out), Lib.hid (by rw [HX.out]; exact HR.out), HFr, HB⟩
        case measure => simp [intOf]; omega
      | false =>
        have HX := Lib.hid (keep_yes hx ht)
        obtain ⟨L, hL⟩ : ∃ L, (q.take k).filter (keepG c) = L := ⟨_, rfl⟩
        rw [hL] at HX HM HR
        obtain ⟨c', u, ep, sq, ak, bd⟩ := x
        have d0 := hG'.a0
        have d1 := hG'.a1
        have d2 := hG'.a2
        have d3 := hG'.a3
        have d4 := hG'.a4
        have d5 := hG'.a5
        simp only at d0 d1 d2 d3 d4 d5 ht
        clear hG hG' hx hg hL
        have HW : Hid ((wr.alloc (.cells #[.int .i64 c', .bool u, .int .i64 ep, .int .i64 sq, .int .i64 ak, .string bd] 27)).ownsRow 0 27 6 (.slice A' m cap') m (flatG L)) := Lib.hid (by
          have := (HR.out.held (S := fun _ => False) (Kept.of (bnew wr (.cells #[.int .i64 c', .bool u, .int .i64 ep, .int .i64 sq, .int .i64 ak, .string bd] 27))) (fun _ _ e => e))
          unfold RowG at this
          rw [← HM.out] at this
          exact this)
        have HNew := Lib.hid (news_at (Has.new wr (.cells #[.int .i64 c', .bool u, .int .i64 ep, .int .i64 sq, .int .i64 ak, .string bd] 27)))
        go_wp2_with (at_builtin; refine grow_own gramElem rfl (.tmp 28) (.tmp 36) rfl _ (.slice A' m cap') m (flatG L) rfl HW.out (some ⟨wr.heap.size, 0, none⟩) 1 1 [.int .i64 c', .bool u, .int .i64 ep, .int .i64 sq, .int .i64 ak, .string bd] rfl rfl (.inr ⟨_, rfl, HNew.out⟩) (by simp [Value.oneCell']) (by omega) (by omega) ?_; intro v6 w6 R6 g6 f6; obtain ⟨A6, cap6, rfl, h61, h62⟩ := ownsRow_form R6; have R6' := Lib.hid R6; have g6' := Lib.hid g6; have f6' := Lib.hid f6; clear R6 g6 f6)
        have hB6 : Below w.heap.size w w6 := (bup HB.out (bnew wr (.cells #[.int .i64 c', .bool u, .int .i64 ep, .int .i64 sq, .int .i64 ak, .string bd] 27))).trans ((Kept.grown (S := fun k => w.heap.size ≤ k) g6'.out (fun k e => HFr.out k e)).below (fun _ h => h) (by have := (bup HB.out (bnew wr (.cells #[.int .i64 c', .bool u, .int .i64 ep, .int .i64 sq, .int .i64 ak, .string bd] 27))).size; exact this))
        have HB6 := Lib.hid hB6
        have HF6 : Hid (∀ j, (Value.slice A6 (m + 1) cap6).ownBlock = some j → w.heap.size ≤ j) := Lib.hid (fun j e => by
          rcases f6'.out j e with h | h
          · exact HFr.out j h
          · have := HB.out.size; simp at h; omega)
        clear hB6 g6' f6'
        go_roundw
        case rel => exact ⟨k + 1, m + 1, cap6, A6, by omega, by omega, h61, h62, by go_num, rfl, Lib.hid (by rw [HX.out, List.length_append, ← HM.out]; rfl), Lib.hid (by rw [HX.out]; exact RowG.snoc (by rw [← HM.out]; exact R6'.out)), HF6, HB6⟩
        case measure => simp [intOf]; omega
    · obtain rfl : k = n := by omega
      have HX : Hid (q.take k = q) := Lib.hid (List.take_of_length_le (by rw [Hlen.out]; omega))
      rw [HX.out] at HM HR
      have hf : q.filter (keepG c) = (clearG q c).1 := rfl
      have hcl : (clearG q c).2 = k - m := by rw [show (clearG q c).2 = q.length - (q.filter (keepG c)).length from rfl, Hlen.out, ← HM.out]
      rw [hf] at HR
      have Hcl := Lib.hid hcl
      have P := Lib.hid (HP.out.below HB.out)
      have hs := HB.out.size
      have hsub : IntKind.i64.wrap ((k : Int) - m) = ((k - m : Nat) : Int) := by rw [IntKind.wrap_i64]; omega
      have hsub2 : ((k : Int) - m) = ((k - m : Nat) : Int) := by omega
      have Hs := Lib.hid hsub2
      clear hf hcl hsub hsub2
      go_wp2_with fail
      go_ret
      refine ⟨by rw [Hcl.out, ← Hs.out]; rfl, _, ⟨⟨_, P.out.set 0 _, HR.out.held (S := fun j => j = p) (Kept.but (But.set p 0 wr _) rfl) (fun j e h => by have := HFr.out j e; omega), rfl⟩, fun e => by have := HFr.out _ e; omega⟩, (Kept.of HB.out).trans (Kept.but (But.set p 0 wr _) (.inl rfl)), fun j e => .inr (HFr.out j e)⟩
end Go.Proofs.Ytkdopflnaeejeaa
