/-
  The reference's Encode and Cost.
-/
import Derived.Test.YteknaeemjgpgbaaEntRgood
import Derived.Test.YteknaeemjgpgbaaEntRpart
import Derived.Test.YteknaeemjgpgbaaEntCost
import Derived.Test.YteknaeemjgpgbaaGrow
namespace Go.Proofs.Yteknaeemjgpgbaa
open Go.RowKit Go.Sort NibPure
set_option linter.unusedVariables false

theorem intElem : Elem Try.prog 49 3 1 8 (.int .i64 0) := ⟨Try.underlying49, by kernel_rfl, rfl, by omega⟩
def ints (l : List Int) : List Value := l.map (.int .i64 ·)
theorem ints_one (l : List Int) : ∀ v ∈ ints l, v.oneCell' = true := by
  intro v hv
  obtain ⟨n, _, rfl⟩ := List.mem_map.1 hv
  rfl
theorem range_get (x : Ent) (n i : Nat) (h : i < n) : (ints ((List.range n).map x.num))[i]? = some (.int .i64 (x.num i)) := by
  simp [ints, h]
theorem Has.lowE {w w' : World} {b B : Nat} {o : Obj} (h : Has w b o) (hb : Below B w w') (hB : b < B) : Has w' b o := by
  unfold Has at *
  rw [hb.block _ hB]; exact h
set_option maxRecDepth 100000 in
set_option maxHeartbeats 8000000 in
theorem rencode_any (x : Ent) (hw : x.wd.size ≤ 4611686018427387904) (hi : x.ix.size ≤ 4611686018427387904) (w : World) :
    Calls Try.prog 12 #[x.val] w fun r w' => r = .returned x.encRes ∧ Below w.heap.size w w' := by
  have CG := fun w => rgood04_any x (by omega) (by omega) w
  cases hg : x.good with
  | false =>
    rw [hg] at CG
    have CG := Lib.hid CG
    have HR : Hid (x.encRes = .tuple #[.string (bs []), .int .i64 1]) := Lib.hid (by simp [Ent.encRes, hg])
    clear hg
    obtain ⟨k, c, e, n, l, p, pg, sl, wu, wd, iu, ix, nx⟩ := x
    simp only [Ent.val, Ent.row] at CG ⊢
    go_enter Try.func12, Try.ntmps12
    go_wp2_with fail
    refine (CG.out _).mono ?_
    rintro e w1 ⟨rfl, g1⟩
    go_wp2_with fail
    go_ret2
    exact ⟨by rw [HR.out]; rfl, bup (bnew _ _) g1⟩
  | true =>
    rw [hg] at CG
    have CG := Lib.hid CG
    rw [show x.encRes = .tuple #[.string (bs x.bytes), .int .i64 0] by simp [Ent.encRes, hg]]
    obtain ⟨hn, hk1, hk4, hws, his⟩ := good_facts x hg
    clear hg hw hi
    obtain ⟨X, hX⟩ : ∃ X, X = x := ⟨_, rfl⟩
    rw [show x.bytes = X.bytes by rw [hX]]
    have hnX := hn
    rw [← hX] at hnX
    have Hn := Lib.hid hnX
    have HX := Lib.hid hX
    clear hn hnX hX
    obtain ⟨k, c, e, n, l, p, pg, sl, wu, wd, iu, ix, nx⟩ := x
    simp only [Ent.val, Ent.row] at CG hk1 hk4 hws his ⊢
    have Hk := Lib.hid (And.intro hws his)
    clear hws his
    by_cases hk3 : k < 3
    · have HLm : Hid (X.many = 9) := Lib.hid (by rw [HX.out]; unfold Ent.many; rw [if_pos (by simp only; omega)])
      go_enter Try.func12, Try.ntmps12
      go_wp2_with fail
      refine (CG.out _).mono ?_
      rintro e' w1 ⟨rfl, g1⟩
      have H1 := (Has.new w _).below g1
      have G1 := Lib.hid (bup (bnew w _) g1)
      clear g1
      obtain ⟨a0, a1, a2, a3, a4, a5, a6, a7, a8, a9, a10, a11, a12⟩ := EntAt.of H1
      go_upto_region 5 with (fail)
      generalize hw2 : World.alloc w1 _ = w2
      have R2 : w2.ownsRow w1.heap.size 3 1 (.slice (some ⟨w1.heap.size, 0, none⟩) 6 6) 6 [.int .i64 k, .int .i64 c, .int .i64 e, .int .i64 n, .int .i64 l, .int .i64 p] := by
        rw [← hw2]; exact World.ownsRow_lit w1 #[.int .i64 k, .int .i64 c, .int .i64 e, .int .i64 n, .int .i64 l, .int .i64 p] 6 (Nat.le_refl _) (by unfold maxLen; omega) rfl
      have H2 := H1.below (show Below w1.heap.size w1 w2 by rw [← hw2]; exact bnew _ _)
      have G2 := Lib.hid (bup G1.out (show Below w1.heap.size w1 w2 by rw [← hw2]; exact bnew _ _))
      have hz2 : w1.heap.size ≤ w2.heap.size := by rw [← hw2]; simp
      have R2 := Lib.hid R2
      clear hw2 a0 a1 a2 a3 a4 a5 a6 a7 a8 a9 a10 a11 a12 G1
      obtain ⟨a0, a1, a2, a3, a4, a5, a6, a7, a8, a9, a10, a11, a12⟩ := EntAt.of H2
      go_upto_region 7 with (at_builtin; refine grow_new intElem rfl (.tmp 29) (.tmp 36) rfl w1.heap.size _ _ 6 _ rfl (by exact R2.out) 3 #[.int .i64 pg, .int .i64 sl, .int .i64 nx] rfl rfl (by simp [Value.oneCell']) (by omega) (by omega) hz2 ?_; intro v3 w3 R3 g3 b3)
      obtain ⟨gb, cap3, cur3, rfl, hg3, hgl3, _, hcap3, hcap3', _, _⟩ := ownsRow_at R3 (by omega)
      have HC : Hid (∀ j, j < 9 → w3.cell? ⟨gb, j, none⟩ = some (.int .i64 (X.num j))) := Lib.hid (fun j hj => by
        rw [World.ownsRow.cellAt R3 j (by omega), HX.out]
        match j, hj with
        | 0, _ => rfl | 1, _ => rfl | 2, _ => rfl | 3, _ => rfl | 4, _ => rfl | 5, _ => rfl | 6, _ => rfl | 7, _ => rfl | 8, _ => rfl)
      have HB := Lib.hid (H2.lowE b3 (show w.heap.size < w1.heap.size from H1.lt))
      have GB := Lib.hid (G2.out.trans (b3.mono (show w.heap.size ≤ w1.heap.size from Nat.le_of_lt H1.lt)))
      obtain ⟨wb, rfl⟩ : ∃ wb : World, wb = w3 := ⟨_, rfl⟩
      clear a0 a1 a2 a3 a4 a5 a6 a7 a8 a9 a10 a11 a12 R3 g3 b3 R2 G2 H2 H1 hz2 hg3
      go_wp2_with fail
      go_loopw [4, 6] (fun s i wr => ∃ j : Nat, j ≤ 9 ∧ i = .int .i64 j ∧ s = .string (bs (X.nums j)) ∧ Hid (Below wb.heap.size wb wr)) (fun _ i _ => 9 - (intOf i).toNat)
      case atStart => exact ⟨0, by omega, rfl, rfl, Lib.hid (Below.refl _ _)⟩
      case round =>
        obtain ⟨j, hj, rfl, rfl, hb⟩ := hrel
        by_cases hlt : j < 9
        · have hc := (hb.out.cell (p := ⟨gb, j, none⟩) hgl3).trans (HC.out j hlt)
          have hz := Hn.out j (by omega)
          obtain ⟨z, hze⟩ : ∃ z, z = X.num j := ⟨_, rfl⟩
          rw [← hze] at hc hz
          have hadd := fun w => add_lists' (P := Try.prog) (X.nums j) (enc z) (by have := X.nums_len j; have := enc_len z; omega) w
          have Hze := Lib.hid hze
          clear hze
          go_wp2_with (go_at_call 24; (with_reducible refine (refInt_any z _ (by omega) (by omega)).mono ?_); rintro e w4 ⟨rfl, b4⟩)
          go_roundw
          case rel =>
            refine ⟨j + 1, by omega, by go_num, ?_, Lib.hid (hb.out.trans (b4.mono hb.out.size))⟩
            rw [X.nums_succ, ← Hze.out]
          case measure => simp [intOf]; omega
        · have hjl : j = 9 := by omega
          subst hjl
          clear hj hlt
          have Hx := HB.out.below hb.out
          obtain ⟨a0, a1, a2, a3, a4, a5, a6, a7, a8, a9, a10, a11, a12⟩ := EntAt.of Hx
          have hB : Hid (Below w.heap.size w wr) := Lib.hid (bup GB.out hb.out)
          have hws := Hk.out.1
          have his := Hk.out.2
          have hlj := X.nums_len 9
          clear HB GB hb HC hgl3
          have hT : Hid (X.bytes = X.nums 9 ++ (slotEnc wu wd.data.toList ++ slotEnc iu ix.data.toList)) := Lib.hid (by
            unfold Ent.bytes Ent.tail
            rw [HLm.out, HX.out]
            simp only [show k ≤ 2 by omega, if_true])
          have c1 := fun d os => Calls.regrown_of (rpart_any wu wd (by omega) (grow (redrawn wr d) os))
          have c2 := fun d os => Calls.regrown_of (rpart_any iu ix (by omega) (grow (redrawn wr d) os))
          obtain ⟨l1, hl1⟩ : ∃ l, slotEnc wu wd.data.toList = l := ⟨_, rfl⟩
          obtain ⟨l2, hl2⟩ : ∃ l, slotEnc iu ix.data.toList = l := ⟨_, rfl⟩
          have n1 : l1.length ≤ 220 := by
            have := slotEnc_len wu wd.data.toList
            rw [hl1] at this
            have e : wd.data.toList.length = wd.size := Array.length_toList
            omega
          have n2 : l2.length ≤ 220 := by
            have := slotEnc_len iu ix.data.toList
            rw [hl2] at this
            have e : ix.data.toList.length = ix.size := Array.length_toList
            omega
          rw [hl1] at c1 hT
          rw [hl2] at c2 hT
          have hadd1 := fun w => add_lists' (P := Try.prog) (X.nums 9) l1 (by omega) w
          have hadd2 := fun w => add_lists' (P := Try.prog) (X.nums 9 ++ l1) l2 (by simp; omega) w
          have a8 := cell_regrown a8
          have a9 := cell_regrown a9
          have a10 := cell_regrown a10
          have a11 := cell_regrown a11
          clear hl1 hl2 hlj n1 n2 hws his
          go_wp2_with fail
          refine wp_region_quiet_below (by kernel_rfl) (by kernel_rfl) ?_
          repeat (quiet_step (first | (with_reducible exact c1 _ _) | (with_reducible exact c2 _ _)))
          refine wpQuiet_nil ?_
          intro _ hw4
          obtain ⟨⟨dq, osq⟩, hw5⟩ := hw4
          subst hw5
          go_wp2_with fail
          go_ret2
          exact ⟨by rw [hT.out, ← List.append_assoc]; rfl, bup hB.out (below_regrown _ _ _)⟩
    · have hk3' : ¬ k < 3 := hk3
      have HLm : Hid (X.many = 6) := Lib.hid (by rw [HX.out]; unfold Ent.many; rw [if_neg (by simp only; omega)])
      go_enter Try.func12, Try.ntmps12
      go_wp2_with fail
      refine (CG.out _).mono ?_
      rintro e' w1 ⟨rfl, g1⟩
      have H1 := (Has.new w _).below g1
      have G1 := Lib.hid (bup (bnew w _) g1)
      clear g1
      obtain ⟨a0, a1, a2, a3, a4, a5, a6, a7, a8, a9, a10, a11, a12⟩ := EntAt.of H1
      go_upto_region 5 with (fail)
      generalize hw2 : World.alloc w1 _ = wb
      obtain ⟨gb, hgb⟩ : ∃ gb, gb = w1.heap.size := ⟨_, rfl⟩
      have HN : Has wb w1.heap.size (.cells #[.int .i64 k, .int .i64 c, .int .i64 e, .int .i64 n, .int .i64 l, .int .i64 p] 3) := by rw [← hw2]; exact Has.new _ _
      have HB := Lib.hid (H1.below (show Below w1.heap.size w1 wb by rw [← hw2]; exact bnew _ _))
      have GB := Lib.hid (bup G1.out (show Below w1.heap.size w1 wb by rw [← hw2]; exact bnew _ _))
      have HC : Hid (∀ j, j < 6 → wb.cell? ⟨w1.heap.size, j, none⟩ = some (.int .i64 (X.num j))) := Lib.hid (fun j hj => by
        rw [HX.out]
        match j, hj with
        | 0, _ => exact HN.cell 0 _ rfl | 1, _ => exact HN.cell 1 _ rfl | 2, _ => exact HN.cell 2 _ rfl | 3, _ => exact HN.cell 3 _ rfl | 4, _ => exact HN.cell 4 _ rfl | 5, _ => exact HN.cell 5 _ rfl)
      have hgl3 := HN.lt
      rw [← hgb] at HC hgl3 ⊢
      clear hw2 a0 a1 a2 a3 a4 a5 a6 a7 a8 a9 a10 a11 a12 G1 H1 HN hgb
      obtain ⟨a0, a1, a2, a3, a4, a5, a6, a7, a8, a9, a10, a11, a12⟩ := EntAt.of HB.out
      go_wp2_with fail
      go_loopw [4, 6] (fun s i wr => ∃ j : Nat, j ≤ 6 ∧ i = .int .i64 j ∧ s = .string (bs (X.nums j)) ∧ Hid (Below wb.heap.size wb wr)) (fun _ i _ => 6 - (intOf i).toNat)
      case atStart => exact ⟨0, by omega, rfl, rfl, Lib.hid (Below.refl _ _)⟩
      case round =>
        obtain ⟨j, hj, rfl, rfl, hb⟩ := hrel
        by_cases hlt : j < 6
        · have hc := (hb.out.cell (p := ⟨gb, j, none⟩) hgl3).trans (HC.out j hlt)
          have hz := Hn.out j (by omega)
          obtain ⟨z, hze⟩ : ∃ z, z = X.num j := ⟨_, rfl⟩
          rw [← hze] at hc hz
          have hadd := fun w => add_lists' (P := Try.prog) (X.nums j) (enc z) (by have := X.nums_len j; have := enc_len z; omega) w
          have Hze := Lib.hid hze
          clear hze
          go_wp2_with (go_at_call 24; (with_reducible refine (refInt_any z _ (by omega) (by omega)).mono ?_); rintro e w4 ⟨rfl, b4⟩)
          go_roundw
          case rel =>
            refine ⟨j + 1, by omega, by go_num, ?_, Lib.hid (hb.out.trans (b4.mono hb.out.size))⟩
            rw [X.nums_succ, ← Hze.out]
          case measure => simp [intOf]; omega
        · have hjl : j = 6 := by omega
          subst hjl
          clear hj hlt
          have Hx := HB.out.below hb.out
          obtain ⟨a0, a1, a2, a3, a4, a5, a6, a7, a8, a9, a10, a11, a12⟩ := EntAt.of Hx
          have hB : Hid (Below w.heap.size w wr) := Lib.hid (bup GB.out hb.out)
          have hws := Hk.out.1
          have his := Hk.out.2
          have hlj := X.nums_len 6
          clear HB GB hb HC hgl3
          have hT : Hid (X.bytes = X.nums 6) := Lib.hid (by
            unfold Ent.bytes Ent.tail
            rw [HLm.out, HX.out]
            simp only [show ¬ k ≤ 2 by omega, if_false, List.append_nil])
          go_wp2_with fail
          go_ret2
          exact ⟨by rw [hT.out]; rfl, hB.out⟩
set_option maxRecDepth 100000 in
set_option maxHeartbeats 4000000 in
theorem rcost_any (x : Ent) (hw : x.wd.size ≤ 4611686018427387904) (hi : x.ix.size ≤ 4611686018427387904) (w : World) :
    Calls Try.prog 16 #[x.val] w fun r w' => r = .returned (.int .i64 x.cost) ∧ Below w.heap.size w w' := by
  have CE := fun w => rencode_any x hw hi w
  cases hg : x.good with
  | false =>
    rw [show x.encRes = .tuple #[.string (bs []), .int .i64 1] by simp [Ent.encRes, hg]] at CE
    rw [show x.cost = 0 by simp [Ent.cost, hg]]
    have CE := Lib.hid CE
    clear hg
    obtain ⟨k, c, e, n, l, p, pg, sl, wu, wd, iu, ix, nx⟩ := x
    simp only [Ent.val, Ent.row] at CE ⊢
    go_enter Try.func16, Try.ntmps16
    go_wp2_with fail
    refine (CE.out _).mono ?_
    rintro e w1 ⟨rfl, g1⟩
    go_wp2_with fail
    go_ret
    exact ⟨rfl, bup (bnew _ _) g1⟩
  | true =>
    rw [show x.encRes = .tuple #[.string (bs x.bytes), .int .i64 0] by simp [Ent.encRes, hg]] at CE
    rw [show x.cost = 1 + ((x.bytes.length : Int) + 231) / 232 by simp [Ent.cost, hg]]
    have hlen := bytes_len x hg
    obtain ⟨B, hB⟩ : ∃ B, x.bytes = B := ⟨_, rfl⟩
    rw [hB] at CE hlen ⊢
    have CE := Lib.hid CE
    have hsz : (bs B).size = B.length := bs_size B
    clear hg hB
    obtain ⟨k, c, e, n, l, p, pg, sl, wu, wd, iu, ix, nx⟩ := x
    simp only [Ent.val, Ent.row] at CE ⊢
    go_enter Try.func16, Try.ntmps16
    go_wp2_with fail
    refine (CE.out _).mono ?_
    rintro e w1 ⟨rfl, g1⟩
    go_wp2_with fail
    go_ret
    refine ⟨?_, bup (bnew _ _) g1⟩
    simp
end Go.Proofs.Yteknaeemjgpgbaa
