/-
  The reference's part: a slot's bytes.
-/
import Derived.Test.YtakdagmkkelnfaaEntEnc
import Derived.Test.YtakdagmkkelnfaaEntRgood
import Derived.Test.YtakdagmkkelnfaaBase
import Derived.Test.YtakdagmkkelnfaaEntLaw
import Derived.Test.YtakdagmkkelnfaaEntDec
import Derived.StillTailTactics
import Derived.Deep.RegionHeld3
/-! The reference's part: a slot's bytes. -/
namespace Go.Proofs.Ytakdagmkkelnfaa
open Go.RowKit Go.Sort NibPure

set_option maxRecDepth 100000 in
set_option maxHeartbeats 4000000 in
theorem rpart_any (u : Bool) (d : ByteArray) (hd : d.size ≤ 4611686018427387904) (w : World) :
    Calls Try.prog 65 #[.agg #[.bool u, .string d]] w fun r w' => r = .returned (.string (bs (slotEnc u d.data.toList))) ∧ Below w.heap.size w w' := by
  cases u
  case false =>
    go_enter Try.func65, Try.ntmps65
    go_wp2_with (go_at_call 37; (with_reducible refine (refInt_any 0 _ (by omega) (by omega)).mono ?_); rintro e w1 ⟨rfl, g1⟩)
    go_ret
    exact ⟨rfl, bup (bnew _ _) g1⟩
  case true =>
    have hadd := fun w => slot_add (P := Try.prog) d hd w
    go_enter Try.func65, Try.ntmps65
    go_wp2_with fail
    generalize hw1 : World.alloc w _ = w1
    have H1 : Has w1 w.heap.size (.cells #[.bool true, .string d] 62) := by rw [← hw1]; exact Has.new _ _
    have g1 : Below w.heap.size w w1 := by rw [← hw1]; exact bnew _ _
    clear hw1
    have a1 := cell_regrown (H1.cell 1 (.string d) rfl)
    have c1 := fun x os => Calls.regrown_of (refInt_any 1 (grow (redrawn w1 x) os) (by omega) (by omega))
    have c2 := fun x os => Calls.regrown_of (refStr_any d (grow (redrawn w1 x) os) (by omega))
    refine wp_region_quiet_below (by kernel_rfl) (by kernel_rfl) ?_
    repeat (quiet_step (first | exact c1 _ _ | exact c2 _ _))
    refine wpQuiet_nil ?_
    intro _ hw4
    obtain ⟨⟨dq, osq⟩, hw5⟩ := hw4
    subst hw5
    go_wp2_with fail
    go_ret
    exact ⟨rfl, bup g1 (below_regrown _ _ _)⟩
end Go.Proofs.Ytakdagmkkelnfaa

/-! The reference's Encode and Cost. -/
namespace Go.Proofs.Ytakdagmkkelnfaa
open Go.RowKit Go.Sort NibPure
set_option linter.unusedVariables false

theorem intElem : Elem Try.prog 94 3 1 8 (.int .i64 0) := ⟨Try.underlying94, by kernel_rfl, rfl, by omega⟩
def ints (l : List Int) : List Value := l.map (.int .i64 ·)
theorem ints_one (l : List Int) : ∀ v ∈ ints l, v.oneCell' = true := by
  intro v hv
  obtain ⟨n, _, rfl⟩ := List.mem_map.1 hv
  rfl
theorem range_get (x : Ent) (n i : Nat) (h : i < n) : (ints ((List.range n).map x.num))[i]? = some (.int .i64 (x.num i)) := by
  simp [ints, h]
theorem Has.lowE {w w' : World} {b B : Nat} {o : Obj} (h : Has w b o) (hb : Below B w w') (hB : b < B) : Has w' b o := by
  unfold Has at *
  rw [hb.block _ hB]; exact h
set_option maxRecDepth 100000 in
set_option maxHeartbeats 8000000 in
theorem rencode_any (x : Ent) (hw : x.wd.size ≤ 4611686018427387904) (hi : x.ix.size ≤ 4611686018427387904) (w : World) :
    Calls Try.prog 41 #[x.val] w fun r w' => r = .returned x.encRes ∧ Below w.heap.size w w' := by
  have CG := fun w => rgood04_any x (by omega) (by omega) w
  cases hg : x.good with
  | false =>
    rw [hg] at CG
    have CG := Lib.hid CG
    have HR : Hid (x.encRes = .tuple #[.string (bs []), .int .i64 1]) := Lib.hid (by simp [Ent.encRes, hg])
    clear hg
    obtain ⟨k, c, e, n, l, p, pg, sl, wu, wd, iu, ix, nx⟩ := x
    simp only [Ent.val, Ent.row] at CG ⊢
    go_enter Try.func41, Try.ntmps41
    go_wp2_with fail
    refine (CG.out _).mono ?_
    rintro e w1 ⟨rfl, g1⟩
    go_wp2_with fail
    go_ret2
    exact ⟨by rw [HR.out]; rfl, bup (bnew _ _) g1⟩
  | true =>
    rw [hg] at CG
    have CG := Lib.hid CG
    rw [show x.encRes = .tuple #[.string (bs x.bytes), .int .i64 0] by simp [Ent.encRes, hg]]
    obtain ⟨hn, hk1, hk4, hws, his⟩ := good_facts x hg
    clear hg hw hi
    obtain ⟨X, hX⟩ : ∃ X, X = x := ⟨_, rfl⟩
    rw [show x.bytes = X.bytes by rw [hX]]
    have hnX := hn
    rw [← hX] at hnX
    have Hn := Lib.hid hnX
    have HX := Lib.hid hX
    clear hn hnX hX
    obtain ⟨k, c, e, n, l, p, pg, sl, wu, wd, iu, ix, nx⟩ := x
    simp only [Ent.val, Ent.row] at CG hk1 hk4 hws his ⊢
    have Hk := Lib.hid (And.intro hws his)
    clear hws his
    by_cases hk3 : k < 3
    · have HLm : Hid (X.many = 9) := Lib.hid (by rw [HX.out]; unfold Ent.many; rw [if_pos (by simp only; omega)])
      go_enter Try.func41, Try.ntmps41
      go_wp2_with fail
      refine (CG.out _).mono ?_
      rintro e' w1 ⟨rfl, g1⟩
      have H1 := (Has.new w _).below g1
      have G1 := Lib.hid (bup (bnew w _) g1)
      clear g1
      obtain ⟨a0, a1, a2, a3, a4, a5, a6, a7, a8, a9, a10, a11, a12⟩ := EntAt.of H1
      go_upto_region 5 with (fail)
      generalize hw2 : World.alloc w1 _ = w2
      have R2 : w2.ownsRow w1.heap.size 3 1 (.slice (some ⟨w1.heap.size, 0, none⟩) 6 6) 6 [.int .i64 k, .int .i64 c, .int .i64 e, .int .i64 n, .int .i64 l, .int .i64 p] := by
        rw [← hw2]; exact World.ownsRow_lit w1 #[.int .i64 k, .int .i64 c, .int .i64 e, .int .i64 n, .int .i64 l, .int .i64 p] 6 (Nat.le_refl _) (by unfold maxLen; omega) rfl
      have H2 := H1.below (show Below w1.heap.size w1 w2 by rw [← hw2]; exact bnew _ _)
      have G2 := Lib.hid (bup G1.out (show Below w1.heap.size w1 w2 by rw [← hw2]; exact bnew _ _))
      have hz2 : w1.heap.size ≤ w2.heap.size := by rw [← hw2]; simp
      have R2 := Lib.hid R2
      clear hw2 a0 a1 a2 a3 a4 a5 a6 a7 a8 a9 a10 a11 a12 G1
      obtain ⟨a0, a1, a2, a3, a4, a5, a6, a7, a8, a9, a10, a11, a12⟩ := EntAt.of H2
      go_upto_region 7 with (at_builtin; refine grow_new intElem rfl (.tmp 29) (.tmp 36) rfl w1.heap.size _ _ 6 _ rfl (by exact R2.out) 3 #[.int .i64 pg, .int .i64 sl, .int .i64 nx] rfl rfl (by simp [Value.oneCell']) (by omega) (by omega) hz2 ?_; intro v3 w3 R3 g3 b3)
      obtain ⟨gb, cap3, cur3, rfl, hg3, hgl3, _, hcap3, hcap3', _, _⟩ := ownsRow_at R3 (by omega)
      have HC : Hid (∀ j, j < 9 → w3.cell? ⟨gb, j, none⟩ = some (.int .i64 (X.num j))) := Lib.hid (fun j hj => by
        rw [World.ownsRow.cellAt R3 j (by omega), HX.out]
        match j, hj with
        | 0, _ => rfl | 1, _ => rfl | 2, _ => rfl | 3, _ => rfl | 4, _ => rfl | 5, _ => rfl | 6, _ => rfl | 7, _ => rfl | 8, _ => rfl)
      have HB := Lib.hid (H2.lowE b3 (show w.heap.size < w1.heap.size from H1.lt))
      have GB := Lib.hid (G2.out.trans (b3.mono (show w.heap.size ≤ w1.heap.size from Nat.le_of_lt H1.lt)))
      obtain ⟨wb, rfl⟩ : ∃ wb : World, wb = w3 := ⟨_, rfl⟩
      clear a0 a1 a2 a3 a4 a5 a6 a7 a8 a9 a10 a11 a12 R3 g3 b3 R2 G2 H2 H1 hz2 hg3
      go_wp2_with fail
      go_loopw [4, 6] (fun s i wr => ∃ j : Nat, j ≤ 9 ∧ i = .int .i64 j ∧ s = .string (bs (X.nums j)) ∧ Hid (Below wb.heap.size wb wr)) (fun _ i _ => 9 - (intOf i).toNat)
      case atStart => exact ⟨0, by omega, rfl, rfl, Lib.hid (Below.refl _ _)⟩
      case round =>
        obtain ⟨j, hj, rfl, rfl, hb⟩ := hrel
        by_cases hlt : j < 9
        · have hc := (hb.out.cell (p := ⟨gb, j, none⟩) hgl3).trans (HC.out j hlt)
          have hz := Hn.out j (by omega)
          obtain ⟨z, hze⟩ : ∃ z, z = X.num j := ⟨_, rfl⟩
          rw [← hze] at hc hz
          have hadd := fun w => add_lists' (P := Try.prog) (X.nums j) (enc z) (by have := X.nums_len j; have := enc_len z; omega) w
          have Hze := Lib.hid hze
          clear hze
          go_wp2_with (go_at_call 37; (with_reducible refine (refInt_any z _ (by omega) (by omega)).mono ?_); rintro e w4 ⟨rfl, b4⟩)
          go_roundw
          case rel =>
            refine ⟨j + 1, by omega, by go_num, ?_, Lib.hid (hb.out.trans (b4.mono hb.out.size))⟩
            rw [X.nums_succ, ← Hze.out]
          case measure => simp [intOf]; omega
        · have hjl : j = 9 := by omega
          subst hjl
          clear hj hlt
          have Hx := HB.out.below hb.out
          obtain ⟨a0, a1, a2, a3, a4, a5, a6, a7, a8, a9, a10, a11, a12⟩ := EntAt.of Hx
          have hB : Hid (Below w.heap.size w wr) := Lib.hid (bup GB.out hb.out)
          have hws := Hk.out.1
          have his := Hk.out.2
          have hlj := X.nums_len 9
          clear HB GB hb HC hgl3
          have hT : Hid (X.bytes = X.nums 9 ++ (slotEnc wu wd.data.toList ++ slotEnc iu ix.data.toList)) := Lib.hid (by
            unfold Ent.bytes Ent.tail
            rw [HLm.out, HX.out]
            simp only [show k ≤ 2 by omega, if_true])
          have c1 := fun d os => Calls.regrown_of (rpart_any wu wd (by omega) (grow (redrawn wr d) os))
          have c2 := fun d os => Calls.regrown_of (rpart_any iu ix (by omega) (grow (redrawn wr d) os))
          obtain ⟨l1, hl1⟩ : ∃ l, slotEnc wu wd.data.toList = l := ⟨_, rfl⟩
          obtain ⟨l2, hl2⟩ : ∃ l, slotEnc iu ix.data.toList = l := ⟨_, rfl⟩
          have n1 : l1.length ≤ 220 := by
            have := slotEnc_len wu wd.data.toList
            rw [hl1] at this
            have e : wd.data.toList.length = wd.size := Array.length_toList
            omega
          have n2 : l2.length ≤ 220 := by
            have := slotEnc_len iu ix.data.toList
            rw [hl2] at this
            have e : ix.data.toList.length = ix.size := Array.length_toList
            omega
          rw [hl1] at c1 hT
          rw [hl2] at c2 hT
          have hadd1 := fun w => add_lists' (P := Try.prog) (X.nums 9) l1 (by omega) w
          have hadd2 := fun w => add_lists' (P := Try.prog) (X.nums 9 ++ l1) l2 (by simp; omega) w
          have a8 := cell_regrown a8
          have a9 := cell_regrown a9
          have a10 := cell_regrown a10
          have a11 := cell_regrown a11
          clear hl1 hl2 hlj n1 n2 hws his
          go_wp2_with fail
          refine wp_region_quiet_below (by kernel_rfl) (by kernel_rfl) ?_
          repeat (quiet_step (first | (with_reducible exact c1 _ _) | (with_reducible exact c2 _ _)))
          refine wpQuiet_nil ?_
          intro _ hw4
          obtain ⟨⟨dq, osq⟩, hw5⟩ := hw4
          subst hw5
          go_wp2_with fail
          go_ret2
          exact ⟨by rw [hT.out, ← List.append_assoc]; rfl, bup hB.out (below_regrown _ _ _)⟩
    · have hk3' : ¬ k < 3 := hk3
      have HLm : Hid (X.many = 6) := Lib.hid (by rw [HX.out]; unfold Ent.many; rw [if_neg (by simp only; omega)])
      go_enter Try.func41, Try.ntmps41
      go_wp2_with fail
      refine (CG.out _).mono ?_
      rintro e' w1 ⟨rfl, g1⟩
      have H1 := (Has.new w _).below g1
      have G1 := Lib.hid (bup (bnew w _) g1)
      clear g1
      obtain ⟨a0, a1, a2, a3, a4, a5, a6, a7, a8, a9, a10, a11, a12⟩ := EntAt.of H1
      go_upto_region 5 with (fail)
      generalize hw2 : World.alloc w1 _ = wb
      obtain ⟨gb, hgb⟩ : ∃ gb, gb = w1.heap.size := ⟨_, rfl⟩
      have HN : Has wb w1.heap.size (.cells #[.int .i64 k, .int .i64 c, .int .i64 e, .int .i64 n, .int .i64 l, .int .i64 p] 3) := by rw [← hw2]; exact Has.new _ _
      have HB := Lib.hid (H1.below (show Below w1.heap.size w1 wb by rw [← hw2]; exact bnew _ _))
      have GB := Lib.hid (bup G1.out (show Below w1.heap.size w1 wb by rw [← hw2]; exact bnew _ _))
      have HC : Hid (∀ j, j < 6 → wb.cell? ⟨w1.heap.size, j, none⟩ = some (.int .i64 (X.num j))) := Lib.hid (fun j hj => by
        rw [HX.out]
        match j, hj with
        | 0, _ => exact HN.cell 0 _ rfl | 1, _ => exact HN.cell 1 _ rfl | 2, _ => exact HN.cell 2 _ rfl | 3, _ => exact HN.cell 3 _ rfl | 4, _ => exact HN.cell 4 _ rfl | 5, _ => exact HN.cell 5 _ rfl)
      have hgl3 := HN.lt
      rw [← hgb] at HC hgl3 ⊢
      clear hw2 a0 a1 a2 a3 a4 a5 a6 a7 a8 a9 a10 a11 a12 G1 H1 HN hgb
      obtain ⟨a0, a1, a2, a3, a4, a5, a6, a7, a8, a9, a10, a11, a12⟩ := EntAt.of HB.out
      go_wp2_with fail
      go_loopw [4, 6] (fun s i wr => ∃ j : Nat, j ≤ 6 ∧ i = .int .i64 j ∧ s = .string (bs (X.nums j)) ∧ Hid (Below wb.heap.size wb wr)) (fun _ i _ => 6 - (intOf i).toNat)
      case atStart => exact ⟨0, by omega, rfl, rfl, Lib.hid (Below.refl _ _)⟩
      case round =>
        obtain ⟨j, hj, rfl, rfl, hb⟩ := hrel
        by_cases hlt : j < 6
        · have hc := (hb.out.cell (p := ⟨gb, j, none⟩) hgl3).trans (HC.out j hlt)
          have hz := Hn.out j (by omega)
          obtain ⟨z, hze⟩ : ∃ z, z = X.num j := ⟨_, rfl⟩
          rw [← hze] at hc hz
          have hadd := fun w => add_lists' (P := Try.prog) (X.nums j) (enc z) (by have := X.nums_len j; have := enc_len z; omega) w
          have Hze := Lib.hid hze
          clear hze
          go_wp2_with (go_at_call 37; (with_reducible refine (refInt_any z _ (by omega) (by omega)).mono ?_); rintro e w4 ⟨rfl, b4⟩)
          go_roundw
          case rel =>
            refine ⟨j + 1, by omega, by go_num, ?_, Lib.hid (hb.out.trans (b4.mono hb.out.size))⟩
            rw [X.nums_succ, ← Hze.out]
          case measure => simp [intOf]; omega
        · have hjl : j = 6 := by omega
          subst hjl
          clear hj hlt
          have Hx := HB.out.below hb.out
          obtain ⟨a0, a1, a2, a3, a4, a5, a6, a7, a8, a9, a10, a11, a12⟩ := EntAt.of Hx
          have hB : Hid (Below w.heap.size w wr) := Lib.hid (bup GB.out hb.out)
          have hws := Hk.out.1
          have his := Hk.out.2
          have hlj := X.nums_len 6
          clear HB GB hb HC hgl3
          have hT : Hid (X.bytes = X.nums 6) := Lib.hid (by
            unfold Ent.bytes Ent.tail
            rw [HLm.out, HX.out]
            simp only [show ¬ k ≤ 2 by omega, if_false, List.append_nil])
          go_wp2_with fail
          go_ret2
          exact ⟨by rw [hT.out]; rfl, hB.out⟩
end Go.Proofs.Ytakdagmkkelnfaa

/-! The reference's take: the slot that bytes begin with. -/
namespace Go.Proofs.Ytakdagmkkelnfaa
open Go.RowKit Go.Sort NibPure
set_option linter.unusedVariables false
set_option linter.unusedSimpArgs false

def rTakeRes (z : Bool × List UInt8 × List UInt8 × Bool) : Value := .tuple #[.agg #[.bool z.1, .string (bs z.2.1)], .string (bs z.2.2.1), .bool z.2.2.2]
theorem rTake_len (r : List UInt8) : (rTake r).2.1.length ≤ r.length ∧ (rTake r).2.2.1.length ≤ r.length := by
  have h1 := takeI_rest r
  have h2 : (takeS (takeI r).2.1).1.length ≤ (takeI r).2.1.length ∧ (takeS (takeI r).2.1).2.1.length ≤ (takeI r).2.1.length := by
    generalize (takeI r).2.1 = u
    unfold takeS
    cases h : decS 200 u with
    | none => simp
    | some p =>
      obtain ⟨t, r'⟩ := p
      simp only
      unfold decS at h
      cases hd : dec u with
      | none => rw [hd] at h; cases h
      | some q =>
        obtain ⟨n, v⟩ := q
        rw [hd] at h
        simp only at h
        have := dec_len hd
        split at h
        · simp at h; obtain ⟨rfl, rfl⟩ := h; simp; omega
        · cases h
  unfold rTake
  split
  · simp only [List.length_nil]; omega
  · simp only; omega
set_option maxRecDepth 100000 in
set_option maxHeartbeats 4000000 in
theorem rtake04_any (r : List UInt8) (w : World) (hr : r.length ≤ 9223372036854775807) :
    Calls Try.prog 69 #[.string (bs r)] w fun e w' => e = .returned (rTakeRes (rTake r)) ∧ Below w.heap.size w w' := by
  have CI := fun w => refTakeInt_any (bs r) w (by rw [bs_size]; exact hr)
  rw [bs_data, takeRes_takeI] at CI
  have CS := fun w => refTakeStr_any (bs (takeI r).2.1) 200 w (by rw [bs_size]; have := takeI_rest r; omega)
  rw [bs_data, takeStrRes_takeS] at CS
  obtain ⟨z, hz⟩ : ∃ z, rTake r = z := ⟨_, rfl⟩
  rw [hz]
  unfold rTake at hz
  obtain ⟨y, hy⟩ : ∃ y, takeI r = y := ⟨_, rfl⟩
  rw [hy] at hz CI CS
  clear hy
  obtain ⟨n, r1, ok⟩ := y
  simp only at hz CI CS
  obtain ⟨y, hy⟩ : ∃ y, takeS r1 = y := ⟨_, rfl⟩
  rw [hy] at hz CS
  clear hy
  obtain ⟨t, r2, ok2⟩ := y
  simp only at hz CS
  have CI := Lib.hid CI
  have CS := Lib.hid CS
  obtain ⟨fs, hu⟩ := slotUnd
  have Hu := Lib.hid hu
  clear hu
  by_cases k0 : ok = false ∨ n = 0
  · rw [if_pos k0] at hz
    subst hz
    have k0 : ok = false ∨ (ok = true ∧ (n == 0) = true) := by
      rcases k0 with h | h
      · exact .inl h
      · cases ok
        · exact .inl rfl
        · exact .inr ⟨rfl, by simp [h]⟩
    rcases k0 with rfl | ⟨rfl, hn⟩ <;>
    · go_enter Try.func69, Try.ntmps69
      go_wp2_with fail
      refine (CI.out _).mono ?_
      rintro e w1 ⟨rfl, m, rfl⟩
      have S := Lib.hid ((Has.new w (.cells #[.bool false, .string ⟨#[]⟩] 62)).draws m)
      have B := Lib.hid (bup (bnew w (.cells #[.bool false, .string ⟨#[]⟩] 62)) (draws_below _ m))
      generalize hw1 : World.drewN _ m = w1 at *
      clear hw1
      have h0 := S.out.cell 0 _ rfl
      have h1 := S.out.cell 1 _ rfl
      have f0 := S.out.free 0
      have f1 := S.out.free 1
      go_wp2_with fail
      (try simp only [Exit.inBlock, Exit.then])
      refine bodyPost_ret (v := .tuple #[.agg #[.bool false, .string (bs [])], _, _]) ?_ rfl ⟨rfl, ?_⟩
      · refine Eq.trans (results_cell_two (p := 2) (u := 3) (v := 4) ?_ _ _ w.heap.size _ _ _ fs ?_ ((S.out.set 0 _).set 1 _) Hu.out (by kernel_rfl)) ?_
        all_goals rfl
      · exact (B.out.setCell (p := ⟨w.heap.size, 0, none⟩) (Nat.le_refl _) _).setCell (p := ⟨w.heap.size, 1, none⟩) (Nat.le_refl _) _
  · rw [if_neg k0] at hz
    subst hz
    obtain rfl : ok = true := by
      cases ok
      · exact absurd (.inl rfl) k0
      · rfl
    have hn : (n == 0) = false := by
      have : ¬ n = 0 := fun e => k0 (.inr e)
      simp [this]
    clear k0
    obtain ⟨z1, hz1⟩ : ∃ z : Bool, (n == 1) = z := ⟨_, rfl⟩
    have hzd : decide (n = 1) = z1 := by rw [← hz1]; rfl
    rw [hzd]
    clear hzd
    cases ok2 <;> cases z1 <;>
    · go_enter Try.func69, Try.ntmps69
      go_wp2_with fail
      refine (CI.out _).mono ?_
      rintro e w1 ⟨rfl, m, rfl⟩
      have S := Lib.hid ((Has.new w (.cells #[.bool false, .string ⟨#[]⟩] 62)).draws m)
      have B := Lib.hid (bup (bnew w (.cells #[.bool false, .string ⟨#[]⟩] 62)) (draws_below _ m))
      generalize hw1 : World.drewN _ m = w1 at *
      clear hw1
      go_wp2_with fail
      refine (CS.out _).mono ?_
      rintro e w2 ⟨rfl, m2, rfl⟩
      have S := Lib.hid (S.out.draws m2)
      have B := Lib.hid (bup B.out (draws_below _ m2))
      generalize hw1 : World.drewN _ m2 = w2 at *
      clear hw1
      have h0 := S.out.cell 0 _ rfl
      have h1 := S.out.cell 1 _ rfl
      have f0 := S.out.free 0
      have f1 := S.out.free 1
      go_wp2_with fail
      (try simp only [Exit.inBlock, Exit.then])
      refine bodyPost_ret (v := .tuple #[.agg #[.bool true, .string (bs t)], _, _]) ?_ rfl ⟨rfl, ?_⟩
      · refine Eq.trans (results_cell_two (p := 2) (u := 3) (v := 4) ?_ _ _ w.heap.size _ _ _ fs ?_ ((S.out.set 0 _).set 1 _) Hu.out (by kernel_rfl)) ?_
        all_goals rfl
      · exact (B.out.setCell (p := ⟨w.heap.size, 0, none⟩) (Nat.le_refl _) _).setCell (p := ⟨w.heap.size, 1, none⟩) (Nat.le_refl _) _
end Go.Proofs.Ytakdagmkkelnfaa

/-! The reference's Decode: the entry that bytes begin with. -/
namespace Go.Proofs.Ytakdagmkkelnfaa
open Go.RowKit Go.Sort NibPure
set_option linter.unusedVariables false
set_option linter.unusedSimpArgs false

def RowI (base : Nat) (w : World) (v : Value) (zs : List Int) : Prop := w.ownsRow base 3 1 v zs.length (ints zs)
def sliceLenE : Value → Nat
  | .slice _ n _ => n
  | _ => 0
theorem ints_append (a b : List Int) : ints (a ++ b) = ints a ++ ints b := by simp [ints]
theorem ints_get {l : List Int} {j : Nat} (h : j < l.length) : (ints l)[j]? = some (.int .i64 (l.getD j 0)) := by
  simp [ints, List.getD, h]
theorem RowI.cell {base : Nat} {w : World} {g n cap : Nat} {zs : List Int} (h : RowI base w (.slice (some ⟨g, 0, none⟩) n cap) zs) {j : Nat} (hn : n = zs.length) (hj : j < zs.length) : w.cell? ⟨g, j, none⟩ = some (.int .i64 (zs.getD j 0)) := by
  subst hn
  rw [World.ownsRow.cellAt h j (by omega), ints_get hj]
theorem rdN_kind {S : List UInt8} {j : Nat} {zs : List Int} {u : List UInt8} (h : rdN S (j + 1) = some (zs, u)) (hj : j + 1 ≤ 9) : zs.getD 0 0 = (stN S 1).1.kind := by
  rw [rdN_stN S (j + 1) hj] at h
  split at h
  · cases h
  · simp only [Option.some.injEq, Prod.mk.injEq] at h
    rw [← h.1, ← stN_kind S j]
    simp [List.getD, Ent.num]
theorem list_six {l : List Int} (h : l.length = 6) : ∃ a b c d e f, l = [a, b, c, d, e, f] := by
  match l, h with
  | [a, b, c, d, e, f], _ => exact ⟨a, b, c, d, e, f, rfl⟩
theorem list_nine {l : List Int} (h : l.length = 9) : ∃ a b c d e f g i j, l = [a, b, c, d, e, f, g, i, j] := by
  match l, h with
  | [a, b, c, d, e, f, g, i, j], _ => exact ⟨a, b, c, d, e, f, g, i, j, rfl⟩
set_option maxRecDepth 100000 in
set_option maxHeartbeats 8000000 in
theorem rdecode_any (s : ByteArray) (hs : s.size ≤ 9223372036854775807) (w : World) :
    Calls Try.prog 49 #[.string s] w fun e w' => e = .returned (decERes (decE s.data.toList)) ∧ Below w.heap.size w w' := by
  obtain ⟨S, hS⟩ : ∃ S, s.data.toList = S := ⟨_, rfl⟩
  have hSs : s = bs S := by rw [← hS]; rfl
  have hSl : S.length ≤ 9223372036854775807 := by rw [← hS]; have : s.data.toList.length = s.size := Array.length_toList; omega
  rw [hS, ← rDec_eq]
  subst hSs
  clear hS hs
  obtain ⟨R, hR⟩ : ∃ R, decERes (rDec S) = R := ⟨_, rfl⟩
  rw [hR]
  have HR := Lib.hid hR
  clear hR
  obtain ⟨fs, hu⟩ := entUnd
  have Hu := Lib.hid hu
  clear hu
  obtain ⟨M, hM⟩ : ∃ M, (stN S 1).1.many = M := ⟨_, rfl⟩
  have hM9 : M = 6 ∨ M = 9 := by rw [← hM]; unfold Ent.many; split <;> omega
  have HK : Hid (∀ j zs u, rdN S (j + 1) = some (zs, u) → j + 1 ≤ 9 → (if (zs.getD 0 0 = 1 ∨ zs.getD 0 0 = 2) then 9 else 6) = M) := Lib.hid (fun j zs u h hj => by
    rw [rdN_kind h hj, ← hM]; rfl)
  have HN : Hid (∀ j, j + 1 ≤ M → rdN S (j + 1) = none → R = decERes none) := Lib.hid (fun j hj h => by
    rw [← HR.out]; unfold rDec; rw [hM, rdN_mono h hj])
  have HM := Lib.hid hM
  clear hM
  go_enter Try.func49, Try.ntmps49
  go_upto_region 3 with (fail)
  generalize hw1 : World.alloc (World.alloc w _) _ = w1
  have Z1 := Lib.hid (by rw [← hw1]; exact (Has.new w _).alloc _ : Has w1 w.heap.size (.cells #[.int .i64 0, .int .i64 0, .int .i64 0, .int .i64 0, .int .i64 0, .int .i64 0, .int .i64 0, .int .i64 0, .bool false, .string ⟨#[]⟩, .bool false, .string ⟨#[]⟩, .int .i64 0] 64))
  have R1 : Hid (RowI (w.heap.size + 1) w1 (.slice (some ⟨w.heap.size + 1, 0, none⟩) 0 0) []) := Lib.hid (by
    rw [← hw1]
    have := World.ownsRow_lit (base := w.heap.size + 1) (e := 3) (size := 1) (w.alloc (.cells #[.int .i64 0, .int .i64 0, .int .i64 0, .int .i64 0, .int .i64 0, .int .i64 0, .int .i64 0, .int .i64 0, .bool false, .string ⟨#[]⟩, .bool false, .string ⟨#[]⟩, .int .i64 0] 64)) #[] 0 (by simp) (by unfold maxLen; omega) rfl
    unfold RowI
    simpa [ints] using this)
  have B1 := Lib.hid (by rw [← hw1]; exact bup (bnew w _) (bnew _ _) : Below w.heap.size w w1)
  have hz1 : w.heap.size + 1 < w1.heap.size := by rw [← hw1]; simp
  clear hw1
  go_wp2_with fail
  go_loopw [0, 5, 6] (fun s v want wr => ∃ (j : Nat) (zs : List Int) (u : List UInt8), s = .string (bs u) ∧ j = zs.length ∧ Hid (rdN S j = some (zs, u)) ∧ Hid (RowI (w.heap.size + 1) wr v zs) ∧ want = .int .i64 (if j = 0 then (6 : Nat) else M : Nat) ∧ j ≤ M ∧ Hid (Has wr w.heap.size (.cells #[.int .i64 0, .int .i64 0, .int .i64 0, .int .i64 0, .int .i64 0, .int .i64 0, .int .i64 0, .int .i64 0, .bool false, .string ⟨#[]⟩, .bool false, .string ⟨#[]⟩, .int .i64 0] 64)) ∧ Hid (Below w.heap.size w wr) ∧ w.heap.size + 1 < wr.heap.size) (fun _ v _ _ => 9 - sliceLenE v)
  case atStart => exact ⟨0, [], S, rfl, rfl, Lib.hid rfl, R1, rfl, by omega, Z1, B1, hz1⟩
  case round =>
    clear R1 Z1 B1 hz1
    obtain ⟨j, zs, u, rfl, hjz, D, RR, rfl, hjM, Z, B, hz⟩ := hrel
    subst hjz
    obtain ⟨A', cap, rfl, hc1, hc2⟩ := ownsRow_form RR.out
    have hul := (rdN_len D.out).2
    obtain ⟨want, hwant⟩ : ∃ want : Nat, (if zs.length = 0 then 6 else M) = want := ⟨_, rfl⟩
    rw [hwant]
    by_cases hlt : zs.length < want
    · have hjM1 : zs.length + 1 ≤ M := by
        rw [← hwant] at hlt
        split at hlt <;> omega
      have CT := fun w => refTakeInt_any (bs u) w (by rw [bs_size]; omega)
      rw [bs_data] at CT
      cases hd : dec u with
      | none =>
        rw [hd] at CT
        simp only [takeRes] at CT
        replace CT := Lib.hid CT
        have HRR : Hid (R = decERes none) := Lib.hid (HN.out zs.length hjM1 (rdN_stop D.out hd))
        clear hd hwant
        go_wp2_with fail
        refine (CT.out _).mono ?_
        rintro e w2 ⟨rfl, m, rfl⟩
        have Z2 := Lib.hid (Z.out.draws m)
        have B2 := Lib.hid (bup B.out (draws_below _ m))
        generalize hw1 : World.drewN _ m = w2 at *
        clear hw1
        go_wp2_with ((with_reducible refine at_store rfl ?_); refine wpList_put_row rfl _ _ _ rfl rfl w.heap.size _ rfl rfl _ _ Z2.out (by kernel_rfl) rfl (by first | kernel_rfl | simp [Value.oneCell']) ?_; intro w8 Z8 B8)
        (try simp only [Exit.inBlock, Exit.then])
        refine bodyPost_ret (v := .tuple #[.agg Ent.zero.row, .string (bs []), .int .i64 4]) ?_ rfl ⟨by rw [HRR.out]; rfl, ?_⟩
        · refine Eq.trans (results_cell_two (p := 2) (u := 3) (v := 4) ?_ _ _ w.heap.size _ _ _ fs ?_ Z8 Hu.out (by kernel_rfl)) ?_
          all_goals rfl
        · exact B2.out.trans (B8.below (Nat.le_refl _) B2.out.size)
      | some zv =>
        obtain ⟨z, v⟩ := zv
        rw [hd] at CT
        simp only [takeRes] at CT
        replace CT := Lib.hid CT
        have D2 := Lib.hid (rdN_step D.out hd)
        clear hd
        go_wp2_with fail
        refine (CT.out _).mono ?_
        rintro e w2 ⟨rfl, m, rfl⟩
        have Z2 := Lib.hid (Z.out.draws m)
        have B2 := Lib.hid (bup B.out (draws_below _ m))
        have R2 := Lib.hid (ownsRow_below RR.out (draws_below _ m))
        have hz2 : w.heap.size + 1 < (World.drewN wr m).heap.size := hz
        generalize hw1 : World.drewN _ m = w2 at *
        clear hw1
        have HKK := HK.out zs.length (zs ++ [z]) v D2.out (by omega)
        obtain ⟨kk, hkk⟩ : ∃ kk, (zs ++ [z]).getD 0 0 = kk := ⟨_, rfl⟩
        rw [hkk] at HKK
        have Hkk := Lib.hid hkk
        have hw9 : zs.length < 9 := by omega
        have hwantM : ¬ (kk = 1 ∨ kk = 2) → want = M := by
          intro h
          rw [if_neg h] at HKK
          rw [← hwant]
          split <;> omega
        have hkM : (kk = 1 ∨ kk = 2) → M = 9 := fun h => by rw [if_pos h] at HKK; exact HKK.symm
        have Hwant := Lib.hid hwantM
        have HkM := Lib.hid hkM
        clear hkk HKK hwant hwantM hkM
        have hk3 : (kk == 1) = true ∨ ((kk == 1) = false ∧ (kk == 2) = true) ∨ ((kk == 1) = false ∧ (kk == 2) = false) := by
          by_cases h1 : kk = 1
          · simp [h1]
          · by_cases h2 : kk = 2 <;> simp [h1, h2]
        rcases hk3 with h1 | ⟨h1, h2⟩ | ⟨h1, h2⟩ <;>
        · go_wp2_with (at_builtin; refine grow_new intElem rfl (.tmp 31) (.tmp 33) rfl (w.heap.size + 1) _ _ zs.length (ints zs) rfl (by exact R2.out) 1 #[.int .i64 z] rfl rfl (by simp [Value.oneCell']) (by omega) (by omega) (by omega) ?_; intro v6 w6 R6 g6 b6; (obtain ⟨g7, cap7, cur7, rfl, hgb, hgl, _, h71, h72, _, _⟩ := ownsRow_at R6 (by omega)); have R7 : Hid (RowI (w.heap.size + 1) w6 (.slice (some ⟨g7, 0, none⟩) (zs.length + 1) cap7) (zs ++ [z])) := Lib.hid (by unfold RowI; rw [ints_append, List.length_append]; exact R6); have c0 := R7.out.cell (j := 0) (by simp) (by simp); rw [Hkk.out] at c0)
          go_roundw
          case rel =>
            refine ⟨zs.length + 1, zs ++ [z], v, rfl, by simp, D2, R7, ?_, by omega, Lib.hid (Z2.out.lowE b6 (by omega)), Lib.hid (B2.out.trans (b6.mono (by omega))), ?_⟩
            · rw [if_neg (by omega)]
              first
              | (rw [HkM.out (by simp_all)]; rfl)
              | (rw [Hwant.out (by simp_all)])
            · have := b6.size
              omega
          case measure => simp [sliceLenE]; omega
    · have hjM' : zs.length = M := by
        rw [← hwant] at hlt
        split at hlt <;> omega
      have HD : Hid (rdN S M = some (zs, u)) := Lib.hid (by rw [← hjM']; exact D.out)
      obtain ⟨gb, cap7, cur7, hsl, hgb, hgl, _, h71, h72, _, _⟩ := ownsRow_at RR.out (show 0 < zs.length by omega)
      obtain ⟨rfl, rfl⟩ : A' = some ⟨gb, 0, none⟩ ∧ cap = cap7 := by cases hsl; exact ⟨rfl, rfl⟩
      have hwM : want = M := by rw [← hwant]; rw [if_neg (by omega)]
      subst hwM
      clear hwant hlt HN HK hsl hjM D
      rcases hM9 with rfl | rfl
      · obtain ⟨z0, z1, z2, z3, z4, z5, rfl⟩ := list_six hjM'
        have HSP : Hid (R = decERes (if Ent.good ⟨z0, z1, z2, z3, z4, z5, 0, 0, false, ⟨#[]⟩, false, ⟨#[]⟩, 0⟩ = true then some (⟨z0, z1, z2, z3, z4, z5, 0, 0, false, ⟨#[]⟩, false, ⟨#[]⟩, 0⟩, u) else none)) := Lib.hid (by
          rw [← HR.out]; unfold rDec; rw [HM.out, HD.out]; rfl)
        clear HM HD
        have c0 : wr.cell? ⟨gb, 0, none⟩ = some (.int .i64 z0) := RR.out.cell (j := 0) rfl (by simp)
        have c1 : wr.cell? ⟨gb, 1, none⟩ = some (.int .i64 z1) := RR.out.cell (j := 1) rfl (by simp)
        have c2 : wr.cell? ⟨gb, 2, none⟩ = some (.int .i64 z2) := RR.out.cell (j := 2) rfl (by simp)
        have c3 : wr.cell? ⟨gb, 3, none⟩ = some (.int .i64 z3) := RR.out.cell (j := 3) rfl (by simp)
        have c4 : wr.cell? ⟨gb, 4, none⟩ = some (.int .i64 z4) := RR.out.cell (j := 4) rfl (by simp)
        have c5 : wr.cell? ⟨gb, 5, none⟩ = some (.int .i64 z5) := RR.out.cell (j := 5) rfl (by simp)
        go_upto_region 11 with (fail)
        go_region_held3 (fun w' => w'.cell? ⟨gb, 0, none⟩ = some (.int .i64 z0) ∧ w'.cell? ⟨gb, 1, none⟩ = some (.int .i64 z1) ∧ w'.cell? ⟨gb, 2, none⟩ = some (.int .i64 z2) ∧ w'.cell? ⟨gb, 3, none⟩ = some (.int .i64 z3) ∧ w'.cell? ⟨gb, 4, none⟩ = some (.int .i64 z4) ∧ w'.cell? ⟨gb, 5, none⟩ = some (.int .i64 z5)) (go_keep) (fail)
        go_upto_region 12 with (fail)
        obtain ⟨wa, hwa⟩ : ∃ wa, wa = (wr.alloc (.cells #[.int .i64 z0, .int .i64 z1, .int .i64 z2, .int .i64 z3, .int .i64 z4, .int .i64 z5, .int .i64 0, .int .i64 0, .bool false, .string ⟨#[]⟩, .bool false, .string ⟨#[]⟩, .int .i64 0] 64)).drew := ⟨_, rfl⟩
        have hgx : wr.drew.heap.size = wr.heap.size := rfl
        have Xa : Hid (Has wa wr.heap.size (.cells #[.int .i64 z0, .int .i64 z1, .int .i64 z2, .int .i64 z3, .int .i64 z4, .int .i64 z5, .int .i64 0, .int .i64 0, .bool false, .string ⟨#[]⟩, .bool false, .string ⟨#[]⟩, .int .i64 0] 64)) := Lib.hid (by rw [hwa]; exact (Has.new wr _).drew)
        have Za := Lib.hid (show Has wa w.heap.size _ by rw [hwa]; exact (Z.out.alloc _).drew)
        have Ba := Lib.hid (show Below w.heap.size w wa by rw [hwa]; exact (bup B.out (bnew _ _)).drew)
        clear c0 c1 c2 c3 c4 c5
        rw [← hwa]
        clear hwa
        obtain ⟨x0, x1, x2, x3, x4, x5, x6, x7, x8, x9, x10, x11, x12⟩ := EntAt.of Xa.out
        have CG := fun w => rgood04_any ⟨z0, z1, z2, z3, z4, z5, 0, 0, false, ⟨#[]⟩, false, ⟨#[]⟩, 0⟩ (show (0 : Nat) ≤ _ by omega) (show (0 : Nat) ≤ _ by omega) w
        cases hg : Ent.good ⟨z0, z1, z2, z3, z4, z5, 0, 0, false, ⟨#[]⟩, false, ⟨#[]⟩, 0⟩ with
        | false =>
          rw [hg] at CG
          simp only [Ent.val, Ent.row] at CG
          replace CG := Lib.hid CG
          have HRR : Hid (R = decERes none) := Lib.hid (by rw [HSP.out, if_neg (by simp [hg])])
          clear hg
          go_wp2_with fail
          refine (CG.out _).mono ?_
          rintro e w5 ⟨rfl, b5⟩
          have Z5 := Lib.hid (Za.out.below b5)
          have B5 := Lib.hid (bup Ba.out b5)
          clear b5 x0 x1 x2 x3 x4 x5 x6 x7 x8 x9 x10 x11 x12
          go_wp2_with ((with_reducible refine at_store rfl ?_); refine wpList_put_row rfl _ _ _ rfl rfl w.heap.size _ rfl rfl _ _ Z5.out (by kernel_rfl) rfl (by first | kernel_rfl | simp [Value.oneCell']) ?_; intro w8 Z8 B8)
          (try simp only [Exit.inBlock, Exit.then])
          refine bodyPost_ret (v := .tuple #[.agg Ent.zero.row, .string (bs []), .int .i64 4]) ?_ rfl ⟨by rw [HRR.out]; rfl, ?_⟩
          · refine Eq.trans (results_cell_two (p := 2) (u := 3) (v := 4) ?_ _ _ w.heap.size _ _ _ fs ?_ Z8 Hu.out (by kernel_rfl)) ?_
            all_goals rfl
          · exact B5.out.trans (B8.below (Nat.le_refl _) B5.out.size)
        | true =>
          rw [hg] at CG
          simp only [Ent.val, Ent.row] at CG
          replace CG := Lib.hid CG
          have HRR : Hid (R = decERes (some (⟨z0, z1, z2, z3, z4, z5, 0, 0, false, ⟨#[]⟩, false, ⟨#[]⟩, 0⟩, u))) := Lib.hid (by rw [HSP.out, if_pos hg])
          clear hg
          go_wp2_with fail
          refine (CG.out _).mono ?_
          rintro e w5 ⟨rfl, b5⟩
          have Z5 := Lib.hid (Za.out.below b5)
          have X5 := Lib.hid (Xa.out.below b5)
          have B5 := Lib.hid (bup Ba.out b5)
          clear b5 x0 x1 x2 x3 x4 x5 x6 x7 x8 x9 x10 x11 x12
          obtain ⟨x0, x1, x2, x3, x4, x5, x6, x7, x8, x9, x10, x11, x12⟩ := EntAt.of X5.out
          go_wp2_with ((with_reducible refine at_store rfl ?_); refine wpList_put_row rfl _ _ _ rfl rfl w.heap.size _ rfl rfl _ _ Z5.out (by kernel_rfl) rfl (by first | kernel_rfl | simp [Value.oneCell']) ?_; intro w8 Z8 B8)
          (try simp only [Exit.inBlock, Exit.then])
          refine bodyPost_ret (v := .tuple #[.agg #[.int .i64 z0, .int .i64 z1, .int .i64 z2, .int .i64 z3, .int .i64 z4, .int .i64 z5, .int .i64 0, .int .i64 0, .bool false, .string ⟨#[]⟩, .bool false, .string ⟨#[]⟩, .int .i64 0], .string (bs u), .int .i64 0]) ?_ rfl ⟨by rw [HRR.out]; rfl, ?_⟩
          · refine Eq.trans (results_cell_two (p := 2) (u := 3) (v := 4) ?_ _ _ w.heap.size _ _ _ fs ?_ Z8 Hu.out (by kernel_rfl)) ?_
            all_goals rfl
          · exact B5.out.trans (B8.below (Nat.le_refl _) B5.out.size)
      · obtain ⟨z0, z1, z2, z3, z4, z5, z6, z7, z8, rfl⟩ := list_nine hjM'
        have CT1 := fun w => rtake04_any u w (by omega)
        have hl1 := rTake_len u
        obtain ⟨TA, hTA⟩ : ∃ t, rTake u = t := ⟨_, rfl⟩
        have CT2 := fun w => rtake04_any TA.2.2.1 w (by rw [← hTA]; omega)
        have hl2 := rTake_len TA.2.2.1
        obtain ⟨TB, hTB⟩ : ∃ t, rTake TA.2.2.1 = t := ⟨_, rfl⟩
        have HSP : Hid (R = decERes (if TA.2.2.2 = false ∨ TB.2.2.2 = false then none else if Ent.good ⟨z0, z1, z2, z3, z4, z5, z6, z7, TA.1, bs TA.2.1, TB.1, bs TB.2.1, z8⟩ = true then some (⟨z0, z1, z2, z3, z4, z5, z6, z7, TA.1, bs TA.2.1, TB.1, bs TB.2.1, z8⟩, TB.2.2.1) else none)) := Lib.hid (by
          rw [← HR.out]; unfold rDec; rw [HM.out, HD.out]; simp only [hTA, hTB]; rfl)
        rw [hTA] at CT1 hl1
        rw [hTB] at CT2 hl2
        have hda : TA.2.1.length ≤ S.length := by omega
        have hdb : TB.2.1.length ≤ S.length := by omega
        clear HM HD hTA hTB hl1 hl2
        obtain ⟨ua, da, ra, oka⟩ := TA
        obtain ⟨ub, db, rb, okb⟩ := TB
        simp only [rTakeRes] at CT1 CT2 HSP hda hdb
        replace CT1 := Lib.hid CT1
        replace CT2 := Lib.hid CT2
        have hdaS : (bs da).size ≤ 9223372036854775807 := by rw [bs_size]; omega
        have hdbS : (bs db).size ≤ 9223372036854775807 := by rw [bs_size]; omega
        have c0 : wr.cell? ⟨gb, 0, none⟩ = some (.int .i64 z0) := RR.out.cell (j := 0) rfl (by simp)
        have c1 : wr.cell? ⟨gb, 1, none⟩ = some (.int .i64 z1) := RR.out.cell (j := 1) rfl (by simp)
        have c2 : wr.cell? ⟨gb, 2, none⟩ = some (.int .i64 z2) := RR.out.cell (j := 2) rfl (by simp)
        have c3 : wr.cell? ⟨gb, 3, none⟩ = some (.int .i64 z3) := RR.out.cell (j := 3) rfl (by simp)
        have c4 : wr.cell? ⟨gb, 4, none⟩ = some (.int .i64 z4) := RR.out.cell (j := 4) rfl (by simp)
        have c5 : wr.cell? ⟨gb, 5, none⟩ = some (.int .i64 z5) := RR.out.cell (j := 5) rfl (by simp)
        have c6 : wr.cell? ⟨gb, 6, none⟩ = some (.int .i64 z6) := RR.out.cell (j := 6) rfl (by simp)
        have c7 : wr.cell? ⟨gb, 7, none⟩ = some (.int .i64 z7) := RR.out.cell (j := 7) rfl (by simp)
        have c8 : wr.cell? ⟨gb, 8, none⟩ = some (.int .i64 z8) := RR.out.cell (j := 8) rfl (by simp)
        go_upto_region 11 with (fail)
        go_region_held3 (fun w' => w'.cell? ⟨gb, 0, none⟩ = some (.int .i64 z0) ∧ w'.cell? ⟨gb, 1, none⟩ = some (.int .i64 z1) ∧ w'.cell? ⟨gb, 2, none⟩ = some (.int .i64 z2) ∧ w'.cell? ⟨gb, 3, none⟩ = some (.int .i64 z3) ∧ w'.cell? ⟨gb, 4, none⟩ = some (.int .i64 z4) ∧ w'.cell? ⟨gb, 5, none⟩ = some (.int .i64 z5)) (go_keep) (fail)
        go_upto_region 12 with (fail)
        obtain ⟨wa, hwa⟩ : ∃ wa, wa = (wr.alloc (.cells #[.int .i64 z0, .int .i64 z1, .int .i64 z2, .int .i64 z3, .int .i64 z4, .int .i64 z5, .int .i64 0, .int .i64 0, .bool false, .string ⟨#[]⟩, .bool false, .string ⟨#[]⟩, .int .i64 0] 64)).drew := ⟨_, rfl⟩
        have hgx : wr.drew.heap.size = wr.heap.size := rfl
        have Xa : Hid (Has wa wr.heap.size (.cells #[.int .i64 z0, .int .i64 z1, .int .i64 z2, .int .i64 z3, .int .i64 z4, .int .i64 z5, .int .i64 0, .int .i64 0, .bool false, .string ⟨#[]⟩, .bool false, .string ⟨#[]⟩, .int .i64 0] 64)) := Lib.hid (by rw [hwa]; exact (Has.new wr _).drew)
        have Za := Lib.hid (show Has wa w.heap.size _ by rw [hwa]; exact (Z.out.alloc _).drew)
        have Ba := Lib.hid (show Below w.heap.size w wa by rw [hwa]; exact (bup B.out (bnew _ _)).drew)
        have Ra : RowI (w.heap.size + 1) wa (.slice (some ⟨gb, 0, none⟩) 9 cap) [z0, z1, z2, z3, z4, z5, z6, z7, z8] := by rw [hwa]; exact ownsRow_below RR.out (bnew _ _).drew
        clear c0 c1 c2 c3 c4 c5 c6 c7 c8
        rw [← hwa]
        have hxs : w.heap.size ≠ wr.heap.size := by omega
        have hxs' : w.heap.size ≤ wr.heap.size := by omega
        have hgs : gb ≠ wr.heap.size := by omega
        have hwz : wr.heap.size < wa.heap.size := Xa.out.lt
        obtain ⟨gx, hgx2⟩ : ∃ gx, gx = wr.heap.size := ⟨_, rfl⟩
        rw [← hgx2] at hxs hxs' hgs hwz Xa ⊢
        have c6 : wa.cell? ⟨gb, 6, none⟩ = some (.int .i64 z6) := Ra.cell (j := 6) rfl (by simp)
        have c7 : wa.cell? ⟨gb, 7, none⟩ = some (.int .i64 z7) := Ra.cell (j := 7) rfl (by simp)
        have c8 : wa.cell? ⟨gb, 8, none⟩ = some (.int .i64 z8) := Ra.cell (j := 8) rfl (by simp)
        clear hwa hgx hgx2 Ra RR
        obtain ⟨x0, x1, x2, x3, x4, x5, x6, x7, x8, x9, x10, x11, x12⟩ := EntAt.of Xa.out
        clear x0 x1 x2 x3 x4 x5 x8 x9 x10 x11
        have f6 := Xa.out.free 6
        have f7 := Xa.out.free 7
        have f12 := Xa.out.free 12
        go_upto_region 16 with (fail)
        have Xb := Lib.hid (((Xa.out.set 6 (.int .i64 z6)).set 7 (.int .i64 z7)).set 12 (.int .i64 z8))
        have Zb := Lib.hid (((Za.out.setOther hxs 6 (.int .i64 z6)).setOther hxs 7 (.int .i64 z7)).setOther hxs 12 (.int .i64 z8))
        have Bb := Lib.hid (((Ba.out.setCell (p := ⟨gx, 6, none⟩) hxs' (.int .i64 z6)).setCell (p := ⟨gx, 7, none⟩) hxs' (.int .i64 z7)).setCell (p := ⟨gx, 12, none⟩) hxs' (.int .i64 z8))
        have hwz : gx < (((wa.setCell ⟨gx, 6, none⟩ (.int .i64 z6)).setCell ⟨gx, 7, none⟩ (.int .i64 z7)).setCell ⟨gx, 12, none⟩ (.int .i64 z8)).heap.size := by simpa using hwz
        generalize hwb : World.setCell _ _ _ = wb
        rw [hwb] at Xb Zb Bb hwz
        simp only [List.setIfInBounds_toArray, List.set_cons_succ, List.set_cons_zero] at Xb
        clear hwb x6 x7 x12 f6 f7 f12 c6 c7 c8 Xa Za Ba
        go_wp2_with fail
        refine (CT1.out _).mono ?_
        rintro e wc ⟨rfl, bc⟩
        have Xc := Lib.hid ((Xb.out.below bc).alloc (.cells #[.bool ua, .string (bs da)] 62))
        have Zc := Lib.hid ((Zb.out.below bc).alloc (.cells #[.bool ua, .string (bs da)] 62))
        have Bc := Lib.hid (bup (bup Bb.out bc) (bnew wc (.cells #[.bool ua, .string (bs da)] 62)))
        have Ac := Lib.hid (Has.new wc (.cells #[.bool ua, .string (bs da)] 62))
        have hxa : gx < wc.heap.size := Nat.lt_of_lt_of_le hwz bc.size
        clear bc Xb Zb Bb hwz
        go_upto_region 17 with (fail)
        generalize hwd : World.alloc wc _ = wd
        rw [hwd] at Xc Zc Bc Ac
        clear hwd
        go_wp2_with fail
        refine (CT2.out _).mono ?_
        rintro e we ⟨rfl, be⟩
        have Xe := Lib.hid ((Xc.out.below be).alloc (.cells #[.bool ub, .string (bs db)] 62))
        have Ze := Lib.hid ((Zc.out.below be).alloc (.cells #[.bool ub, .string (bs db)] 62))
        have Be := Lib.hid (bup (bup Bc.out be) (bnew we (.cells #[.bool ub, .string (bs db)] 62)))
        have Ae := Lib.hid ((Ac.out.below be).alloc (.cells #[.bool ub, .string (bs db)] 62))
        have Qe := Lib.hid (Has.new we (.cells #[.bool ub, .string (bs db)] 62))
        have hae : wc.heap.size < we.heap.size := Nat.lt_of_lt_of_le Ac.out.lt be.size
        clear be Xc Zc Bc Ac
        go_upto_region 18 with (fail)
        generalize hwf : World.alloc we _ = wf
        rw [hwf] at Xe Ze Be Ae Qe
        clear hwf
        cases oka with
        | false =>
          have HRR : Hid (R = decERes none) := Lib.hid (by rw [HSP.out, if_pos (.inl rfl)])
          go_wp2_with ((with_reducible refine at_store rfl ?_); refine wpList_put_row rfl _ _ _ rfl rfl w.heap.size _ rfl rfl _ _ Ze.out (by kernel_rfl) rfl (by first | kernel_rfl | simp [Value.oneCell']) ?_; intro w8 Z8 B8)
          (try simp only [Exit.inBlock, Exit.then])
          refine bodyPost_ret (v := .tuple #[.agg Ent.zero.row, .string (bs []), .int .i64 4]) ?_ rfl ⟨by rw [HRR.out]; rfl, ?_⟩
          · refine Eq.trans (results_cell_two (p := 2) (u := 3) (v := 4) ?_ _ _ w.heap.size _ _ _ fs ?_ Z8 Hu.out (by kernel_rfl)) ?_
            all_goals rfl
          · exact Be.out.trans (B8.below (Nat.le_refl _) Be.out.size)
        | true =>
        cases okb with
        | false =>
          have HRR : Hid (R = decERes none) := Lib.hid (by rw [HSP.out, if_pos (.inr rfl)])
          go_wp2_with ((with_reducible refine at_store rfl ?_); refine wpList_put_row rfl _ _ _ rfl rfl w.heap.size _ rfl rfl _ _ Ze.out (by kernel_rfl) rfl (by first | kernel_rfl | simp [Value.oneCell']) ?_; intro w8 Z8 B8)
          (try simp only [Exit.inBlock, Exit.then])
          refine bodyPost_ret (v := .tuple #[.agg Ent.zero.row, .string (bs []), .int .i64 4]) ?_ rfl ⟨by rw [HRR.out]; rfl, ?_⟩
          · refine Eq.trans (results_cell_two (p := 2) (u := 3) (v := 4) ?_ _ _ w.heap.size _ _ _ fs ?_ Z8 Hu.out (by kernel_rfl)) ?_
            all_goals rfl
          · exact Be.out.trans (B8.below (Nat.le_refl _) Be.out.size)
        | true =>
        replace HSP : Hid (R = decERes (if Ent.good ⟨z0, z1, z2, z3, z4, z5, z6, z7, ua, bs da, ub, bs db, z8⟩ = true then some (⟨z0, z1, z2, z3, z4, z5, z6, z7, ua, bs da, ub, bs db, z8⟩, rb) else none)) := Lib.hid (by rw [HSP.out, if_neg (by simp)])
        have s0 := Ae.out.cell 0 _ rfl
        have s1 := Ae.out.cell 1 _ rfl
        have t0 := Qe.out.cell 0 _ rfl
        have t1 := Qe.out.cell 1 _ rfl
        obtain ⟨x0, x1, x2, x3, x4, x5, x6, x7, x8, x9, x10, x11, x12⟩ := EntAt.of Xe.out
        clear x0 x1 x2 x3 x4 x5 x6 x7 x12
        have f8 := Xe.out.free 8
        have f9 := Xe.out.free 9
        have f10 := Xe.out.free 10
        have f11 := Xe.out.free 11
        have hsa : wc.heap.size ≠ gx := by omega
        have hsb : we.heap.size ≠ gx := by omega
        go_upto_region 23 with (fail)
        have Xg := Lib.hid ((((Xe.out.set 8 (.bool ua)).set 9 (.string (bs da))).set 10 (.bool ub)).set 11 (.string (bs db)))
        have Zg := Lib.hid ((((Ze.out.setOther hxs 8 (.bool ua)).setOther hxs 9 (.string (bs da))).setOther hxs 10 (.bool ub)).setOther hxs 11 (.string (bs db)))
        have Bg := Lib.hid ((((Be.out.setCell (p := ⟨gx, 8, none⟩) hxs' (.bool ua)).setCell (p := ⟨gx, 9, none⟩) hxs' (.string (bs da))).setCell (p := ⟨gx, 10, none⟩) hxs' (.bool ub)).setCell (p := ⟨gx, 11, none⟩) hxs' (.string (bs db)))
        generalize hwg : World.setCell _ _ _ = wg
        rw [hwg] at Xg Zg Bg
        simp only [List.setIfInBounds_toArray, List.set_cons_succ, List.set_cons_zero] at Xg
        clear hwg s0 s1 t0 t1 x8 x9 x10 x11 f8 f9 f10 f11 Xe Ze Be Ae Qe
        obtain ⟨x0, x1, x2, x3, x4, x5, x6, x7, x8, x9, x10, x11, x12⟩ := EntAt.of Xg.out
        have CG := fun w => rgood04_any ⟨z0, z1, z2, z3, z4, z5, z6, z7, ua, bs da, ub, bs db, z8⟩ (by assumption) (by assumption) w
        cases hg : Ent.good ⟨z0, z1, z2, z3, z4, z5, z6, z7, ua, bs da, ub, bs db, z8⟩ with
        | false =>
          rw [hg] at CG
          simp only [Ent.val, Ent.row] at CG
          replace CG := Lib.hid CG
          have HRR : Hid (R = decERes none) := Lib.hid (by rw [HSP.out, if_neg (by simp [hg])])
          clear hg
          go_wp2_with fail
          refine (CG.out _).mono ?_
          rintro e w5 ⟨rfl, b5⟩
          have Z5 := Lib.hid (Zg.out.below b5)
          have B5 := Lib.hid (bup Bg.out b5)
          clear b5 x0 x1 x2 x3 x4 x5 x6 x7 x8 x9 x10 x11 x12
          go_wp2_with ((with_reducible refine at_store rfl ?_); refine wpList_put_row rfl _ _ _ rfl rfl w.heap.size _ rfl rfl _ _ Z5.out (by kernel_rfl) rfl (by first | kernel_rfl | simp [Value.oneCell']) ?_; intro w8 Z8 B8)
          (try simp only [Exit.inBlock, Exit.then])
          refine bodyPost_ret (v := .tuple #[.agg Ent.zero.row, .string (bs []), .int .i64 4]) ?_ rfl ⟨by rw [HRR.out]; rfl, ?_⟩
          · refine Eq.trans (results_cell_two (p := 2) (u := 3) (v := 4) ?_ _ _ w.heap.size _ _ _ fs ?_ Z8 Hu.out (by kernel_rfl)) ?_
            all_goals rfl
          · exact B5.out.trans (B8.below (Nat.le_refl _) B5.out.size)
        | true =>
          rw [hg] at CG
          simp only [Ent.val, Ent.row] at CG
          replace CG := Lib.hid CG
          have HRR : Hid (R = decERes (some (⟨z0, z1, z2, z3, z4, z5, z6, z7, ua, bs da, ub, bs db, z8⟩, rb))) := Lib.hid (by rw [HSP.out, if_pos hg])
          clear hg
          go_wp2_with fail
          refine (CG.out _).mono ?_
          rintro e w5 ⟨rfl, b5⟩
          have Z5 := Lib.hid (Zg.out.below b5)
          have X5 := Lib.hid (Xg.out.below b5)
          have B5 := Lib.hid (bup Bg.out b5)
          clear b5 x0 x1 x2 x3 x4 x5 x6 x7 x8 x9 x10 x11 x12
          obtain ⟨x0, x1, x2, x3, x4, x5, x6, x7, x8, x9, x10, x11, x12⟩ := EntAt.of X5.out
          go_wp2_with ((with_reducible refine at_store rfl ?_); refine wpList_put_row rfl _ _ _ rfl rfl w.heap.size _ rfl rfl _ _ Z5.out (by kernel_rfl) rfl (by first | kernel_rfl | simp [Value.oneCell']) ?_; intro w8 Z8 B8)
          (try simp only [Exit.inBlock, Exit.then])
          refine bodyPost_ret (v := .tuple #[.agg #[.int .i64 z0, .int .i64 z1, .int .i64 z2, .int .i64 z3, .int .i64 z4, .int .i64 z5, .int .i64 z6, .int .i64 z7, .bool ua, .string (bs da), .bool ub, .string (bs db), .int .i64 z8], .string (bs rb), .int .i64 0]) ?_ rfl ⟨by rw [HRR.out]; rfl, ?_⟩
          · refine Eq.trans (results_cell_two (p := 2) (u := 3) (v := 4) ?_ _ _ w.heap.size _ _ _ fs ?_ Z8 Hu.out (by kernel_rfl)) ?_
            all_goals rfl
          · exact B5.out.trans (B8.below (Nat.le_refl _) B5.out.size)
end Go.Proofs.Ytakdagmkkelnfaa
