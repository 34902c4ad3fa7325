/-
  The entry that bytes begin with: entry.Decode.
-/
import Derived.Test.YteknaeemjgpgbaaEntDecDef
import Derived.StillTailTactics
import Derived.RegionTactic
import Derived.Test.YteknaeemjgpgbaaStore
namespace Go.Proofs.Yteknaeemjgpgbaa
open Go.RowKit Go.Sort NibPure

set_option linter.unusedVariables false
theorem takeS_len (r : List UInt8) : (takeS r).1.length ≤ r.length ∧ (takeS r).2.1.length ≤ r.length := by
  unfold takeS
  cases h : decS 200 r with
  | none => simp
  | some p =>
    obtain ⟨t, r'⟩ := p
    simp only
    unfold decS at h
    cases hd : dec r with
    | none => rw [hd] at h; cases h
    | some q =>
      obtain ⟨n, u⟩ := q
      rw [hd] at h
      simp only at h
      have := dec_len hd
      split at h
      · simp at h; obtain ⟨rfl, rfl⟩ := h; simp; omega
      · cases h
theorem takeSlot_len (r : List UInt8) (bad : Bool) : (takeSlot r bad).2.1.length ≤ r.length ∧ (takeSlot r bad).2.2.1.length ≤ r.length := by
  have h1 := takeI_rest r
  have h2 := takeS_len (takeI r).2.1
  unfold takeSlot
  split
  · simp only [List.length_nil]; omega
  · split
    · simp only; omega
    · simp only [List.length_nil]; omega
theorem stN_slots' (s : List UInt8) (n : Nat) : (stN s n).1.wd.size = 0 ∧ (stN s n).1.ix.size = 0 := by
  have hs : ∀ (x : Ent) (j : Nat) (v : Int), (x.setNum j v).wd = x.wd ∧ (x.setNum j v).ix = x.ix := by
    intro x j v
    match j with
    | 0 => exact ⟨rfl, rfl⟩ | 1 => exact ⟨rfl, rfl⟩ | 2 => exact ⟨rfl, rfl⟩ | 3 => exact ⟨rfl, rfl⟩ | 4 => exact ⟨rfl, rfl⟩ | 5 => exact ⟨rfl, rfl⟩ | 6 => exact ⟨rfl, rfl⟩ | 7 => exact ⟨rfl, rfl⟩ | _ + 8 => exact ⟨rfl, rfl⟩
  induction n with
  | zero => exact ⟨rfl, rfl⟩
  | succ n ih =>
    have e : (stN s (n + 1)).1 = (stN s n).1.setNum n (takeI (stN s n).2.1).1 := rfl
    rw [e, (hs _ _ _).1, (hs _ _ _).2]; exact ih
set_option maxRecDepth 100000 in
set_option maxHeartbeats 4000000 in
theorem decode_any (s : ByteArray) (hs : s.size ≤ 9223372036854775807) (w : World) :
    Calls Try.prog 19 #[.string s] w fun e w' => e = .returned (decERes (decE s.data.toList)) ∧ Below w.heap.size w w' := by
  obtain ⟨S, hS⟩ : ∃ S, s.data.toList = S := ⟨_, rfl⟩
  have hSs : s = bs S := by rw [← hS]; rfl
  have hSl : S.length ≤ 9223372036854775807 := by rw [← hS]; have : s.data.toList.length = s.size := Array.length_toList; omega
  rw [hS]
  subst hSs
  clear hS hs
  obtain ⟨fs, hu⟩ := entUnd
  have Hu := Lib.hid hu
  clear hu
  obtain ⟨R, hR⟩ : ∃ R, decERes (decE S) = R := ⟨_, rfl⟩
  rw [hR]
  have HR := Lib.hid hR
  clear hR
  have CI := Lib.hid fun b r bad w hr h => takerInt_any b r bad w hr h
  have C0 := fun b w h => takerInt_any b S false w hSl h
  have e1 : (takeI S).1 = (stN S 1).1.kind := rfl
  have e2 : (takeI S).2.1 = (stN S 1).2.1 := rfl
  have e3 : (false || !(takeI S).2.2) = (stN S 1).2.2 := rfl
  have e4 : (stN S 1).1 = ⟨(stN S 1).1.kind, 0, 0, 0, 0, 0, 0, 0, false, ⟨#[]⟩, false, ⟨#[]⟩, 0⟩ := rfl
  rw [e1, e2, e3] at C0
  have C0 := Lib.hid C0
  have E4 := Lib.hid e4
  clear e1 e2 e3 e4
  obtain ⟨K, hK⟩ : ∃ K, (stN S 1).1.kind = K := ⟨_, rfl⟩
  rw [hK] at C0 E4
  have HK := Lib.hid hK
  clear hK
  go_enter Try.func19, Try.ntmps19
  go_wp2_with fail
  refine (C0.out _ _ (Has.new1 _ _ _)).mono ?_
  rintro e w1 ⟨rfl, T, B⟩
  have Z := ((Has.new w _).alloc _).but B (by omega)
  have B1 := Lib.hid ((bup (bnew w _) (bnew _ _)).trans (B.below (by omega) (by simp; omega)))
  have z1 := Z.lt
  have z2 := T.lt
  clear B
  replace Z := Lib.hid Z
  replace T := Lib.hid T
  obtain ⟨L, hL⟩ : ∃ L : Nat, (if K = 1 ∨ K = 2 then 9 else 6) = L := ⟨_, rfl⟩
  have hL9 : L ≤ 9 := by rw [← hL]; split <;> omega
  have hL6 : 6 ≤ L := by rw [← hL]; split <;> omega
  have CF := fun b w h => fields_any b K w h
  rw [hL] at CF
  replace CF := Lib.hid CF
  have HL := Lib.hid hL
  clear hL
  have X := Lib.hid (Has.new w1 (.cells #[.int .i64 K, .int .i64 0, .int .i64 0, .int .i64 0, .int .i64 0, .int .i64 0, .int .i64 0, .int .i64 0, .bool false, .string ⟨#[]⟩, .bool false, .string ⟨#[]⟩, .int .i64 0] 27))
  go_wp2_with fail
  refine (CF.out _ _ (X.out.cell 0 _ rfl)).mono ?_
  rintro e w2 ⟨rfl, F, B2⟩
  replace X := Lib.hid (X.out.below B2)
  replace Z := Lib.hid ((Z.out.alloc _).below B2)
  replace T := Lib.hid ((T.out.alloc _).below B2)
  have B := Lib.hid (B1.out.trans (((bup (bnew w1 _) B2)).mono B1.out.size))
  have z3 := X.out.lt
  have z4 := F.lt
  clear B1 B2
  simp only [World.size_alloc] at F z4
  replace F := Lib.hid F
  clear C0 CF
  go_wp2_with fail
  go_loopw [18] (fun i wr => ∃ j : Nat, j + 1 ≤ L ∧ i = .int .i64 j ∧ Has wr (w.heap.size + 1) (.cells #[.string (bs (stN S (j + 1)).2.1), .bool (stN S (j + 1)).2.2] 55) ∧ Has wr w1.heap.size (.cells (stN S (j + 1)).1.row 27) ∧ Has wr (w1.heap.size + 1) (.cells (ptrs w1.heap.size) 46) ∧ Has wr w.heap.size (.cells Ent.zero.row 27) ∧ Below w.heap.size w wr) (fun i _ => L - 1 - (intOf i).toNat)
  case atStart => exact ⟨0, by omega, rfl, T.out, by rw [E4.out]; exact X.out, F.out, Z.out, B.out⟩
  case round =>
    clear T X F Z B
    obtain ⟨j, hj, rfl, T, X, F, Z, B⟩ := hrel
    by_cases hlt : j < L - 1
    · have hsl := stN_len S (j + 1)
      have hN : stN S (j + 1 + 1) = ((stN S (j + 1)).1.setNum (j + 1) (takeI (stN S (j + 1)).2.1).1, (takeI (stN S (j + 1)).2.1).2.1, (stN S (j + 1)).2.2 || !(takeI (stN S (j + 1)).2.1).2.2) := rfl
      have HN := Lib.hid hN
      clear hN
      generalize stN S (j + 1) = st at *
      obtain ⟨x, r, bad⟩ := st
      simp only at T X hsl
      have ci := fun v h => CI.out (w.heap.size + 1) r bad v (by omega) h
      have hN := HN.out
      simp only at hN
      generalize takeI r = y at *
      obtain ⟨n, r2, ok⟩ := y
      simp only at ci hN
      generalize (bad || !ok) = bad2 at *
      have HN := Lib.hid hN
      clear hN
      have hp : wr.cell? ⟨w1.heap.size + 1, 1 + j, none⟩ = some (.pointer (some ⟨w1.heap.size, offs (j + 1), none⟩)) := by
        rw [show 1 + j = j + 1 by omega]
        exact F.cell (j + 1) _ (ptrs_at _ (j + 1) (by omega))
      replace T := Lib.hid T; replace X := Lib.hid X; replace F := Lib.hid F; replace Z := Lib.hid Z; replace B := Lib.hid B
      replace ci := Lib.hid ci
      have ho : j + 1 < 9 := by omega
      have Ho := Lib.hid (show offs (j + 1) = offs (j + 1) from rfl)
      clear Ho
      have RA := Lib.hid (row_at x (j + 1) ho)
      have RS := Lib.hid (row_set x (j + 1) ho n)
      generalize offs (j + 1) = oo at *
      generalize x.num (j + 1) = nn at *
      generalize x.setNum (j + 1) n = x2 at *

      go_wp2_with fail
      refine (ci.out _ T.out).mono ?_
      rintro e w3 ⟨rfl, T3, Bt⟩
      have X3 := X.out.but Bt (by omega)
      have F3 := Lib.hid (F.out.but Bt (by omega))
      have Z3 := Lib.hid (Z.out.but Bt (by omega))
      have B3 := Lib.hid (B.out.trans (Bt.below (by omega) B.out.size))
      have hx : w3.cell? ⟨w1.heap.size, oo, none⟩ = some (.int .i64 nn) := X3.cell _ _ RA.out
      have hf := X3.free oo
      have X4 := X3.set oo (.int .i64 n)
      rw [RS.out] at X4
      have T3' := Lib.hid T3; have X4' := Lib.hid X4
      clear Bt X3 hp T3 X4
      go_wp2_with fail
      go_roundw
      case rel =>
        refine ⟨j + 1, by omega, by go_num, ?_⟩
        rw [HN.out]
        exact ⟨T3'.out.setOther (by omega) _ _, X4'.out, F3.out.setOther (by omega) _ _, Z3.out.setOther (by omega) _ _, B3.out.setCell (p := ⟨w1.heap.size, oo, none⟩) (by show w.heap.size ≤ w1.heap.size; omega) _⟩
      case measure => simp [intOf]; omega
    · have hjl : j + 1 = L := by omega
      rw [hjl] at T X
      have hkk : (stN S L).1.kind = K := by
        have := stN_kind S j
        rw [hjl] at this
        rw [this]; exact HK.out
      have hmany : (stN S 1).1.many = L := by unfold Ent.many; rw [HK.out]; exact HL.out
      have hE : stEnd S = stEnd S := rfl
      conv at hE => rhs; unfold stEnd
      simp only at hE
      rw [hmany] at hE
      have hsl := stN_len S L
      have hz := stN_slots' S L
      clear hj hjl F CI C0 E4 HK HL hmany hL9 hL6 z3 z4
      generalize stN S L = st at *
      obtain ⟨⟨k, c, ep, nn, ln, p, pg, sl, wu, wd, iu, ix, nx⟩, r, be⟩ := st
      simp only [Ent.row] at T X hkk hE hsl hz
      subst hkk
      obtain ⟨hz1, hz2⟩ := hz
      by_cases k12 : k = 1 ∨ k = 2
      · rw [if_pos k12] at hE
        have hy1 := takeSlot_len r be
        have CS1 := Lib.hid (fun v h => takerSlot_any (w.heap.size + 1) r be v (by omega) h)
        generalize takeSlot r be = y1 at *
        obtain ⟨u1, d1, r1, b1⟩ := y1
        simp only at hE hy1 CS1
        have hy2 := takeSlot_len r1 b1
        have CS2 := Lib.hid (fun v h => takerSlot_any (w.heap.size + 1) r1 b1 v (by omega) h)
        generalize takeSlot r1 b1 = y2 at *
        obtain ⟨u2, d2, r2, b2⟩ := y2
        simp only at hE hy2 CS2
        replace hz1 : (bs d1).size ≤ 9223372036854775807 := by rw [bs_size]; omega
        replace hz2 : (bs d2).size ≤ 9223372036854775807 := by rw [bs_size]; omega
        have HE := Lib.hid hE
        have hne : w.heap.size + 1 ≠ w1.heap.size := by omega
        have hnz : w.heap.size ≠ w1.heap.size := by omega
        have hle : w.heap.size ≤ w1.heap.size := by omega
        clear hE hy1 hy2 hsl hSl
        rcases k12 with rfl | rfl
        · have Z0 := Lib.hid Z; have T0 := Lib.hid T; have X0 := Lib.hid X; have B0 := Lib.hid B
          clear T X Z B
          have xk := X0.out.cell 0 _ rfl
          go_wp2_with fail
          refine (CS1.out _ T0.out).mono ?_
          rintro e w3 ⟨rfl, T3, b3⟩
          have X3 := X0.out.but b3 (by omega)
          have Z3 := Lib.hid (Z0.out.but b3 (by omega))
          have B3 := Lib.hid (B0.out.trans (b3.below (by omega) B0.out.size))
          replace T3 := Lib.hid T3
          clear xk b3 T0 X0 Z0 B0
          have x8 := X3.cell 8 _ rfl
          have x9 := X3.cell 9 _ rfl
          have f8 := X3.free 8
          have f9 := X3.free 9
          replace X3 := Lib.hid X3
          go_wp2_with fail
          refine (CS2.out _ ((T3.out.setOther hne 8 _).setOther hne 9 _)).mono ?_
          rintro e w5 ⟨rfl, T5, b5⟩
          have X5 : Has w5 w1.heap.size (.cells #[.int .i64 1, .int .i64 c, .int .i64 ep, .int .i64 nn, .int .i64 ln, .int .i64 p, .int .i64 pg, .int .i64 sl, .bool u1, .string (bs d1), .bool iu, .string ix, .int .i64 nx] 27) := ((X3.out.set 8 (.bool u1)).set 9 (.string (bs d1))).but b5 (by omega)
          have Z5 := Lib.hid (((Z3.out.setOther hnz 8 (.bool u1)).setOther hnz 9 (.string (bs d1))).but b5 (by omega))
          have B5 := Lib.hid (((B3.out.setCell (p := ⟨w1.heap.size, 8, none⟩) hle (.bool u1)).setCell (p := ⟨w1.heap.size, 9, none⟩) hle (.string (bs d1))).trans (b5.below (by omega) (by have := B3.out.size; simp; omega)))
          replace T5 := Lib.hid T5
          clear x8 x9 f8 f9 b5 T3 X3 Z3 B3
          have x8 := X5.cell 10 _ rfl
          have x9 := X5.cell 11 _ rfl
          have f8 := X5.free 10
          have f9 := X5.free 11
          replace X5 := Lib.hid X5
          go_upto_region 11 with (fail)
          generalize hw6 : World.setCell _ _ _ = w6
          have X : Hid (Has w6 w1.heap.size (.cells #[.int .i64 1, .int .i64 c, .int .i64 ep, .int .i64 nn, .int .i64 ln, .int .i64 p, .int .i64 pg, .int .i64 sl, .bool u1, .string (bs d1), .bool u2, .string (bs d2), .int .i64 nx] 27)) := Lib.hid (by rw [← hw6]; exact (X5.out.set 10 (.bool u2)).set 11 (.string (bs d2)))
          have T := Lib.hid ((T5.out.setOther hne 10 (.bool u2)).setOther hne 11 (.string (bs d2)))
          have Z := Lib.hid ((Z5.out.setOther hnz 10 (.bool u2)).setOther hnz 11 (.string (bs d2)))
          have B := Lib.hid ((B5.out.setCell (p := ⟨w1.heap.size, 10, none⟩) hle (.bool u2)).setCell (p := ⟨w1.heap.size, 11, none⟩) hle (.string (bs d2)))
          rw [hw6] at T Z B
          clear hw6 x8 x9 f8 f9 T5 X5 Z5 B5
          have CG := fun v => good_any ⟨1, c, ep, nn, ln, p, pg, sl, u1, bs d1, u2, bs d2, nx⟩ hz1 hz2 v
          simp only [Ent.val, Ent.row] at CG
          obtain ⟨a0, a1, a2, a3, a4, a5, a6, a7, a8, a9, a10, a11, a12⟩ := EntAt.of X.out
          have t0 := T.out.cell 0 _ rfl
          have t1 := T.out.cell 1 _ rfl
          cases b2 with
          | true =>
            have HRR : Hid (R = .tuple #[Ent.zero.val, .string (bs []), .int .i64 4]) := Lib.hid (by rw [← HR.out]; unfold decE; rw [HE.out, if_pos (by simp)]; rfl)
            clear CG
            go_wp2_with ((with_reducible refine at_store rfl ?_); refine wpList_put_row rfl _ _ _ rfl rfl w.heap.size _ rfl rfl _ _ Z.out (by kernel_rfl) rfl (by first | kernel_rfl | simp [Value.oneCell']) ?_; intro w8 Z8 B8)
            (try simp only [Exit.then])
            refine bodyPost_ret (v := .tuple #[.agg Ent.zero.row, .string (bs []), .int .i64 4]) ?_ rfl ⟨by rw [HRR.out]; rfl, ?_⟩
            · refine Eq.trans (results_cell_two (p := 2) (u := 3) (v := 4) ?_ _ _ w.heap.size _ _ _ fs ?_ Z8 Hu.out (by kernel_rfl)) ?_
              all_goals rfl
            · exact B.out.trans (B8.below (Nat.le_refl _) B.out.size)
          | false =>
            cases hg : Ent.good ⟨1, c, ep, nn, ln, p, pg, sl, u1, bs d1, u2, bs d2, nx⟩ with
            | false =>
              have HRR : Hid (R = .tuple #[Ent.zero.val, .string (bs []), .int .i64 4]) := Lib.hid (by rw [← HR.out]; unfold decE; rw [HE.out, if_pos (by simp [hg])]; rfl)
              rw [hg] at CG
              have CG' := Lib.hid CG
              clear hg CG
              go_wp2_with fail
              refine (CG'.out _).mono ?_
              rintro e w7 ⟨rfl, b7⟩
              have Z := Lib.hid (Z.out.below b7)
              have B := Lib.hid (bup B.out b7)
              clear a0 a1 a2 a3 a4 a5 a6 a7 a8 a9 a10 a11 a12 t0 t1 b7
              go_wp2_with ((with_reducible refine at_store rfl ?_); refine wpList_put_row rfl _ _ _ rfl rfl w.heap.size _ rfl rfl _ _ Z.out (by kernel_rfl) rfl (by first | kernel_rfl | simp [Value.oneCell']) ?_; intro w8 Z8 B8)
              (try simp only [Exit.then])
              refine bodyPost_ret (v := .tuple #[.agg Ent.zero.row, .string (bs []), .int .i64 4]) ?_ rfl ⟨by rw [HRR.out]; rfl, ?_⟩
              · refine Eq.trans (results_cell_two (p := 2) (u := 3) (v := 4) ?_ _ _ w.heap.size _ _ _ fs ?_ Z8 Hu.out (by kernel_rfl)) ?_
                all_goals rfl
              · exact B.out.trans (B8.below (Nat.le_refl _) B.out.size)
            | true =>
              have HRR : Hid (R = .tuple #[.agg #[.int .i64 1, .int .i64 c, .int .i64 ep, .int .i64 nn, .int .i64 ln, .int .i64 p, .int .i64 pg, .int .i64 sl, .bool u1, .string (bs d1), .bool u2, .string (bs d2), .int .i64 nx], .string (bs r2), .int .i64 0]) := Lib.hid (by rw [← HR.out]; unfold decE; rw [HE.out, if_neg (by simp [hg])]; rfl)
              rw [hg] at CG
              have CG' := Lib.hid CG
              clear hg CG
              go_wp2_with fail
              refine (CG'.out _).mono ?_
              rintro e w7 ⟨rfl, b7⟩
              have X7 := X.out.below b7
              have T7 := T.out.below b7
              have Z7 := Lib.hid (Z.out.below b7)
              have B7 := Lib.hid (bup B.out b7)
              clear a0 a1 a2 a3 a4 a5 a6 a7 a8 a9 a10 a11 a12 t0 t1 b7
              obtain ⟨a0, a1, a2, a3, a4, a5, a6, a7, a8, a9, a10, a11, a12⟩ := EntAt.of X7
              have t0 := T7.cell 0 _ rfl
              clear X7 T7
              go_wp2_with fail
              have Zz := EntAt.of (show Has w7 w.heap.size (.cells #[.int .i64 0, .int .i64 0, .int .i64 0, .int .i64 0, .int .i64 0, .int .i64 0, .int .i64 0, .int .i64 0, .bool false, .string ⟨#[]⟩, .bool false, .string ⟨#[]⟩, .int .i64 0] 27) from Z7.out)
              obtain ⟨z0, z1, z2, z3, z4, z5, z6, z7, z8, z9, z10, z11, z12⟩ := Zz
              have f0 := Z7.out.free 0
              have f1 := Z7.out.free 1
              have f2 := Z7.out.free 2
              have f3 := Z7.out.free 3
              have f4 := Z7.out.free 4
              have f5 := Z7.out.free 5
              have f6 := Z7.out.free 6
              have f7 := Z7.out.free 7
              have f8 := Z7.out.free 8
              have f9 := Z7.out.free 9
              have f10 := Z7.out.free 10
              have f11 := Z7.out.free 11
              have f12 := Z7.out.free 12
              go_region
              all_goals
                generalize hw : World.drew _ = wz
                have hw' : (setList w.heap.size 0 [.int .i64 1, .int .i64 c, .int .i64 ep, .int .i64 nn, .int .i64 ln, .int .i64 p, .int .i64 pg, .int .i64 sl, .bool u1, .string (bs d1), .bool u2, .string (bs d2), .int .i64 nx] w7).drew = wz := hw
                have Z9 := (setList_row (vs := [.int .i64 1, .int .i64 c, .int .i64 ep, .int .i64 nn, .int .i64 ln, .int .i64 p, .int .i64 pg, .int .i64 sl, .bool u1, .string (bs d1), .bool u2, .string (bs d2), .int .i64 nx]) Z7.out rfl).drew
                have B9 := (setList_below (Nat.le_refl w.heap.size) [.int .i64 1, .int .i64 c, .int .i64 ep, .int .i64 nn, .int .i64 ln, .int .i64 p, .int .i64 pg, .int .i64 sl, .bool u1, .string (bs d1), .bool u2, .string (bs d2), .int .i64 nx] 0 _ B7.out).drew
                rw [hw'] at Z9 B9
                clear hw hw' z0 z1 z2 z3 z4 z5 z6 z7 z8 z9 z10 z11 z12 f0 f1 f2 f3 f4 f5 f6 f7 f8 f9 f10 f11 f12
                (try simp only [Exit.then])
                go_wp2_with fail
                refine bodyPost_ret (v := .tuple #[.agg #[.int .i64 1, .int .i64 c, .int .i64 ep, .int .i64 nn, .int .i64 ln, .int .i64 p, .int .i64 pg, .int .i64 sl, .bool u1, .string (bs d1), .bool u2, .string (bs d2), .int .i64 nx], .string (bs r2), .int .i64 0]) ?_ rfl ⟨by rw [HRR.out], ?_⟩
                · refine Eq.trans (results_cell_two (p := 2) (u := 3) (v := 4) ?_ _ _ w.heap.size _ _ _ fs ?_ Z9 Hu.out (by kernel_rfl)) ?_
                  all_goals rfl
                · exact B9
        · have Z0 := Lib.hid Z; have T0 := Lib.hid T; have X0 := Lib.hid X; have B0 := Lib.hid B
          clear T X Z B
          have xk := X0.out.cell 0 _ rfl
          go_wp2_with fail
          refine (CS1.out _ T0.out).mono ?_
          rintro e w3 ⟨rfl, T3, b3⟩
          have X3 := X0.out.but b3 (by omega)
          have Z3 := Lib.hid (Z0.out.but b3 (by omega))
          have B3 := Lib.hid (B0.out.trans (b3.below (by omega) B0.out.size))
          replace T3 := Lib.hid T3
          clear xk b3 T0 X0 Z0 B0
          have x8 := X3.cell 8 _ rfl
          have x9 := X3.cell 9 _ rfl
          have f8 := X3.free 8
          have f9 := X3.free 9
          replace X3 := Lib.hid X3
          go_wp2_with fail
          refine (CS2.out _ ((T3.out.setOther hne 8 _).setOther hne 9 _)).mono ?_
          rintro e w5 ⟨rfl, T5, b5⟩
          have X5 : Has w5 w1.heap.size (.cells #[.int .i64 2, .int .i64 c, .int .i64 ep, .int .i64 nn, .int .i64 ln, .int .i64 p, .int .i64 pg, .int .i64 sl, .bool u1, .string (bs d1), .bool iu, .string ix, .int .i64 nx] 27) := ((X3.out.set 8 (.bool u1)).set 9 (.string (bs d1))).but b5 (by omega)
          have Z5 := Lib.hid (((Z3.out.setOther hnz 8 (.bool u1)).setOther hnz 9 (.string (bs d1))).but b5 (by omega))
          have B5 := Lib.hid (((B3.out.setCell (p := ⟨w1.heap.size, 8, none⟩) hle (.bool u1)).setCell (p := ⟨w1.heap.size, 9, none⟩) hle (.string (bs d1))).trans (b5.below (by omega) (by have := B3.out.size; simp; omega)))
          replace T5 := Lib.hid T5
          clear x8 x9 f8 f9 b5 T3 X3 Z3 B3
          have x8 := X5.cell 10 _ rfl
          have x9 := X5.cell 11 _ rfl
          have f8 := X5.free 10
          have f9 := X5.free 11
          replace X5 := Lib.hid X5
          go_upto_region 11 with (fail)
          generalize hw6 : World.setCell _ _ _ = w6
          have X : Hid (Has w6 w1.heap.size (.cells #[.int .i64 2, .int .i64 c, .int .i64 ep, .int .i64 nn, .int .i64 ln, .int .i64 p, .int .i64 pg, .int .i64 sl, .bool u1, .string (bs d1), .bool u2, .string (bs d2), .int .i64 nx] 27)) := Lib.hid (by rw [← hw6]; exact (X5.out.set 10 (.bool u2)).set 11 (.string (bs d2)))
          have T := Lib.hid ((T5.out.setOther hne 10 (.bool u2)).setOther hne 11 (.string (bs d2)))
          have Z := Lib.hid ((Z5.out.setOther hnz 10 (.bool u2)).setOther hnz 11 (.string (bs d2)))
          have B := Lib.hid ((B5.out.setCell (p := ⟨w1.heap.size, 10, none⟩) hle (.bool u2)).setCell (p := ⟨w1.heap.size, 11, none⟩) hle (.string (bs d2)))
          rw [hw6] at T Z B
          clear hw6 x8 x9 f8 f9 T5 X5 Z5 B5
          have CG := fun v => good_any ⟨2, c, ep, nn, ln, p, pg, sl, u1, bs d1, u2, bs d2, nx⟩ hz1 hz2 v
          simp only [Ent.val, Ent.row] at CG
          obtain ⟨a0, a1, a2, a3, a4, a5, a6, a7, a8, a9, a10, a11, a12⟩ := EntAt.of X.out
          have t0 := T.out.cell 0 _ rfl
          have t1 := T.out.cell 1 _ rfl
          cases b2 with
          | true =>
            have HRR : Hid (R = .tuple #[Ent.zero.val, .string (bs []), .int .i64 4]) := Lib.hid (by rw [← HR.out]; unfold decE; rw [HE.out, if_pos (by simp)]; rfl)
            clear CG
            go_wp2_with ((with_reducible refine at_store rfl ?_); refine wpList_put_row rfl _ _ _ rfl rfl w.heap.size _ rfl rfl _ _ Z.out (by kernel_rfl) rfl (by first | kernel_rfl | simp [Value.oneCell']) ?_; intro w8 Z8 B8)
            (try simp only [Exit.then])
            refine bodyPost_ret (v := .tuple #[.agg Ent.zero.row, .string (bs []), .int .i64 4]) ?_ rfl ⟨by rw [HRR.out]; rfl, ?_⟩
            · refine Eq.trans (results_cell_two (p := 2) (u := 3) (v := 4) ?_ _ _ w.heap.size _ _ _ fs ?_ Z8 Hu.out (by kernel_rfl)) ?_
              all_goals rfl
            · exact B.out.trans (B8.below (Nat.le_refl _) B.out.size)
          | false =>
            cases hg : Ent.good ⟨2, c, ep, nn, ln, p, pg, sl, u1, bs d1, u2, bs d2, nx⟩ with
            | false =>
              have HRR : Hid (R = .tuple #[Ent.zero.val, .string (bs []), .int .i64 4]) := Lib.hid (by rw [← HR.out]; unfold decE; rw [HE.out, if_pos (by simp [hg])]; rfl)
              rw [hg] at CG
              have CG' := Lib.hid CG
              clear hg CG
              go_wp2_with fail
              refine (CG'.out _).mono ?_
              rintro e w7 ⟨rfl, b7⟩
              have Z := Lib.hid (Z.out.below b7)
              have B := Lib.hid (bup B.out b7)
              clear a0 a1 a2 a3 a4 a5 a6 a7 a8 a9 a10 a11 a12 t0 t1 b7
              go_wp2_with ((with_reducible refine at_store rfl ?_); refine wpList_put_row rfl _ _ _ rfl rfl w.heap.size _ rfl rfl _ _ Z.out (by kernel_rfl) rfl (by first | kernel_rfl | simp [Value.oneCell']) ?_; intro w8 Z8 B8)
              (try simp only [Exit.then])
              refine bodyPost_ret (v := .tuple #[.agg Ent.zero.row, .string (bs []), .int .i64 4]) ?_ rfl ⟨by rw [HRR.out]; rfl, ?_⟩
              · refine Eq.trans (results_cell_two (p := 2) (u := 3) (v := 4) ?_ _ _ w.heap.size _ _ _ fs ?_ Z8 Hu.out (by kernel_rfl)) ?_
                all_goals rfl
              · exact B.out.trans (B8.below (Nat.le_refl _) B.out.size)
            | true =>
              have HRR : Hid (R = .tuple #[.agg #[.int .i64 2, .int .i64 c, .int .i64 ep, .int .i64 nn, .int .i64 ln, .int .i64 p, .int .i64 pg, .int .i64 sl, .bool u1, .string (bs d1), .bool u2, .string (bs d2), .int .i64 nx], .string (bs r2), .int .i64 0]) := Lib.hid (by rw [← HR.out]; unfold decE; rw [HE.out, if_neg (by simp [hg])]; rfl)
              rw [hg] at CG
              have CG' := Lib.hid CG
              clear hg CG
              go_wp2_with fail
              refine (CG'.out _).mono ?_
              rintro e w7 ⟨rfl, b7⟩
              have X7 := X.out.below b7
              have T7 := T.out.below b7
              have Z7 := Lib.hid (Z.out.below b7)
              have B7 := Lib.hid (bup B.out b7)
              clear a0 a1 a2 a3 a4 a5 a6 a7 a8 a9 a10 a11 a12 t0 t1 b7
              obtain ⟨a0, a1, a2, a3, a4, a5, a6, a7, a8, a9, a10, a11, a12⟩ := EntAt.of X7
              have t0 := T7.cell 0 _ rfl
              clear X7 T7
              go_wp2_with fail
              have Zz := EntAt.of (show Has w7 w.heap.size (.cells #[.int .i64 0, .int .i64 0, .int .i64 0, .int .i64 0, .int .i64 0, .int .i64 0, .int .i64 0, .int .i64 0, .bool false, .string ⟨#[]⟩, .bool false, .string ⟨#[]⟩, .int .i64 0] 27) from Z7.out)
              obtain ⟨z0, z1, z2, z3, z4, z5, z6, z7, z8, z9, z10, z11, z12⟩ := Zz
              have f0 := Z7.out.free 0
              have f1 := Z7.out.free 1
              have f2 := Z7.out.free 2
              have f3 := Z7.out.free 3
              have f4 := Z7.out.free 4
              have f5 := Z7.out.free 5
              have f6 := Z7.out.free 6
              have f7 := Z7.out.free 7
              have f8 := Z7.out.free 8
              have f9 := Z7.out.free 9
              have f10 := Z7.out.free 10
              have f11 := Z7.out.free 11
              have f12 := Z7.out.free 12
              go_region
              all_goals
                generalize hw : World.drew _ = wz
                have hw' : (setList w.heap.size 0 [.int .i64 2, .int .i64 c, .int .i64 ep, .int .i64 nn, .int .i64 ln, .int .i64 p, .int .i64 pg, .int .i64 sl, .bool u1, .string (bs d1), .bool u2, .string (bs d2), .int .i64 nx] w7).drew = wz := hw
                have Z9 := (setList_row (vs := [.int .i64 2, .int .i64 c, .int .i64 ep, .int .i64 nn, .int .i64 ln, .int .i64 p, .int .i64 pg, .int .i64 sl, .bool u1, .string (bs d1), .bool u2, .string (bs d2), .int .i64 nx]) Z7.out rfl).drew
                have B9 := (setList_below (Nat.le_refl w.heap.size) [.int .i64 2, .int .i64 c, .int .i64 ep, .int .i64 nn, .int .i64 ln, .int .i64 p, .int .i64 pg, .int .i64 sl, .bool u1, .string (bs d1), .bool u2, .string (bs d2), .int .i64 nx] 0 _ B7.out).drew
                rw [hw'] at Z9 B9
                clear hw hw' z0 z1 z2 z3 z4 z5 z6 z7 z8 z9 z10 z11 z12 f0 f1 f2 f3 f4 f5 f6 f7 f8 f9 f10 f11 f12
                (try simp only [Exit.then])
                go_wp2_with fail
                refine bodyPost_ret (v := .tuple #[.agg #[.int .i64 2, .int .i64 c, .int .i64 ep, .int .i64 nn, .int .i64 ln, .int .i64 p, .int .i64 pg, .int .i64 sl, .bool u1, .string (bs d1), .bool u2, .string (bs d2), .int .i64 nx], .string (bs r2), .int .i64 0]) ?_ rfl ⟨by rw [HRR.out], ?_⟩
                · refine Eq.trans (results_cell_two (p := 2) (u := 3) (v := 4) ?_ _ _ w.heap.size _ _ _ fs ?_ Z9 Hu.out (by kernel_rfl)) ?_
                  all_goals rfl
                · exact B9
      · have k1 : (k == 1) = false := by simp at k12 ⊢; exact k12.1
        have k2 : (k == 2) = false := by simp at k12 ⊢; exact k12.2
        rw [if_neg k12] at hE
        have HE := Lib.hid hE
        replace T := Lib.hid T; replace X := Lib.hid X; replace Z := Lib.hid Z; replace B := Lib.hid B
        clear k12 hE
        replace hz1 : wd.size ≤ 9223372036854775807 := by omega
        replace hz2 : ix.size ≤ 9223372036854775807 := by omega
        have CG := fun v => good_any ⟨k, c, ep, nn, ln, p, pg, sl, wu, wd, iu, ix, nx⟩ hz1 hz2 v
        simp only [Ent.val, Ent.row] at CG
        obtain ⟨a0, a1, a2, a3, a4, a5, a6, a7, a8, a9, a10, a11, a12⟩ := EntAt.of X.out
        have t0 := T.out.cell 0 _ rfl
        have t1 := T.out.cell 1 _ rfl
        cases be with
        | true =>
          have HRR : Hid (R = .tuple #[Ent.zero.val, .string (bs []), .int .i64 4]) := Lib.hid (by rw [← HR.out]; unfold decE; rw [HE.out, if_pos (by simp)]; rfl)
          clear CG
          go_wp2_with ((with_reducible refine at_store rfl ?_); refine wpList_put_row rfl _ _ _ rfl rfl w.heap.size _ rfl rfl _ _ Z.out (by kernel_rfl) rfl (by first | kernel_rfl | simp [Value.oneCell']) ?_; intro w8 Z8 B8)
          (try simp only [Exit.then])
          refine bodyPost_ret (v := .tuple #[.agg Ent.zero.row, .string (bs []), .int .i64 4]) ?_ rfl ⟨by rw [HRR.out]; rfl, ?_⟩
          · refine Eq.trans (results_cell_two (p := 2) (u := 3) (v := 4) ?_ _ _ w.heap.size _ _ _ fs ?_ Z8 Hu.out (by kernel_rfl)) ?_
            all_goals rfl
          · exact B.out.trans (B8.below (Nat.le_refl _) B.out.size)
        | false =>
          cases hg : Ent.good ⟨k, c, ep, nn, ln, p, pg, sl, wu, wd, iu, ix, nx⟩ with
          | false =>
            have HRR : Hid (R = .tuple #[Ent.zero.val, .string (bs []), .int .i64 4]) := Lib.hid (by rw [← HR.out]; unfold decE; rw [HE.out, if_pos (by simp [hg])]; rfl)
            rw [hg] at CG
            have CG' := Lib.hid CG
            clear hg CG
            go_wp2_with fail
            refine (CG'.out _).mono ?_
            rintro e w7 ⟨rfl, b7⟩
            have Z := Lib.hid (Z.out.below b7)
            have B := Lib.hid (bup B.out b7)
            clear a0 a1 a2 a3 a4 a5 a6 a7 a8 a9 a10 a11 a12 t0 t1 b7
            go_wp2_with ((with_reducible refine at_store rfl ?_); refine wpList_put_row rfl _ _ _ rfl rfl w.heap.size _ rfl rfl _ _ Z.out (by kernel_rfl) rfl (by first | kernel_rfl | simp [Value.oneCell']) ?_; intro w8 Z8 B8)
            (try simp only [Exit.then])
            refine bodyPost_ret (v := .tuple #[.agg Ent.zero.row, .string (bs []), .int .i64 4]) ?_ rfl ⟨by rw [HRR.out]; rfl, ?_⟩
            · refine Eq.trans (results_cell_two (p := 2) (u := 3) (v := 4) ?_ _ _ w.heap.size _ _ _ fs ?_ Z8 Hu.out (by kernel_rfl)) ?_
              all_goals rfl
            · exact B.out.trans (B8.below (Nat.le_refl _) B.out.size)
          | true =>
            have HRR : Hid (R = .tuple #[.agg #[.int .i64 k, .int .i64 c, .int .i64 ep, .int .i64 nn, .int .i64 ln, .int .i64 p, .int .i64 pg, .int .i64 sl, .bool wu, .string wd, .bool iu, .string ix, .int .i64 nx], .string (bs r), .int .i64 0]) := Lib.hid (by rw [← HR.out]; unfold decE; rw [HE.out, if_neg (by simp [hg])]; rfl)
            rw [hg] at CG
            have CG' := Lib.hid CG
            clear hg CG
            go_wp2_with fail
            refine (CG'.out _).mono ?_
            rintro e w7 ⟨rfl, b7⟩
            have X7 := X.out.below b7
            have T7 := T.out.below b7
            have Z7 := Lib.hid (Z.out.below b7)
            have B7 := Lib.hid (bup B.out b7)
            clear a0 a1 a2 a3 a4 a5 a6 a7 a8 a9 a10 a11 a12 t0 t1 b7
            obtain ⟨a0, a1, a2, a3, a4, a5, a6, a7, a8, a9, a10, a11, a12⟩ := EntAt.of X7
            have t0 := T7.cell 0 _ rfl
            clear X7 T7
            go_wp2_with fail
            have Zz := EntAt.of (show Has w7 w.heap.size (.cells #[.int .i64 0, .int .i64 0, .int .i64 0, .int .i64 0, .int .i64 0, .int .i64 0, .int .i64 0, .int .i64 0, .bool false, .string ⟨#[]⟩, .bool false, .string ⟨#[]⟩, .int .i64 0] 27) from Z7.out)
            obtain ⟨z0, z1, z2, z3, z4, z5, z6, z7, z8, z9, z10, z11, z12⟩ := Zz
            have f0 := Z7.out.free 0
            have f1 := Z7.out.free 1
            have f2 := Z7.out.free 2
            have f3 := Z7.out.free 3
            have f4 := Z7.out.free 4
            have f5 := Z7.out.free 5
            have f6 := Z7.out.free 6
            have f7 := Z7.out.free 7
            have f8 := Z7.out.free 8
            have f9 := Z7.out.free 9
            have f10 := Z7.out.free 10
            have f11 := Z7.out.free 11
            have f12 := Z7.out.free 12
            go_region
            all_goals
              generalize hw : World.drew _ = wz
              have hw' : (setList w.heap.size 0 [.int .i64 k, .int .i64 c, .int .i64 ep, .int .i64 nn, .int .i64 ln, .int .i64 p, .int .i64 pg, .int .i64 sl, .bool wu, .string wd, .bool iu, .string ix, .int .i64 nx] w7).drew = wz := hw
              have Z9 := (setList_row (vs := [.int .i64 k, .int .i64 c, .int .i64 ep, .int .i64 nn, .int .i64 ln, .int .i64 p, .int .i64 pg, .int .i64 sl, .bool wu, .string wd, .bool iu, .string ix, .int .i64 nx]) Z7.out rfl).drew
              have B9 := (setList_below (Nat.le_refl w.heap.size) [.int .i64 k, .int .i64 c, .int .i64 ep, .int .i64 nn, .int .i64 ln, .int .i64 p, .int .i64 pg, .int .i64 sl, .bool wu, .string wd, .bool iu, .string ix, .int .i64 nx] 0 _ B7.out).drew
              rw [hw'] at Z9 B9
              clear hw hw' z0 z1 z2 z3 z4 z5 z6 z7 z8 z9 z10 z11 z12 f0 f1 f2 f3 f4 f5 f6 f7 f8 f9 f10 f11 f12
              (try simp only [Exit.then])
              go_wp2_with fail
              refine bodyPost_ret (v := .tuple #[.agg #[.int .i64 k, .int .i64 c, .int .i64 ep, .int .i64 nn, .int .i64 ln, .int .i64 p, .int .i64 pg, .int .i64 sl, .bool wu, .string wd, .bool iu, .string ix, .int .i64 nx], .string (bs r), .int .i64 0]) ?_ rfl ⟨by rw [HRR.out], ?_⟩
              · refine Eq.trans (results_cell_two (p := 2) (u := 3) (v := 4) ?_ _ _ w.heap.size _ _ _ fs ?_ Z9 Hu.out (by kernel_rfl)) ?_
                all_goals rfl
              · exact B9
end Go.Proofs.Yteknaeemjgpgbaa
