/-
  slab.Decode.
-/
import Derived.Test.YtklmoigpalhlmaaSlDecP
import Derived.Test.YtklmoigpalhlmaaSlM
import Derived.Test.YtklmoigpalhlmaaSlH
import Derived.Test.YtklmoigpalhlmaaSlLaw0
import Derived.Outline
namespace Go.Proofs.Ytklmoigpalhlmaa
open Go.RowKit
set_option linter.unusedVariables false
set_option linter.unusedSimpArgs false

theorem bs_take (r : List UInt8) (n : Nat) : (bs r).extract 0 n = bs (r.take n) := by
  apply ByteArray.ext
  apply Array.ext'
  simp [bs, ByteArray.data_extract]
theorem bs_skip (r : List UInt8) (n m : Nat) (hm : m = r.length) : (bs r).extract n m = bs (r.drop n) := by
  apply ByteArray.ext
  apply Array.ext'
  subst hm
  simp [bs, ByteArray.data_extract, List.extract_eq_take_drop]
  rw [List.take_of_length_le (by simp)]
theorem bs_at (r : List UInt8) (n : Nat) (h : n < (bs r).size) : (bs r)[n] = r.getD n 0 := by
  have hn : n < r.length := by rw [bs_size] at h; exact h
  rw [List.getD_eq_getElem?_getD, List.getElem?_eq_getElem hn]
  rfl
theorem bs_list (l : List UInt8) : (bs l).toList = l := by rw [ByteArray.toList_eq]; rfl
theorem RowS.snoc {base : Nat} {w : World} {v : Value} {l : List Sl} {x : Sl} (h : w.ownsRow base 33 2 v (l.length + 1) (flat l ++ [.bool x.u, .string x.d])) : RowS base w v (l ++ [x]) := by
  unfold RowS
  rw [List.length_append, flat_append]
  exact h
theorem RowS.nil (base : Nat) (w : World) : RowS base w (.slice none 0 0) [] := World.ownsRow_nil _ _ _ _
theorem RowS.slots {base : Nat} {w : World} {v : Value} {l : List Sl} (h : RowS base w v l) (hl : ∀ x ∈ l, x.d.size ≤ 140737488351232) : ∃ A cap, v = .slice A l.length cap ∧ IsSlots w A l.length cap l := by
  by_cases h0 : 0 < l.length
  · obtain ⟨g, cap, cur, rfl, _, _, G, h3, h4, _, h6⟩ := ownsRow_at h h0
    exact ⟨_, cap, rfl, IsSlots.of_has (rest := []) G h6 rfl h3 h4 hl⟩
  · obtain ⟨A, cap, rfl, h1, h2⟩ := ownsRow_form h
    exact ⟨A, cap, rfl, ⟨rfl, h1, h2, hl, fun h => absurd h h0⟩⟩
theorem infoPage2 : (Try.prog.info? 24).map (·.size) = some 2 := by kernel_rfl
set_option maxRecDepth 100000 in
set_option maxHeartbeats 8000000 in
theorem pdec_short (s : ByteArray) (hs : s.size ≤ 9223372036854775807) (h : s.size ≠ 240) (w : World) :
    Calls Try.prog 28 #[.string s] w (PageOut (0, [], 4) w) := by
  obtain ⟨fs, hpu⟩ := pageUnd
  have Hu := Lib.hid hpu
  clear hpu
  have hb : ((s.size : Int) != 240) = true := by simp; omega
  go_enter Try.func28, Try.ntmps28
  go_wp2_with ((with_reducible refine at_store rfl ?_); refine wpList_put_row rfl _ _ _ rfl rfl w.heap.size _ rfl rfl _ _ (Has.new w _) (by kernel_rfl) rfl (by first | kernel_rfl | simp [Value.oneCell']) ?_; intro w8 Z8 B8)
  (try simp only [Exit.inBlock, Exit.then])
  refine bodyPost_ret (v := .tuple #[.agg #[.int .i64 0, .slice none 0 0], .int .i64 4]) ?_ rfl ⟨none, 0, 0, rfl, IsSlots.nil _, ?_⟩
  · refine Eq.trans (results_cell_one (p := 2) (u := 3) ?_ _ _ w.heap.size _ _ _ fs ?_ Z8 Hu.out (by kernel_rfl)) ?_
    all_goals rfl
  · exact (bnew w _).trans (B8.below (Nat.le_refl _) (bnew w _).size)
set_option maxRecDepth 100000 in
set_option maxHeartbeats 8000000 in
theorem pdec_in (S : List UInt8) (hS : S.length = 240) (w : World) :
    Calls Try.prog 28 #[.string (bs S)] w (PageOut (pgDecR (pgDec S)) w) := by
  obtain ⟨fs, hpu⟩ := pageUnd
  have Hu := Lib.hid hpu
  have HS := Lib.hid hS
  have hB : (bs S).size = 240 := by rw [bs_size, hS]
  have h8 : (bs S).extract 0 8 = bs (S.take 8) := bs_take S 8
  have h9 : (bs S).extract 9 240 = bs (S.drop 9) := bs_skip S 9 240 hS.symm
  have CH : ∀ w, Calls Try.prog 38 #[.string (bs (S.take 8))] w fun e w' => e = .returned (.int .u64 (getN (S.take 8) : Nat)) ∧ Below w.heap.size w w' := fun w => hget_any _ (by rw [bs_size, List.length_take]; omega) w
  obtain ⟨B, hBe⟩ : ∃ B, bs S = B := ⟨_, rfl⟩
  rw [hBe] at hB h8 h9 ⊢
  have HB := Lib.hid hBe
  obtain ⟨L8, hL8⟩ : ∃ L8, S.take 8 = L8 := ⟨_, rfl⟩
  rw [hL8] at h8 CH
  have HL8 := Lib.hid hL8
  obtain ⟨R9, hR9⟩ : ∃ R9, S.drop 9 = R9 := ⟨_, rfl⟩
  rw [hR9] at h9
  have HR9 := Lib.hid hR9
  replace CH := Lib.hid CH
  have hN : getN L8 < 18446744073709551616 := by
    have := getN_lt L8
    rw [← hL8, List.length_take, hS] at this
    rw [← hL8]; exact this
  obtain ⟨N, hNe⟩ : ∃ N, getN L8 = N := ⟨_, rfl⟩
  rw [hNe] at CH hN
  have HN := Lib.hid hNe
  clear hpu hS hBe hL8 hR9 hNe
  go_enter Try.func28, Try.ntmps28
  go_wp2_with fail
  refine (CH.out _).mono ?_
  rintro e w1 ⟨rfl, b1⟩
  have Z := Lib.hid ((Has.new w _).below b1)
  have B1 := Lib.hid (bup (bnew w _) b1)
  clear b1
  go_wp2_with fail
  have h8l : 8 < B.size := by omega
  have hlim8 : B[8].toNat < 256 := B[8].toNat_lt
  have HLIM : Hid ((S.getD 8 0).toNat = B[8].toNat) := Lib.hid (by
    have e := HB.out
    subst e
    rw [bs_at])
  generalize hlim : B[8].toNat = lim at hlim8 HLIM ⊢
  clear hlim h8 h9 hB h8l
  have R0 := Lib.hid (RowS.nil w1.heap.size w1)
  have B10 := Lib.hid (Below.refl w1.heap.size w1)
  have D0 : Hid (rdSt R9 0 = some ([], R9)) := Lib.hid rfl
  have hz1 : w.heap.size < w1.heap.size := Z.out.lt
  go_loopw [5, 6, 22] (fun v r i wr => ∃ (k : Nat) (l : List Sl) (u : List UInt8), k ≤ lim ∧ i = .int .u8 k ∧ r = .string (bs u) ∧ Hid (rdSt R9 k = some (l, u)) ∧ Hid (RowS w1.heap.size wr v l) ∧ Hid (Below w1.heap.size w1 wr)) (fun _ _ i _ => lim - (intOf i).toNat)
  case atStart => exact ⟨0, [], R9, by omega, rfl, rfl, D0, R0, B10⟩
  case round =>
    clear R0 D0 B10
    obtain ⟨k, l, u, hk, rfl, rfl, D, R, Bw⟩ := hrel
    have ZR := Lib.hid (Z.out.low Bw.out hz1)
    by_cases hlt : k < lim
    · cases u with
      | nil =>
        have HR : Hid (pgDecR (pgDec S) = (0, [], 4)) := Lib.hid (by
          have h1 := rdSt_mono (rdSt_stop D.out rfl) (show k + 1 ≤ lim by omega)
          unfold pgDec
          rw [if_pos HS.out, HR9.out, HLIM.out, h1]; rfl)
        obtain ⟨U, hU⟩ : ∃ U, bs [] = U := ⟨_, rfl⟩
        have he : U.toList = [] := by rw [← hU, bs_list]
        rw [hU]
        clear hU
        go_wp2_with ((with_reducible refine at_store rfl ?_); refine wpList_put_row rfl _ _ _ rfl rfl w.heap.size _ rfl rfl _ _ ZR.out (by kernel_rfl) rfl (by first | kernel_rfl | simp [Value.oneCell']) ?_; intro w8 Z8 B8)
        (try simp only [Exit.inBlock, Exit.then])
        refine bodyPost_ret (v := .tuple #[.agg #[.int .i64 0, .slice none 0 0], .int .i64 4]) ?_ rfl ⟨none, 0, 0, by rw [HR.out], by rw [HR.out]; exact IsSlots.nil _, ?_⟩
        · refine Eq.trans (results_cell_one (p := 2) (u := 3) ?_ _ _ w.heap.size _ _ _ fs ?_ Z8 Hu.out (by kernel_rfl)) ?_
          all_goals rfl
        · have hq := B1.out.trans (Bw.out.mono (by omega))
          exact hq.trans (B8.below (Nat.le_refl _) hq.size)
      | cons b u =>
        obtain ⟨l1, l2, l3⟩ := rdSt_len D.out
        have hul : u.length + 1 + slSum l ≤ 240 := by
          have h1 := HS.out
          have h2 : R9.length = 231 := by rw [← HR9.out, List.length_drop, h1]
          simp at l2; omega
        obtain ⟨m, hm⟩ : ∃ m, b.toNat = m := ⟨_, rfl⟩
        have hm256 : m < 256 := by rw [← hm]; exact b.toNat_lt
        have HM := Lib.hid hm
        obtain ⟨U, hU⟩ : ∃ U, bs (b :: u) = U := ⟨_, rfl⟩
        have he : U.toList.isEmpty = false := by rw [← hU, bs_list]; rfl
        have he2 : ¬ U.toList = [] := by rw [← hU, bs_list]; simp
        have hUs : 0 < U.size := by rw [← hU, bs_size]; simp
        have hU0 : U[0].toNat = m := by subst hU; rw [bs_at]; exact hm
        have hU1 : U.extract 1 U.size = bs u := by rw [← hU]; rw [bs_skip _ 1 _ (by rw [bs_size])]; rfl
        have hUm : U.size ≤ 240 := by rw [← hU, bs_size]; simp; omega
        obtain ⟨V, hV⟩ : ∃ V, bs u = V := ⟨_, rfl⟩
        have hVs : V.size = u.length := by rw [← hV, bs_size]
        obtain ⟨vl, hvl⟩ : ∃ vl, u.length = vl := ⟨_, rfl⟩
        have hvl2 : vl ≤ 240 := by omega
        rw [hvl] at hVs
        rw [hV] at hU1
        rw [hU]
        have hl32 : l.length ≤ 256 := by omega
        clear hm hU l1 l2 l3 hul
        by_cases h255 : m = 255
        · have hE : rdOne (b :: u) = some (Sl.none, u) := by simp only [rdOne]; rw [if_pos (HM.out.trans h255)]
          have D2 := Lib.hid (rdSt_step D.out hE)
          have hb : ((m : Int) == 255) = true := by simp [h255]
          have HV := Lib.hid hV
          have Hvl := Lib.hid hvl
          clear h255 hE hV hvl
          go_wp2_with (at_builtin; refine grow_new slotElem rfl (.tmp 35) (.tmp 37) rfl w1.heap.size _ _ l.length (flat l) rfl (by exact R.out) 1 #[.bool false, .string ⟨#[]⟩] rfl rfl (by simp [Value.oneCell']) (by omega) (by omega) Bw.out.size ?_; intro v6 w6 R6 g6 b6)
          go_roundw
          case rel => exact ⟨k + 1, l ++ [Sl.none], u, by omega, by go_num, by rw [HV.out], D2, Lib.hid (RowS.snoc R6), Lib.hid (Bw.out.trans b6)⟩
          case measure => simp [intOf]; omega
        · have hb : ((m : Int) == 255) = false := by simp; omega
          by_cases hlong : vl < m
          · have HR : Hid (pgDecR (pgDec S) = (0, [], 4)) := Lib.hid (by
              have hE : rdOne (b :: u) = none := by
                simp only [rdOne]; rw [if_neg (by rw [HM.out]; exact h255), if_pos (by rw [HM.out, hvl]; exact hlong)]
              have h1 := rdSt_mono (rdSt_stop D.out hE) (show k + 1 ≤ lim by omega)
              unfold pgDec
              rw [if_pos HS.out, HR9.out, HLIM.out, h1]; rfl)
            clear h255 hV hvl
            go_wp2_with ((with_reducible refine at_store rfl ?_); refine wpList_put_row rfl _ _ _ rfl rfl w.heap.size _ rfl rfl _ _ ZR.out (by kernel_rfl) rfl (by first | kernel_rfl | simp [Value.oneCell']) ?_; intro w8 Z8 B8)
            (try simp only [Exit.inBlock, Exit.then])
            refine bodyPost_ret (v := .tuple #[.agg #[.int .i64 0, .slice none 0 0], .int .i64 4]) ?_ rfl ⟨none, 0, 0, by rw [HR.out], by rw [HR.out]; exact IsSlots.nil _, ?_⟩
            · refine Eq.trans (results_cell_one (p := 2) (u := 3) ?_ _ _ w.heap.size _ _ _ fs ?_ Z8 Hu.out (by kernel_rfl)) ?_
              all_goals rfl
            · have hq := B1.out.trans (Bw.out.mono (by omega))
              exact hq.trans (B8.below (Nat.le_refl _) hq.size)
          · have hE : rdOne (b :: u) = some (⟨true, bs (u.take m)⟩, u.drop m) := by
              simp only [rdOne]; rw [if_neg (by rw [HM.out]; exact h255), if_neg (by rw [HM.out, hvl]; exact hlong), HM.out]
            have D2 := Lib.hid (rdSt_step D.out hE)
            have hV1 : V.extract 0 m = bs (u.take m) := by rw [← hV]; exact bs_take u m
            have hV2 : V.extract m vl = bs (u.drop m) := by rw [← hV]; exact bs_skip u m vl hvl.symm
            obtain ⟨X, hX⟩ : ∃ X, bs (u.take m) = X := ⟨_, rfl⟩
            rw [hX] at hV1 D2
            obtain ⟨Y, hY⟩ : ∃ Y, bs (u.drop m) = Y := ⟨_, rfl⟩
            rw [hY] at hV2
            have HY := Lib.hid hY
            clear h255 hE hV hvl hX hY
            go_wp2_with (at_builtin; refine grow_new slotElem rfl (.tmp 45) (.tmp 50) rfl w1.heap.size _ _ l.length (flat l) rfl (by exact R.out) 1 #[.bool true, .string X] rfl rfl (by simp [Value.oneCell']) (by omega) (by omega) Bw.out.size ?_; intro v6 w6 R6 g6 b6)
            go_roundw
            case rel => exact ⟨k + 1, l ++ [⟨true, X⟩], u.drop m, by omega, by go_num, by rw [HY.out], D2, Lib.hid (RowS.snoc R6), Lib.hid (Bw.out.trans b6)⟩
            case measure => simp [intOf]; omega
    · obtain rfl : k = lim := by omega
      obtain ⟨l1, l2, l3⟩ := rdSt_len D.out
      obtain ⟨A, cap, rfl, I⟩ := R.out.slots (fun x hx => by have := l3 x hx; omega)
      have HPD : Hid (pgDec S = if slGood N l = true ∧ pgBytes N l = S then some ((N : Int), l) else none) := Lib.hid (by
        unfold pgDec
        rw [if_pos HS.out, HR9.out, HLIM.out, D.out, HL8.out, HN.out])
      have HI := Lib.hid I
      clear l1 l2 l3 I R D HLIM HR9 HL8 HN HS CH
      have hcapA := HI.out.cap
      have hmostA := HI.out.most
      by_cases hbig : 1099511627776 < N
      · have HR : Hid (pgDecR (pgDec S) = (0, [], 4)) := Lib.hid (by
          rw [HPD.out, if_neg]; rfl
          rintro ⟨hg, _⟩
          have := ((slGood_iff _ _).1 hg).1; omega)
        have hb : (N : Int) > 1099511627776 := by omega
        obtain ⟨q, hq⟩ : ∃ q, IntKind.i64.wrap (N : Int) = q := ⟨_, rfl⟩
        have CE := fun w h => penc_any q A l.length cap l w h
        obtain ⟨E, hE⟩ : ∃ E, pgEnc q l = E := ⟨_, rfl⟩
        rw [hE] at CE
        obtain ⟨E1, E2⟩ := E
        simp only at CE
        replace CE := Lib.hid CE
        clear hE
        go_upto_region 20 with (fail)
        have Q4 := Lib.hid (Has.new wr (.cells #[.int .i64 q, .slice A l.length cap] 24))
        have Z4 := Lib.hid (ZR.out.alloc (.cells #[.int .i64 q, .slice A l.length cap] 24))
        have I4 := Lib.hid (HI.out.alloc (.cells #[.int .i64 q, .slice A l.length cap] 24))
        have B4 := Lib.hid (bup (B1.out.trans (Bw.out.mono (Nat.le_of_lt hz1))) (bnew wr (.cells #[.int .i64 q, .slice A l.length cap] 24)))
        generalize World.alloc wr (.cells #[.int .i64 q, .slice A l.length cap] 24) = w4 at Q4 Z4 I4 B4 ⊢
        have q0 := Q4.out.cell 0 _ rfl
        have q1 := Q4.out.cell 1 _ rfl
        go_wp2_with fail
        refine (CE.out _ I4.out).mono ?_
        rintro e w5 ⟨rfl, b5⟩
        have Z5 := Lib.hid (Z4.out.below b5)
        have B5 := Lib.hid (bup B4.out b5)
        have Q5 := Lib.hid (Q4.out.below b5)
        have I5 := Lib.hid (I4.out.below b5)
        clear q0 q1 b5 Z4 Q4 I4 B4
        go_wp2_with ((with_reducible refine at_store rfl ?_); refine wpList_put_row rfl _ _ _ rfl rfl w.heap.size _ rfl rfl _ _ Z5.out (by kernel_rfl) rfl (by first | kernel_rfl | simp [Value.oneCell']) ?_; intro w8 Z8 B8)
        (try simp only [Exit.inBlock, Exit.then])
        refine bodyPost_ret (v := .tuple #[.agg #[.int .i64 0, .slice none 0 0], .int .i64 4]) ?_ rfl ⟨none, 0, 0, by rw [HR.out], by rw [HR.out]; exact IsSlots.nil _, ?_⟩
        · refine Eq.trans (results_cell_one (p := 2) (u := 3) ?_ _ _ w.heap.size _ _ _ fs ?_ Z8 Hu.out (by kernel_rfl)) ?_
          all_goals rfl
        · exact B5.out.trans (B8.below (Nat.le_refl _) B5.out.size)
      · have CE := fun w h => penc_any (N : Int) A l.length cap l w h
        have hbs : (N : Int) ≤ 1099511627776 := by omega
        clear hbig
        cases hg : slGood N l with
        | false =>
          have HR : Hid (pgDecR (pgDec S) = (0, [], 4)) := Lib.hid (by
            rw [HPD.out, if_neg]; rfl
            rintro ⟨h, _⟩
            rw [hg] at h; cases h)
          have hE : pgEnc N l = ([], 1) := by simp [pgEnc, hg]
          rw [hE] at CE
          simp only at CE
          obtain ⟨T, hT⟩ : ∃ T, bs [] = T := ⟨_, rfl⟩
          rw [hT] at CE
          replace CE := Lib.hid CE
          clear hE hT hg
          go_upto_region 20 with (fail)
          have Q4 := Lib.hid (Has.new wr (.cells #[.int .i64 (N : Int), .slice A l.length cap] 24))
          have Z4 := Lib.hid (ZR.out.alloc (.cells #[.int .i64 (N : Int), .slice A l.length cap] 24))
          have I4 := Lib.hid (HI.out.alloc (.cells #[.int .i64 (N : Int), .slice A l.length cap] 24))
          have B4 := Lib.hid (bup (B1.out.trans (Bw.out.mono (Nat.le_of_lt hz1))) (bnew wr (.cells #[.int .i64 (N : Int), .slice A l.length cap] 24)))
          generalize World.alloc wr (.cells #[.int .i64 (N : Int), .slice A l.length cap] 24) = w4 at Q4 Z4 I4 B4 ⊢
          have q0 := Q4.out.cell 0 _ rfl
          have q1 := Q4.out.cell 1 _ rfl
          go_wp2_with fail
          refine (CE.out _ I4.out).mono ?_
          rintro e w5 ⟨rfl, b5⟩
          have Z5 := Lib.hid (Z4.out.below b5)
          have B5 := Lib.hid (bup B4.out b5)
          have Q5 := Lib.hid (Q4.out.below b5)
          have I5 := Lib.hid (I4.out.below b5)
          clear q0 q1 b5 Z4 Q4 I4 B4
          go_wp2_with ((with_reducible refine at_store rfl ?_); refine wpList_put_row rfl _ _ _ rfl rfl w.heap.size _ rfl rfl _ _ Z5.out (by kernel_rfl) rfl (by first | kernel_rfl | simp [Value.oneCell']) ?_; intro w8 Z8 B8)
          (try simp only [Exit.inBlock, Exit.then])
          refine bodyPost_ret (v := .tuple #[.agg #[.int .i64 0, .slice none 0 0], .int .i64 4]) ?_ rfl ⟨none, 0, 0, by rw [HR.out], by rw [HR.out]; exact IsSlots.nil _, ?_⟩
          · refine Eq.trans (results_cell_one (p := 2) (u := 3) ?_ _ _ w.heap.size _ _ _ fs ?_ Z8 Hu.out (by kernel_rfl)) ?_
            all_goals rfl
          · exact B5.out.trans (B8.below (Nat.le_refl _) B5.out.size)
        | true =>
          have hE : pgEnc N l = (pgBytes N l, 0) := by simp [pgEnc, hg]
          rw [hE] at CE
          simp only at CE
          by_cases heq : pgBytes N l = S
          · have HR : Hid (pgDecR (pgDec S) = ((N : Int), l, 0)) := Lib.hid (by
              rw [HPD.out, if_pos ⟨hg, heq⟩]; rfl)
            rw [heq, HB.out] at CE
            replace CE := Lib.hid CE
            clear hE hg heq
            go_upto_region 20 with (fail)
            have Q4 := Lib.hid (Has.new wr (.cells #[.int .i64 (N : Int), .slice A l.length cap] 24))
            have Z4 := Lib.hid (ZR.out.alloc (.cells #[.int .i64 (N : Int), .slice A l.length cap] 24))
            have I4 := Lib.hid (HI.out.alloc (.cells #[.int .i64 (N : Int), .slice A l.length cap] 24))
            have B4 := Lib.hid (bup (B1.out.trans (Bw.out.mono (Nat.le_of_lt hz1))) (bnew wr (.cells #[.int .i64 (N : Int), .slice A l.length cap] 24)))
            generalize World.alloc wr (.cells #[.int .i64 (N : Int), .slice A l.length cap] 24) = w4 at Q4 Z4 I4 B4 ⊢
            have q0 := Q4.out.cell 0 _ rfl
            have q1 := Q4.out.cell 1 _ rfl
            go_wp2_with fail
            refine (CE.out _ I4.out).mono ?_
            rintro e w5 ⟨rfl, b5⟩
            have Z5 := Lib.hid (Z4.out.below b5)
            have B5 := Lib.hid (bup B4.out b5)
            have Q5 := Lib.hid (Q4.out.below b5)
            have I5 := Lib.hid (I4.out.below b5)
            clear q0 q1 b5 Z4 Q4 I4 B4
            have q0 := Q5.out.cell 0 _ rfl
            have q1 := Q5.out.cell 1 _ rfl
            go_wp2_with ((with_reducible refine at_store rfl ?_); refine wpList_put_row rfl _ _ _ rfl rfl w.heap.size _ rfl rfl _ _ Z5.out (by kernel_rfl) rfl (by first | kernel_rfl | simp [Value.oneCell']) ?_; intro w8 Z8 B8)
            (try simp only [Exit.inBlock, Exit.then])
            refine bodyPost_ret (v := .tuple #[.agg #[.int .i64 (N : Int), .slice A l.length cap], .int .i64 0]) ?_ rfl ⟨A, l.length, cap, by rw [HR.out], by rw [HR.out]; exact I5.out.apart Z5.out B8, ?_⟩
            · refine Eq.trans (results_cell_one (p := 2) (u := 3) ?_ _ _ w.heap.size _ _ _ fs ?_ Z8 Hu.out (by kernel_rfl)) ?_
              all_goals rfl
            · exact B5.out.trans (B8.below (Nat.le_refl _) B5.out.size)
          · have HR : Hid (pgDecR (pgDec S) = (0, [], 4)) := Lib.hid (by
              rw [HPD.out, if_neg]; rfl
              rintro ⟨_, h⟩
              exact heq h)
            obtain ⟨T, hT⟩ : ∃ T, bs (pgBytes N l) = T := ⟨_, rfl⟩
            have hTB2 : (T.toList == B.toList) = false := by
              rw [← hT, ← HB.out, bs_list, bs_list]
              simpa using heq
            have hTB3 : ¬ T.toList = B.toList := by simpa using hTB2
            rw [hT] at CE
            replace CE := Lib.hid CE
            clear hE hT hg heq
            go_upto_region 20 with (fail)
            have Q4 := Lib.hid (Has.new wr (.cells #[.int .i64 (N : Int), .slice A l.length cap] 24))
            have Z4 := Lib.hid (ZR.out.alloc (.cells #[.int .i64 (N : Int), .slice A l.length cap] 24))
            have I4 := Lib.hid (HI.out.alloc (.cells #[.int .i64 (N : Int), .slice A l.length cap] 24))
            have B4 := Lib.hid (bup (B1.out.trans (Bw.out.mono (Nat.le_of_lt hz1))) (bnew wr (.cells #[.int .i64 (N : Int), .slice A l.length cap] 24)))
            generalize World.alloc wr (.cells #[.int .i64 (N : Int), .slice A l.length cap] 24) = w4 at Q4 Z4 I4 B4 ⊢
            have q0 := Q4.out.cell 0 _ rfl
            have q1 := Q4.out.cell 1 _ rfl
            go_wp2_with fail
            refine (CE.out _ I4.out).mono ?_
            rintro e w5 ⟨rfl, b5⟩
            have Z5 := Lib.hid (Z4.out.below b5)
            have B5 := Lib.hid (bup B4.out b5)
            have Q5 := Lib.hid (Q4.out.below b5)
            have I5 := Lib.hid (I4.out.below b5)
            clear q0 q1 b5 Z4 Q4 I4 B4
            go_wp2_with ((with_reducible refine at_store rfl ?_); refine wpList_put_row rfl _ _ _ rfl rfl w.heap.size _ rfl rfl _ _ Z5.out (by kernel_rfl) rfl (by first | kernel_rfl | simp [Value.oneCell']) ?_; intro w8 Z8 B8)
            (try simp only [Exit.inBlock, Exit.then])
            refine bodyPost_ret (v := .tuple #[.agg #[.int .i64 0, .slice none 0 0], .int .i64 4]) ?_ rfl ⟨none, 0, 0, by rw [HR.out], by rw [HR.out]; exact IsSlots.nil _, ?_⟩
            · refine Eq.trans (results_cell_one (p := 2) (u := 3) ?_ _ _ w.heap.size _ _ _ fs ?_ Z8 Hu.out (by kernel_rfl)) ?_
              all_goals rfl
            · exact B5.out.trans (B8.below (Nat.le_refl _) B5.out.size)
theorem pdec_any (s : ByteArray) (hs : s.size ≤ 9223372036854775807) (w : World) :
    Calls Try.prog 28 #[.string s] w (PageOut (pgDecR (pgDec s.data.toList)) w) := by
  have hl : s.data.toList.length = s.size := Array.length_toList
  by_cases h : s.size = 240
  · exact pdec_in s.data.toList (by omega) w
  · have : pgDec s.data.toList = none := by unfold pgDec; rw [if_neg (by omega)]
    rw [this]
    exact pdec_short s hs h w
end Go.Proofs.Ytklmoigpalhlmaa
