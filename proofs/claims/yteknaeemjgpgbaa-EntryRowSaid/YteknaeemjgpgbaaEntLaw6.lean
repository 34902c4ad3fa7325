/-
  The walk of a statement of layer 4: entries in a row.
-/
import Derived.Test.YteknaeemjgpgbaaEntAwake
import Derived.Test.YteknaeemjgpgbaaEntRowOpen
import Derived.StillTailTactics
import Derived.Deep.QuietTactic
import Derived.BigQuiet
namespace Go.Proofs.Yteknaeemjgpgbaa
open Go.RowKit Go.Sort NibPure
set_option linter.unusedVariables false
set_option linter.unusedSimpArgs false

theorem entNeqBin (x y : Ent) (w : World) : (binOp .neq 27 x.val y.val).run Try.prog w = .ok (.bool (!x.eqB y)) w := by
  have h := entEqIn 9997 x y w
  obtain ⟨k, c, e, n, l, p, pg, sl, wu, wd, iu, ix, nx⟩ := x
  obtain ⟨k', c', e', n', l', p', pg', sl', wu', wd', iu', ix', nx'⟩ := y
  simp only [Ent.val, Ent.row] at h ⊢
  rw [run_neq_struct, h]
  rfl
set_option maxRecDepth 100000 in
set_option maxHeartbeats 8000000 in
theorem EntryRow_walk (A : Option Addr) (n c : Nat) (L : List Ent) (w : World) (I : IsEnts w A n c L) :
    Calls Try.prog 8 #[.slice A n c] w fun e w' => e = .returned (.bool true) ∧ Below w.heap.size w w' := by
  have CA := Lib.hid entAwake_any
  have hcap := I.cap
  have hmost := I.most
  have hlen := I.len
  by_cases hn : 40 < n
  · go_enter Try.func8, Try.ntmps8
    go_wp2_with fail
    refine (CA.out _).mono ?_
    rintro e w0 ⟨rfl, b0⟩
    go_wp2_with fail
    go_ret
    exact ⟨rfl, b0⟩
  have H := Lib.hid I
  clear I
  go_enter Try.func8, Try.ntmps8
  go_wp2_with fail
  refine (CA.out _).mono ?_
  rintro e w0 ⟨rfl, b0⟩
  have H0 := Lib.hid (H.out.below b0)
  have B0 := Lib.hid b0
  have R0 := Lib.hid (RowE.empty w0.heap.size w0 (Nat.le_refl _))
  have B1 := Lib.hid (bnew w0 (.cells #[] 27))
  clear b0 H
  go_upto_region 7 with (fail)
  generalize hw1 : World.alloc w0 _ = w1
  rw [hw1] at R0 B1
  clear hw1
  have hn40 : n ≤ 40 := by omega
  clear hn
  go_wp2_with fail
  go_loopw [3, 4, 5] (fun s v i wr => ∃ j : Nat, j ≤ n ∧ i = .int .i64 j ∧ s = .string (bs (rowBytes (goods (L.take j)))) ∧ Hid (RowE w0.heap.size wr v (goods (L.take j))) ∧ Hid (Below w0.heap.size w0 wr)) (fun _ _ i _ => n - (intOf i).toNat)
  case atStart => exact ⟨0, by omega, rfl, rfl, R0, B1⟩
  case round =>
    clear R0 B1
    obtain ⟨j, hj, rfl, rfl, R, B⟩ := hrel
    obtain ⟨A6, cap6, rfl, h61, h62⟩ := ownsRow_form R.out
    obtain ⟨q, hq⟩ : ∃ q, goods (L.take j) = q := ⟨_, rfl⟩
    have hq40 : q.length ≤ 40 := by rw [← hq]; have := goods_len (L.take j); simp at this; omega
    have hqs : (rowBytes q).length ≤ 40 * 540 := by
      have := rowBytes_len q (by rw [← hq]; exact goods_all _)
      omega
    have hgood := goods_all (L.take j)
    rw [hq] at hgood
    have HGood := Lib.hid hgood
    have HQ := Lib.hid hq
    rw [hq] at R h61 ⊢
    clear hgood hq
    by_cases hlt : j < n
    · obtain ⟨x, hx⟩ : ∃ x, L[j]? = some x := ⟨_, List.getElem?_eq_getElem (by omega)⟩
      obtain ⟨b, off, hA, hbl, E⟩ := (H0.out.below B.out).here hx
      subst hA
      obtain ⟨hsw, hsi⟩ := H0.out.small x (List.mem_of_getElem? hx)
      have CG := fun w => entGreat_any x (by omega) (by omega) w
      have CE := fun w => encode_any x (by omega) (by omega) w
      obtain ⟨G, hG⟩ : ∃ G, x.great = G := ⟨_, rfl⟩
      rw [hG] at CG
      have Hx := Lib.hid hx
      clear hG hx
      cases G with
      | true =>
        clear CE Hx
        obtain ⟨k, cc, e, m, l, p, pg, sl, wu, wd, iu, ix, nx⟩ := x
        simp only [Ent.val, Ent.row] at CG E hsw hsi
        replace CG := Lib.hid CG
        obtain ⟨a0, a1, a2, a3, a4, a5, a6, a7, a8, a9, a10, a11, a12⟩ := E
        go_wp2_with fail
        refine (CG.out _).mono ?_
        rintro e1 w2 ⟨rfl, b2⟩
        go_wp2_with fail
        go_ret
        exact ⟨rfl, bup (bup B0.out B.out) b2⟩
      | false =>
        cases hg : x.good with
        | false =>
          have HG := Lib.hid (goods_no Hx.out hg)
          rw [show x.encRes = .tuple #[.string (bs []), .int .i64 1] by simp [Ent.encRes, hg]] at CE
          clear hg Hx
          obtain ⟨k, cc, e, m, l, p, pg, sl, wu, wd, iu, ix, nx⟩ := x
          simp only [Ent.val, Ent.row] at CG CE E hsw hsi
          replace CG := Lib.hid CG
          replace CE := Lib.hid CE
          have E0 := Lib.hid E
          obtain ⟨a0, a1, a2, a3, a4, a5, a6, a7, a8, a9, a10, a11, a12⟩ := E
          go_wp2_with fail
          refine (CG.out _).mono ?_
          rintro e1 w2 ⟨rfl, b2⟩
          have E2 := E0.out.below hbl b2
          have B2 := Lib.hid (bup B.out b2)
          have R2 := Lib.hid (ownsRow_below R.out b2)
          clear b2 B R E0 a0 a1 a2 a3 a4 a5 a6 a7 a8 a9 a10 a11 a12
          obtain ⟨a0, a1, a2, a3, a4, a5, a6, a7, a8, a9, a10, a11, a12⟩ := E2
          go_wp2_with fail
          refine (CE.out _).mono ?_
          rintro e1 w3 ⟨rfl, b3⟩
          have B3 := Lib.hid (bup B2.out b3)
          have R3 := Lib.hid (ownsRow_below R2.out b3)
          clear b3 B2 R2 a0 a1 a2 a3 a4 a5 a6 a7 a8 a9 a10 a11 a12
          go_wp2_with fail
          go_roundw
          case rel => exact ⟨j + 1, by omega, by go_num, by rw [HG.out, HQ.out], by rw [HG.out, HQ.out]; exact R3, B3⟩
          case measure => simp [intOf]; omega
        | true =>
          have HG := Lib.hid (goods_yes Hx.out hg)
          rw [show x.encRes = .tuple #[.string (bs x.bytes), .int .i64 0] by simp [Ent.encRes, hg]] at CE
          have hbl2 := bytes_len' x hg
          obtain ⟨X, hX⟩ : ∃ X, x.bytes = X := ⟨_, rfl⟩
          rw [hX] at CE hbl2
          have hadd := fun w => add_lists' (P := Try.prog) (rowBytes q) X (by omega) w
          have HX : Hid (rowBytes (q ++ [x]) = rowBytes q ++ X) := Lib.hid (by rw [rowBytes_append, ← hX]; simp [rowBytes])
          clear hg Hx hX
          obtain ⟨k, cc, e, m, l, p, pg, sl, wu, wd, iu, ix, nx⟩ := x
          simp only [Ent.val, Ent.row] at CG CE E hsw hsi
          replace CG := Lib.hid CG
          replace CE := Lib.hid CE
          have E0 := Lib.hid E
          obtain ⟨a0, a1, a2, a3, a4, a5, a6, a7, a8, a9, a10, a11, a12⟩ := E
          go_wp2_with fail
          refine (CG.out _).mono ?_
          rintro e1 w2 ⟨rfl, b2⟩
          have hbl' := Nat.lt_of_lt_of_le hbl b2.size
          have E2 := E0.out.below hbl b2
          have E20 := Lib.hid E2
          have B2 := Lib.hid (bup B.out b2)
          have R2 := Lib.hid (ownsRow_below R.out b2)
          clear b2 B R E0 a0 a1 a2 a3 a4 a5 a6 a7 a8 a9 a10 a11 a12
          obtain ⟨a0, a1, a2, a3, a4, a5, a6, a7, a8, a9, a10, a11, a12⟩ := E2
          go_wp2_with fail
          refine (CE.out _).mono ?_
          rintro e1 w3 ⟨rfl, b3⟩
          have E3 := E20.out.below hbl' b3
          have B3 := Lib.hid (bup B2.out b3)
          have R3 := Lib.hid (ownsRow_below R2.out b3)
          have hz3 := B3.out.size
          clear b3 B2 R2 E20 a0 a1 a2 a3 a4 a5 a6 a7 a8 a9 a10 a11 a12
          obtain ⟨a0, a1, a2, a3, a4, a5, a6, a7, a8, a9, a10, a11, a12⟩ := E3
          go_wp2_with (at_builtin; refine grow_new entElem rfl (.tmp 42) (.tmp 47) rfl w0.heap.size _ _ q.length (flatE q) rfl (by exact R3.out) 1 #[.int .i64 k, .int .i64 cc, .int .i64 e, .int .i64 m, .int .i64 l, .int .i64 p, .int .i64 pg, .int .i64 sl, .bool wu, .string wd, .bool iu, .string ix, .int .i64 nx] rfl rfl (by simp [Value.oneCell']) (by omega) (by omega) hz3 ?_; intro v6 w6 R6 g6 b6; obtain ⟨A7, cap7, rfl, h71, h72⟩ := ownsRow_form R6)
          go_roundw
          case rel => exact ⟨j + 1, by omega, by go_num, by rw [HG.out, HQ.out, HX.out], by rw [HG.out, HQ.out]; exact Lib.hid (by unfold RowE; rw [flatE_append, List.length_append]; exact R6), Lib.hid (B3.out.trans b6)⟩
          case measure => simp [intOf]; omega
    · obtain rfl : j = n := by omega
      obtain ⟨w2, rfl⟩ : ∃ w2 : World, w2 = wr := ⟨_, rfl⟩
      clear HQ H0 hj hlt
      go_wp2_with fail
      go_loopw [3, 8] (fun s i wr => ∃ t : Nat, t ≤ q.length ∧ i = .int .i64 t ∧ s = .string (bs (rowBytes (q.drop t))) ∧ Hid (Below w2.heap.size w2 wr)) (fun _ i _ => q.length - (intOf i).toNat)
      case atStart => exact ⟨0, by omega, rfl, rfl, Lib.hid (Below.refl _ _)⟩
      case round =>
        obtain ⟨t, ht, rfl, rfl, D⟩ := hrel
        by_cases hlt : t < q.length
        · obtain ⟨g, cap, cur, hsl, hgb, hgl, _, h71, h72, _, _⟩ := ownsRow_at R.out (show 0 < q.length by omega)
          obtain ⟨rfl, rfl⟩ : A6 = some ⟨g, 0, none⟩ ∧ cap6 = cap := by cases hsl; exact ⟨rfl, rfl⟩
          obtain ⟨x, hx⟩ : ∃ x, q[t]? = some x := ⟨_, List.getElem?_eq_getElem hlt⟩
          have E := (RowE.at R.out rfl hx).below hgl D.out
          have hgw : g < wr.heap.size := Nat.lt_of_lt_of_le hgl D.out.size
          have hxg := HGood.out x (List.mem_of_getElem? hx)
          have hrb : rowBytes (q.drop t) = x.bytes ++ rowBytes (q.drop (t + 1)) := by
            have hdx : q.drop t = x :: q.drop (t + 1) := by
              rw [List.drop_eq_getElem_cons hlt]
              congr 1
              rw [List.getElem?_eq_getElem hlt] at hx
              exact Option.some.inj hx
            rw [hdx]; rfl
          have hrl : (rowBytes (q.drop t)).length ≤ 40 * 540 := by
            have h1 := rowBytes_len (q.drop t) (fun y hy => HGood.out y (List.mem_of_mem_drop hy))
            simp at h1
            omega
          have CD := fun w => decode_any (bs (rowBytes (q.drop t))) (by rw [bs_size]; omega) w
          rw [bs_data, hrb, decE_bytes x hxg] at CD
          rw [hrb]
          have CE := fun w => entNeqBin x x w
          rw [(eqB_iff x x).2 rfl] at CE
          obtain ⟨Y, hY⟩ : ∃ Y, rowBytes (q.drop (t + 1)) = Y := ⟨_, rfl⟩
          rw [hY] at CD ⊢
          obtain ⟨Z, hZ⟩ : ∃ Z, x.bytes ++ Y = Z := ⟨_, rfl⟩
          rw [hZ] at CD ⊢
          have HY := Lib.hid hY
          clear hxg hrb hrl hx hZ hY hsl
          obtain ⟨k, cc, e, m, l, p, pg, sl, wu, wd, iu, ix, nx⟩ := x
          simp only [decERes, Ent.val, Ent.row] at CD CE E
          replace CD := Lib.hid CD
          go_wp2_with fail
          refine (CD.out _).mono ?_
          rintro e1 w3 ⟨rfl, b3⟩
          have E3 := Lib.hid ((E.below hgw b3).below (Nat.lt_of_lt_of_le hgw b3.size) (bnew w3 (.cells #[.int .i64 k, .int .i64 cc, .int .i64 e, .int .i64 m, .int .i64 l, .int .i64 p, .int .i64 pg, .int .i64 sl, .bool wu, .string wd, .bool iu, .string ix, .int .i64 nx] 27)))
          have Y3 := Lib.hid (Has.new w3 (.cells #[.int .i64 k, .int .i64 cc, .int .i64 e, .int .i64 m, .int .i64 l, .int .i64 p, .int .i64 pg, .int .i64 sl, .bool wu, .string wd, .bool iu, .string ix, .int .i64 nx] 27))
          have D3 := Lib.hid (bup (bup D.out b3) (bnew w3 (.cells #[.int .i64 k, .int .i64 cc, .int .i64 e, .int .i64 m, .int .i64 l, .int .i64 p, .int .i64 pg, .int .i64 sl, .bool wu, .string wd, .bool iu, .string ix, .int .i64 nx] 27)))
          clear b3 E
          go_upto_region 20 with (fail)
          generalize hw4 : World.alloc w3 _ = w4
          rw [hw4] at E3 Y3 D3
          clear hw4
          have E4 := E3.out
          obtain ⟨a0, a1, a2, a3, a4, a5, a6, a7, a8, a9, a10, a11, a12⟩ := E4
          obtain ⟨y0, y1, y2, y3, y4, y5, y6, y7, y8, y9, y10, y11, y12⟩ := EntAt.of Y3.out
          go_quiet (fail)
          go_wp2_with fail
          go_roundw
          case rel => exact ⟨t + 1, by omega, by go_num, by rw [HY.out], Lib.hid (bup D3.out (draws_below _ _))⟩
          case measure => simp [intOf]; omega
        · obtain rfl : t = q.length := by omega
          have he : rowBytes (q.drop q.length) = [] := by simp [rowBytes]
          rw [he]
          have hbt := bs_toList []
          go_wp2_with fail
          go_ret
          refine ⟨?_, bup (bup B0.out B.out) D.out⟩
          first | rfl | exact congrArg (fun b => Ending.returned (.bool b)) (by simp)
end Go.Proofs.Yteknaeemjgpgbaa
