/-
  The walk of a statement of layer 13: datagrams come in the order in which they were put.
-/
import Derived.Test.YtkdopflnaeejeaaMiAwake
import Derived.Test.YtkdopflnaeejeaaMiPlain
import Derived.Deep.QuietTactic
import Derived.BigQuiet
namespace Go.Proofs.Ytkdopflnaeejeaa
open Go.RowKit
set_option linter.unusedVariables false
set_option linter.unusedSimpArgs false

abbrev IsG := IsRow (α := Gr) 6 Gr.row Gr.ok
theorem grams_at {w : World} {A : Option Addr} {n c : Nat} {l : List Gr} (h : IsG w A n c l) {i : Nat} (hi : i < n) : ∃ b off x, A = some ⟨b, off, none⟩ ∧ l[i]? = some x ∧ x.bd.size ≤ 140737488351232 ∧ GrIn w b (off + i * 6) x := by
  obtain ⟨b, off, x, e, _, hx, hok, hc⟩ := h.here hi
  exact ⟨b, off, x, e, hx, hok.2.2.2.2, GrIn.of hc⟩
theorem putG_cases (S : List Gr) (x : Gr) : ((putG S x).2 = 0 ∧ (putG S x).1 = S ++ [x]) ∨ ((putG S x).2 ≠ 0 ∧ (putG S x).1 = S) := by
  unfold putG
  split
  · exact .inr ⟨by simp, rfl⟩
  · split
    · exact .inr ⟨by simp, rfl⟩
    · exact .inl ⟨rfl, rfl⟩
set_option maxRecDepth 100000 in
set_option maxHeartbeats 8000000 in
theorem MistOrder_walk (A : Option Addr) (n c : Nat) (l : List Gr) (w : World) (I : IsG w A n c l) (cl : Int) (_ : (Lit.int .i64 cl).wf = true) (up : Bool) :
    Calls Try.prog 3 #[.slice A n c, .int .i64 cl, .bool up] w fun e w' => e = .returned (.bool true) ∧ Below w.heap.size w w' := by
  have CA := Lib.hid (fun w => mistAwake_any w)
  have H := Lib.hid I
  have hcap := I.cap
  have hmost := I.most
  clear I
  go_enter Try.func3, Try.ntmps3
  go_wp2_with fail
  refine (CA.out _).mono ?_
  rintro e w0 ⟨rfl, b0⟩
  have B0 := Lib.hid b0
  clear b0
  go_wp2_with (go_at_call 8; (with_reducible refine (new_any _).mono ?_); rintro e w1 ⟨rfl, rfl⟩)
  obtain ⟨F, hF⟩ : ∃ F : Nat → Prop, F = fun k => k < w0.heap.size := ⟨_, rfl⟩
  have HFB : Hid (∀ k, k < w0.heap.size → F k) := Lib.hid (fun k hk => by rw [hF]; exact hk)
  have HH : Hid (Held F (Star (NetR 53 w0.heap.size []) (Star (NetR 53 (w0.heap.size + 1) []) (RowR (.slice (some ⟨w0.heap.size + 1 + 1, 0, none⟩) 0 0) []))) (((w0.alloc (.cells #[.slice none 0 0] 53)).alloc (.cells #[.slice none 0 0] 53)).alloc (.cells #[] 27))) := Lib.hid (by
    have h1 := Held.newNet Emp.good (Held.emp (F := F) (w := w0) (fun k hk => by rw [hF] at hk; exact hk)) 53
    have h2 := Held.newNet (Star.good (NetR.good _ _ _) Emp.good) h1 53
    have h3 := Held.newRow (Star.good (NetR.good _ _ _) (Star.good (NetR.good _ _ _) Emp.good)) h2
    simp only [World.size_alloc] at h3
    exact (h3.turn (fun Z h => h.mono (fun _ x => x) (fun _ x => x.mono (fun _ y => y) (fun _ => Star.emp)))).rot.rot.turn (fun Z h => h.mono (fun _ x => x) (fun _ => Star.comm)))
  have B1 : Hid (Below w0.heap.size w0 (((w0.alloc (.cells #[.slice none 0 0] 53)).alloc (.cells #[.slice none 0 0] 53)).alloc (.cells #[] 27))) := Lib.hid (bup (bup (bnew w0 _) (bnew _ _)) (bnew _ _))
  have HI := Lib.hid (H.out.below B0.out)
  have good1 := Lib.hid (fun S v => Star.good (NetR.good 53 (w0.heap.size + 1) S) (RowR.good v S))
  have good2 := Lib.hid (fun S S' v => Star.good (RowR.good v S) (NetR.good 53 w0.heap.size S'))
  have good3 := Lib.hid (fun S => Star.good (NetR.good 53 w0.heap.size S) (NetR.good 53 (w0.heap.size + 1) S))
  clear hF H
  go_loopw [9, 10] (fun v i wr => ∃ (k m : Nat) (S : List Gr) (A' : Option Addr) (cap' : Nat), k ≤ n ∧ k ≤ 200 ∧ m ≤ k ∧ m ≤ cap' ∧ cap' ≤ 9223372036854775807 ∧ i = .int .i64 k ∧ v = .slice A' m cap' ∧ Hid (S.length = m) ∧ Hid (Held F (Star (NetR 53 w0.heap.size S) (Star (NetR 53 (w0.heap.size + 1) S) (RowR (.slice A' m cap') S))) wr) ∧ Hid (Below w0.heap.size w0 wr)) (fun _ i _ => n - (intOf i).toNat)
  case atStart => exact ⟨0, 0, [], _, _, by omega, by omega, by omega, by omega, by omega, rfl, rfl, Lib.hid rfl, HH, B1⟩
  case round =>
    obtain ⟨k, m, S, A', cap', hk, hk2, hm, hm2, hm3, rfl, rfl, HM, HS, HB⟩ := hrel
    clear HH B1
    by_cases hlt : k < n ∧ k < 200
    · obtain ⟨hlt, hlt2⟩ := hlt
      obtain ⟨b, off, x, rfl, hx, hs, hG⟩ := grams_at HI.out hlt
      have HG := Lib.hid (fun (w' : World) (b : Below w0.heap.size w0 w') => hG.below hG.lt b)
      have hS6 : S.length ≤ 1000000 := by have := HM.out; omega
      have CP1 := Lib.hid (fun w h => putH (F := F) (good1.out S (.slice A' m cap')) w0.heap.size S x w hS6 h)
      have HR := putG_cases S x
      obtain ⟨R, hR⟩ : ∃ R, putG S x = R := ⟨_, rfl⟩
      have CP2 := Lib.hid (fun S' w h => putH (F := F) (good2.out S S' (.slice A' m cap')) (w0.heap.size + 1) S x w hS6 h)
      rw [hR] at CP1 CP2 HR
      obtain ⟨S', er⟩ := R
      simp only at HR
      have HRR := Lib.hid HR
      obtain ⟨c', u, ep, sq, ak, bd⟩ := x
      have hG0 := HG.out _ HB.out
      have d0 := hG0.a0
      have d1 := hG0.a1
      have d2 := hG0.a2
      have d3 := hG0.a3
      have d4 := hG0.a4
      have d5 := hG0.a5
      simp only at d0 d1 d2 d3 d4 d5 hs
      simp only [Gr.val] at CP1 CP2
      clear hG hx HR hR hS6 hG0
      by_cases hbig : 4096 < bd.size
      · clear CP1 CP2
        go_wp2_with fail
        go_ret
        exact ⟨rfl, B0.out.trans (HB.out.mono B0.out.size)⟩
      · have hbig' : bd.size ≤ 4096 := by omega
        clear hbig
        go_wp2_with fail
        refine (CP1.out _ HS.out).mono ?_
        rintro e w3 ⟨rfl, h3, k3⟩
        have H3 := Lib.hid h3.rot
        have B3 := Lib.hid (HB.out.trans (k3.belowB HFB.out HB.out.size))
        clear h3 k3 d0 d1 d2 d3 d4 d5
        have hG0 := HG.out _ B3.out
        have d0 := hG0.a0
        have d1 := hG0.a1
        have d2 := hG0.a2
        have d3 := hG0.a3
        have d4 := hG0.a4
        have d5 := hG0.a5
        simp only at d0 d1 d2 d3 d4 d5
        clear hG0
        go_wp2_with fail
        refine (CP2.out S' _ H3.out).mono ?_
        rintro e w4 ⟨rfl, h4, k4⟩
        have H4 := Lib.hid h4.rot
        have B4 := Lib.hid (B3.out.trans (k4.belowB HFB.out B3.out.size))
        clear h4 k4 d0 d1 d2 d3 d4 d5
        have hG0 := HG.out _ B4.out
        have d0 := hG0.a0
        have d1 := hG0.a1
        have d2 := hG0.a2
        have d3 := hG0.a3
        have d4 := hG0.a4
        have d5 := hG0.a5
        simp only at d0 d1 d2 d3 d4 d5
        clear hG0
        by_cases h0 : er = 0
        · subst h0
          have HS' : Hid (S' = S ++ [⟨c', u, ep, sq, ak, bd⟩]) := Lib.hid (by
            rcases HRR.out with ⟨_, h⟩ | ⟨h, _⟩
            · exact h
            · exact absurd rfl h)
          have HW : Hid ((w4.alloc (.cells #[.int .i64 c', .bool u, .int .i64 ep, .int .i64 sq, .int .i64 ak, .string bd] 27)).ownsRow 0 27 6 (.slice A' m cap') m (flatG S)) := Lib.hid (by
            have := (H4.out.row.held (S := fun _ => False) (Kept.of (bnew w4 (.cells #[.int .i64 c', .bool u, .int .i64 ep, .int .i64 sq, .int .i64 ak, .string bd] 27))) (fun _ _ e => e))
            unfold RowG at this
            rw [HM.out] at this
            exact this)
          have HNew := Lib.hid (news_at (Has.new w4 (.cells #[.int .i64 c', .bool u, .int .i64 ep, .int .i64 sq, .int .i64 ak, .string bd] 27)))
          have hmc : m + 1 ≤ 9223372036854775807 := by omega
          go_wp2_with (at_builtin; refine grow_own gramElem rfl (.tmp 62) (.tmp 67) rfl _ _ m (flatG S) rfl HW.out (some ⟨w4.heap.size, 0, none⟩) 1 1 [.int .i64 c', .bool u, .int .i64 ep, .int .i64 sq, .int .i64 ak, .string bd] rfl rfl (.inr ⟨_, rfl, HNew.out⟩) (by simp [Value.oneCell']) (by omega) (by omega) ?_; intro v6 w6 R6 g6 f6; obtain ⟨A6, cap6, rfl, h61, h62⟩ := ownsRow_form R6; have R6' := Lib.hid R6; have g6' := Lib.hid g6; have f6' := Lib.hid f6; clear R6 g6 f6)
          have hm6 := Held.rowMore (q := S) (x := ⟨c', u, ep, sq, ak, bd⟩) (good3.out S') H4.out (by rw [HM.out]; exact R6'.out) g6'.out f6'.out
          have H6 := Lib.hid hm6.1.rot
          have B6 := Lib.hid (B4.out.trans (hm6.2.belowB HFB.out B4.out.size))
          clear hm6 R6' g6' f6'
          go_roundw
          case rel => exact ⟨k + 1, m + 1, S ++ [⟨c', u, ep, sq, ak, bd⟩], A6, cap6, by omega, by omega, by omega, h61, h62, by go_num, rfl, Lib.hid (by rw [List.length_append, HM.out]; rfl), Lib.hid (by have := H6.out; rw [HS'.out] at this; exact this), B6⟩
          case measure => simp [intOf]; omega
        · have hb : (er == 0) = false := by simpa using h0
          have HS' : Hid (S' = S) := Lib.hid (by
            rcases HRR.out with ⟨h, _⟩ | ⟨_, h⟩
            · exact absurd h h0
            · exact h)
          clear h0
          go_wp2_with fail
          go_roundw
          case rel => exact ⟨k + 1, m, S, A', cap', by omega, by omega, by omega, hm2, hm3, by go_num, rfl, HM, Lib.hid (by have := H4.out.rot; rw [HS'.out] at this; exact this), B4⟩
          case measure => simp [intOf]; omega
    · have BB := Lib.hid (B0.out.trans (HB.out.mono B0.out.size))
      have C20 : Hid (∀ (x : Gr) w, (binOp .neq 27 x.val x.val).run Try.prog w = .ok (.bool false) w) := Lib.hid (fun x w => by rw [grNeqBin, grEq_self]; rfl)
      clear good2 good3 CA HI
      by_cases hkn : k < n
      all_goals
        have hk3 : ¬ (k < n ∧ k < 200) := hlt
        have hk4 : n ≤ k ∨ 200 ≤ k := by omega
        clear hlt
        first | (have hk5 : 200 ≤ k := by omega) | skip
        go_wp2_with fail
        obtain ⟨wo, rfl⟩ : ∃ wo : World, wo = wr := ⟨_, rfl⟩
        go_loopw [12] (fun i wr => ∃ j : Nat, j ≤ m ∧ i = .int .i64 j ∧ Hid (Held F (Star (NetR 53 w0.heap.size (S.drop j)) (Star (NetR 53 (w0.heap.size + 1) (restW cl up S j)) (RowR (.slice A' m cap') S))) wr) ∧ Hid (Below w0.heap.size w0 wr)) (fun i _ => m - (intOf i).toNat)
        case atStart => exact ⟨0, by omega, rfl, Lib.hid (by rw [rest_zero]; exact HS.out), HB⟩
        case round =>
          obtain ⟨j, hj, rfl, HJ, HBJ⟩ := hrel
          by_cases hjm : j < m
          · obtain ⟨x, hx⟩ : ∃ x, S[j]? = some x := ⟨_, List.getElem?_eq_getElem (by rw [HM.out]; exact hjm)⟩
            have gd2 := Star.good (NetR.good 53 (w0.heap.size + 1) (restW cl up S j)) (RowR.good (.slice A' m cap') S)
            have gd1 := Star.good (RowR.good (.slice A' m cap') S) (NetR.good 53 w0.heap.size (S.drop (j + 1)))
            have CE := fun w h => eldestH (F := F) gd2 w0.heap.size (S.drop j) w h
            rw [pull_drop hx] at CE
            have CP : ∀ w, onWay cl up x = true → Held F (Star (NetR 53 (w0.heap.size + 1) (restW cl up S j)) (Star (RowR (.slice A' m cap') S) (NetR 53 w0.heap.size (S.drop (j + 1))))) w → Calls Try.prog 11 #[.pointer (some ⟨w0.heap.size + 1, 0, none⟩), .int .i64 cl, .bool up, .int .i64 0] w fun e w' => e = .returned (.tuple #[x.val, .bool true]) ∧ Held F (Star (NetR 53 (w0.heap.size + 1) (restW cl up S (j + 1))) (Star (RowR (.slice A' m cap') S) (NetR 53 w0.heap.size (S.drop (j + 1))))) w' ∧ KeptF F w w' := fun w ho h => by
              have := pickH (F := F) gd1 (w0.heap.size + 1) (restW cl up S j) cl up 0 w (by decide) (by decide) h
              rw [rest_yes hx ho] at this
              exact this
            have HNo := Lib.hid (fun (ho : onWay cl up x = false) => rest_no hx ho)
            have CX := Lib.hid (fun w => C20.out x w)
            obtain ⟨c', u, ep, sq, ak, bd⟩ := x
            simp only [Gr.val] at CE CP CX
            have CE' := Lib.hid CE
            have CP' := Lib.hid CP
            have goodAll := Lib.hid (Star.good (NetR.good 53 w0.heap.size (S.drop (j + 1))) gd2)
            have goodAll2 := Lib.hid (Star.good (NetR.good 53 w0.heap.size (S.drop (j + 1))) (Star.good (NetR.good 53 (w0.heap.size + 1) (restW cl up S (j + 1))) (RowR.good (.slice A' m cap') S)))
            have HX := Lib.hid hx
            clear CE CP hx gd1 gd2
            go_wp2_with fail
            refine (CE'.out _ HJ.out).mono ?_
            rintro e w3 ⟨rfl, h3, k3⟩
            have B3 := Lib.hid (HBJ.out.trans (k3.belowB HFB.out HBJ.out.size))
            have H3 := Lib.hid h3
            clear h3 k3
            go_upto_region 20 with (fail)
            have Y4 := Lib.hid (Has.new w3 (.cells #[.int .i64 c', .bool u, .int .i64 ep, .int .i64 sq, .int .i64 ak, .string bd] 27))
            have H4 := Lib.hid (H3.out.below goodAll.out (bnew w3 (.cells #[.int .i64 c', .bool u, .int .i64 ep, .int .i64 sq, .int .i64 ak, .string bd] 27)))
            have B4 := Lib.hid (bup B3.out (bnew w3 (.cells #[.int .i64 c', .bool u, .int .i64 ep, .int .i64 sq, .int .i64 ak, .string bd] 27)))
            generalize hw4 : World.alloc w3 _ = w4
            rw [hw4] at Y4 H4 B4
            clear hw4 H3 B3
            obtain ⟨g, cap2, cur, e, _, _, _, _, _, _, _⟩ := ownsRow_at (show w4.ownsRow 0 27 6 (.slice A' m cap') S.length (flatG S) from (H4.out.rot.rot).row) (by rw [HM.out]; omega)
            have eA : A' = some ⟨g, 0, none⟩ := by injection e
            subst eA
            clear e
            have hGr := Lib.hid (fun (w' : World) (h : RowG 0 w' (.slice (some ⟨g, 0, none⟩) m cap') S) => h.at HM.out.symm HX.out)
            have hG4 := hGr.out _ H4.out.rot.rot.row
            have s0 := hG4.a0
            have s1 := hG4.a1
            have s2 := hG4.a2
            have s3 := hG4.a3
            have s4 := hG4.a4
            have s5 := hG4.a5
            have y0 := Y4.out.cell 0 _ rfl
            have y1 := Y4.out.cell 1 _ rfl
            have y2 := Y4.out.cell 2 _ rfl
            have y3 := Y4.out.cell 3 _ rfl
            have y4 := Y4.out.cell 4 _ rfl
            have y5 := Y4.out.cell 5 _ rfl
            simp only at s0 s1 s2 s3 s4 s5
            clear hG4
            have CXX := CX.out
            go_quiet (fail)
            have D4 := draws_below w4 nq
            have H5 := Lib.hid (H4.out.below goodAll.out D4)
            have B5 := Lib.hid (bup B4.out D4)
            have Y5 := Lib.hid D4
            clear y0 y1 y2 y3 y4 y5 Y4 H4 B4 D4
            by_cases h1 : (c' == cl) = true
            · by_cases h2 : (u == up) = true
              · have Hon : Hid (onWay cl up ⟨c', u, ep, sq, ak, bd⟩ = true) := Lib.hid (by unfold onWay; rw [h1, h2]; rfl)
                go_wp2_with fail
                refine (CP'.out _ Hon.out H5.out.rot).mono ?_
                rintro e w5 ⟨rfl, h5, k5⟩
                have H6 := Lib.hid h5.rot.rot
                have B6 := Lib.hid (B5.out.trans (k5.belowB HFB.out B5.out.size))
                clear h5 k5 s0 s1 s2 s3 s4 s5
                go_upto_region 24 with (fail)
                have Y7 := Lib.hid (Has.new w5 (.cells #[.int .i64 c', .bool u, .int .i64 ep, .int .i64 sq, .int .i64 ak, .string bd] 27))
                have H7 := Lib.hid (H6.out.below goodAll2.out (bnew w5 (.cells #[.int .i64 c', .bool u, .int .i64 ep, .int .i64 sq, .int .i64 ak, .string bd] 27)))
                have B7 := Lib.hid (bup B6.out (bnew w5 (.cells #[.int .i64 c', .bool u, .int .i64 ep, .int .i64 sq, .int .i64 ak, .string bd] 27)))
                generalize hw7 : World.alloc w5 _ = w7
                rw [hw7] at Y7 H7 B7
                clear hw7 H6 B6
                have hG7 := hGr.out _ H7.out.rot.rot.row
                have s0 := hG7.a0
                have s1 := hG7.a1
                have s2 := hG7.a2
                have s3 := hG7.a3
                have s4 := hG7.a4
                have s5 := hG7.a5
                simp only at s0 s1 s2 s3 s4 s5
                have y0 := Y7.out.cell 0 _ rfl
                have y1 := Y7.out.cell 1 _ rfl
                have y2 := Y7.out.cell 2 _ rfl
                have y3 := Y7.out.cell 3 _ rfl
                have y4 := Y7.out.cell 4 _ rfl
                have y5 := Y7.out.cell 5 _ rfl
                clear hG7
                go_quiet (fail)
                go_wp2_with fail
                go_roundw
                case rel => exact ⟨j + 1, by omega, by go_num, Lib.hid (H7.out.below goodAll2.out (draws_below w7 _)), Lib.hid (bup B7.out (draws_below w7 _))⟩
                case measure => simp [intOf]; omega
              · have h2' : (u == up) = false := by simpa using h2
                have Hon : Hid (onWay cl up ⟨c', u, ep, sq, ak, bd⟩ = false) := Lib.hid (by unfold onWay; rw [h1, h2']; rfl)
                clear h2
                go_wp2_with fail
                go_roundw
                case rel => exact ⟨j + 1, by omega, by go_num, Lib.hid (by rw [HNo.out Hon.out]; exact H5.out), B5⟩
                case measure => simp [intOf]; omega
            · have h1' : (c' == cl) = false := by simpa using h1
              have Hon : Hid (onWay cl up ⟨c', u, ep, sq, ak, bd⟩ = false) := Lib.hid (by unfold onWay; rw [h1']; rfl)
              clear h1
              go_wp2_with fail
              go_roundw
              case rel => exact ⟨j + 1, by omega, by go_num, Lib.hid (by rw [HNo.out Hon.out]; exact H5.out), B5⟩
              case measure => simp [intOf]; omega
          · obtain rfl : j = m := by omega
            have hd : S.drop j = [] := by rw [← HM.out]; exact List.drop_length
            have HJ0 := HJ.out
            rw [hd] at HJ0
            have HJ1 := Lib.hid HJ0
            have gd2 := Star.good (NetR.good 53 (w0.heap.size + 1) (restW cl up S j)) (RowR.good (.slice A' j cap') S)
            have gd1 := Star.good (RowR.good (.slice A' j cap') S) (NetR.good 53 w0.heap.size [])
            have goodE := Lib.hid (Star.good (NetR.good 53 w0.heap.size []) gd2)
            have CE := fun w h => eldestH (F := F) gd2 w0.heap.size [] w h
            rw [pull_none] at CE
            have CP := fun w h => pickH (F := F) gd1 (w0.heap.size + 1) (restW cl up S j) cl up 0 w (by decide) (by decide) h
            rw [show restW cl up S j = restW cl up S S.length by rw [HM.out], rest_end, show restW cl up S S.length = restW cl up S j by rw [HM.out]] at CP
            simp only [Gr.val, Gr.none] at CE CP
            have CE' := Lib.hid CE
            have CP' := Lib.hid CP
            have N1 := Lib.hid (fun w => eldest_nil w)
            have N2 : Hid (∀ w, Calls Try.prog 9 #[.pointer none, .agg #[.int .i64 1, .bool true, .int .i64 0, .int .i64 0, .int .i64 0, .string ⟨#[]⟩]] w fun e w' => e = .returned (.int .i64 2) ∧ Below w.heap.size w w') := Lib.hid (fun w => put_nil (gOf ⟨#[]⟩) w)
            have N3 := Lib.hid (fun w => count_nil 1 true w)
            have N4 := Lib.hid (fun w => clear_nil 1 w)
            have N5 := Lib.hid (fun w => copy_nil 1 true 0 w)
            have N6 : Hid (∀ w, Calls Try.prog 12 #[.string ⟨#[]⟩] w fun e w' => e = .returned (.agg #[.int .i64 1, .bool true, .int .i64 0, .int .i64 0, .int .i64 0, .string ⟨#[]⟩]) ∧ Below w.heap.size w w') := Lib.hid (fun w => gram_any ⟨#[]⟩ w)
            simp only [Gr.val, Gr.none] at N1
            clear CE CP HJ HJ0 hd gd1 gd2 hj hjm
            go_wp2_with fail
            refine (CE'.out _ HJ1.out).mono ?_
            rintro e w3 ⟨rfl, h3, k3⟩
            have B3 := Lib.hid (HBJ.out.trans (k3.belowB HFB.out HBJ.out.size))
            have H3 := Lib.hid h3
            clear h3 k3
            go_wp2_with fail
            refine (CP'.out _ (H3.out.below goodE.out (bnew w3 (.cells #[.int .i64 0, .bool false, .int .i64 0, .int .i64 0, .int .i64 0, .string ⟨#[]⟩] 27))).rot).mono ?_
            rintro e w4 ⟨rfl, h4, k4⟩
            have B4 := Lib.hid ((bup B3.out (bnew w3 (.cells #[.int .i64 0, .bool false, .int .i64 0, .int .i64 0, .int .i64 0, .string ⟨#[]⟩] 27))).trans (k4.belowB HFB.out (bup B3.out (bnew w3 (.cells #[.int .i64 0, .bool false, .int .i64 0, .int .i64 0, .int .i64 0, .string ⟨#[]⟩] 27))).size))
            clear h4 k4
            go_wp2_with fail
            refine (N1.out _).mono ?_
            rintro e w5 ⟨rfl, b5⟩
            have B5 := Lib.hid (bup (bup B4.out (bnew w4 (.cells #[.int .i64 0, .bool false, .int .i64 0, .int .i64 0, .int .i64 0, .string ⟨#[]⟩] 27))) b5)
            clear b5
            go_wp2_with fail
            refine (N6.out _).mono ?_
            rintro e w6 ⟨rfl, b6⟩
            have B6 := Lib.hid (bup (bup B5.out (bnew w5 (.cells #[.int .i64 0, .bool false, .int .i64 0, .int .i64 0, .int .i64 0, .string ⟨#[]⟩] 27))) b6)
            clear b6
            go_wp2_with fail
            refine (N2.out _).mono ?_
            rintro e w7 ⟨rfl, b7⟩
            have B7 := Lib.hid (bup B6.out b7)
            clear b7
            go_wp2_with fail
            refine (N3.out _).mono ?_
            rintro e w8 ⟨rfl, b8⟩
            have B8 := Lib.hid (bup B7.out b8)
            clear b8
            go_wp2_with fail
            refine (N4.out _).mono ?_
            rintro e w9 ⟨rfl, b9⟩
            have B9 := Lib.hid (bup B8.out b9)
            clear b9
            go_wp2_with fail
            refine (N5.out _).mono ?_
            rintro e w10 ⟨rfl, b10⟩
            have B10 := Lib.hid (bup B9.out b10)
            clear b10
            go_wp2_with fail
            go_ret
            exact ⟨rfl, B0.out.trans (B10.out.mono B0.out.size)⟩
end Go.Proofs.Ytkdopflnaeejeaa
