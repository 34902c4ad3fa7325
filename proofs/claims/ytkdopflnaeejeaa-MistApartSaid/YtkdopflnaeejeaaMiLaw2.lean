/-
  The walk of a statement of layer 13: what is done on one way changes no other one.
-/
import Derived.Test.YtkdopflnaeejeaaMiLaw1
import Derived.OpenShut
import Derived.Deep.DeepMust
namespace Go.Proofs.Ytkdopflnaeejeaa
open Go.RowKit
set_option linter.unusedVariables false
set_option linter.unusedSimpArgs false

theorem mod3_form (x : Int) : ∃ a : Nat, a < 3 ∧ wrap64 ((IntKind.u64.wrap x).tmod 3) = a := by
  have h0 : 0 ≤ IntKind.u64.wrap x := by rw [IntKind.wrap_u64]; omega
  rw [Int.tmod_eq_emod_of_nonneg h0]
  refine ⟨((IntKind.u64.wrap x) % 3).toNat, by omega, ?_⟩
  rw [IntWalk.wrap64_in _ ⟨by omega, by omega⟩]
  omega
theorem modm_form (x : Int) (m : Nat) (h0 : 0 < m) (hm : m ≤ 100000) : ∃ a : Nat, a < m ∧ wrap64 ((IntKind.u64.wrap x).tmod (m : Int)) = a := by
  have h0' : 0 ≤ IntKind.u64.wrap x := by rw [IntKind.wrap_u64]; omega
  rw [Int.tmod_eq_emod_of_nonneg h0']
  have h1 := Int.emod_lt_of_pos (IntKind.u64.wrap x) (show (0 : Int) < m by omega)
  have h2 := Int.emod_nonneg (IntKind.u64.wrap x) (show (m : Int) ≠ 0 by omega)
  refine ⟨((IntKind.u64.wrap x) % m).toNat, by omega, ?_⟩
  rw [IntWalk.wrap64_in _ ⟨by omega, by omega⟩]
  omega
set_option maxRecDepth 100000 in
set_option maxHeartbeats 8000000 in
theorem MistApart_walk (A : Option Addr) (n c : Nat) (l : List Gr) (w : World) (I : IsG w A n c l) (at1 : Int) (hw1 : (Lit.int .i64 at1).wf = true) (tw : Int) (_ : (Lit.int .i64 tw).wf = true) :
    Calls Try.prog 4 #[.slice A n c, .int .i64 at1, .int .i64 tw] w fun e w' => e = .returned (.bool true) ∧ Below w.heap.size w w' := by
  have CA := Lib.hid (fun w => mistAwake_any w)
  have H := Lib.hid I
  have hcap := I.cap
  have hmost := I.most
  have ha1 : -9223372036854775808 ≤ at1 ∧ at1 ≤ 9223372036854775807 := bounds_i64 hw1
  have HA := Lib.hid ha1
  clear I ha1 hw1
  go_enter Try.func4, Try.ntmps4
  go_wp2_with fail
  refine (CA.out _).mono ?_
  rintro e w0 ⟨rfl, b0⟩
  have B0 := Lib.hid b0
  clear b0
  go_wp2_with (go_at_call 8; (with_reducible refine (new_any _).mono ?_); rintro e w1 ⟨rfl, rfl⟩)
  obtain ⟨F, hF⟩ : ∃ F : Nat → Prop, F = fun k => k < w0.heap.size := ⟨_, rfl⟩
  have HFB : Hid (∀ k, k < w0.heap.size → F k) := Lib.hid (fun k hk => by rw [hF]; exact hk)
  have HH : Hid (Held F (Star (NetR 53 w0.heap.size []) (RowR (.slice (some ⟨w0.heap.size + 1, 0, none⟩) 0 0) [])) ((w0.alloc (.cells #[.slice none 0 0] 53)).alloc (.cells #[] 27))) := Lib.hid (by
    have h1 := Held.newNet Emp.good (Held.emp (F := F) (w := w0) (fun k hk => by rw [hF] at hk; exact hk)) 53
    have h3 := Held.newRow (Star.good (NetR.good _ _ _) Emp.good) h1
    simp only [World.size_alloc] at h3
    exact (h3.turn (fun Z h => h.mono (fun _ x => x) (fun _ => Star.emp))).comm)
  have B1 : Hid (Below w0.heap.size w0 ((w0.alloc (.cells #[.slice none 0 0] 53)).alloc (.cells #[] 27))) := Lib.hid (bup (bnew w0 _) (bnew _ _))
  have HI := Lib.hid (H.out.below B0.out)
  have gdA := Lib.hid (fun S v W => Star.good (NetR.good 53 w0.heap.size S) (RowR.good v W))
  clear hF H CA
  go_loopw [8, 9] (fun v i wr => ∃ (k m : Nat) (S W : List Gr) (A' : Option Addr) (cap' : Nat), k ≤ n ∧ k ≤ 60 ∧ m ≤ k ∧ m ≤ cap' ∧ cap' ≤ 9223372036854775807 ∧ i = .int .i64 k ∧ v = .slice A' m cap' ∧ Hid (S.length = k) ∧ Hid (W.length = m) ∧ Hid (S.filter (onWay 2 true) = W) ∧ Hid (Held F (Star (NetR 53 w0.heap.size S) (RowR (.slice A' m cap') W)) wr) ∧ Hid (Below w0.heap.size w0 wr)) (fun _ i _ => n - (intOf i).toNat)
  case atStart => exact ⟨0, 0, [], [], _, _, by omega, by omega, by omega, by omega, by omega, rfl, rfl, Lib.hid rfl, Lib.hid rfl, Lib.hid rfl, HH, B1⟩
  case round =>
    obtain ⟨k, m, S, W, A', cap', hk, hk2, hm, hm2, hm3, rfl, rfl, HL, HM, HW, HS, HB⟩ := hrel
    clear HH B1
    by_cases hlt : k < n ∧ k < 60
    · obtain ⟨hlt, hlt2⟩ := hlt
      obtain ⟨b, off, x, rfl, hx, hs, hG⟩ := grams_at HI.out hlt
      have hG0 := hG.below hG.lt HB.out
      obtain ⟨c', u, ep, sq, ak, bd⟩ := x
      have d0 := hG0.a0
      have d1 := hG0.a1
      have d2 := hG0.a2
      have d3 := hG0.a3
      have d4 := hG0.a4
      have d5 := hG0.a5
      simp only at d0 d1 d2 d3 d4 d5
      simp only at hs
      obtain ⟨a, ha, hae⟩ := mod3_form c'
      clear hG hx hG0
      by_cases hbig : 4096 < bd.size
      · clear hae
        go_wp2_with fail
        go_ret
        exact ⟨rfl, B0.out.trans (HB.out.mono B0.out.size)⟩
      · have hbig' : bd.size ≤ 4096 := by omega
        clear hbig
        have CP := fun F w h => putH (F := F) (RowR.good (.slice A' m cap') W) w0.heap.size S ⟨1 + (a : Int), u, ep, sq, ak, bd⟩ w (by rw [HL.out]; omega) h
        rw [put_there (x := ⟨1 + (a : Int), u, ep, sq, ak, bd⟩) ⟨by show (1 : Int) ≤ 1 + a; omega, by show 1 + (a : Int) ≤ 8; omega⟩ (by rw [HL.out]; omega)] at CP
        simp only [Gr.val] at CP
        have CP' := Lib.hid CP
        clear CP
        go_wp2_with fail
        have Y3 := Lib.hid (Has.new wr (.cells #[.int .i64 (1 + (a : Int)), .bool u, .int .i64 ep, .int .i64 sq, .int .i64 ak, .string bd] 27))
        have H3 : Hid (Held (fun k => F k ∨ k = wr.heap.size) (Star (NetR 53 w0.heap.size S) (RowR (.slice A' m cap') W)) (wr.alloc (.cells #[.int .i64 (1 + (a : Int)), .bool u, .int .i64 ep, .int .i64 sq, .int .i64 ak, .string bd] 27))) := Lib.hid (HS.out.more (gdA.out _ _ _) (bnew wr _) (fun j hj => hj.imp id (fun e => by subst e; simp)))
        have B3 := Lib.hid (bup HB.out (bnew wr (.cells #[.int .i64 (1 + (a : Int)), .bool u, .int .i64 ep, .int .i64 sq, .int .i64 ak, .string bd] 27)))
        refine (CP'.out _ _ H3.out).mono ?_
        rintro e w4 ⟨rfl, h4, k4⟩
        have Y4 := Lib.hid (Y3.out.keptF k4 (.inr rfl))
        have H4 := Lib.hid (h4.less (G := F) (fun j hj => .inl hj))
        have B4 := Lib.hid (B3.out.trans (k4.belowB (fun j hj => .inl (HFB.out j hj)) B3.out.size))
        clear h4 k4 H3 Y3 B3 d0 d1 d2 d3 d4 d5
        have x0 := Y4.out.cell 0 _ rfl
        have x1 := Y4.out.cell 1 _ rfl
        have x2 := Y4.out.cell 2 _ rfl
        have x3 := Y4.out.cell 3 _ rfl
        have x4 := Y4.out.cell 4 _ rfl
        have x5 := Y4.out.cell 5 _ rfl
        by_cases h1 : ((1 + (a : Int)) == 2) = true
        · cases u with
          | true =>
            have HW' : Hid ((S ++ [(⟨1 + (a : Int), true, ep, sq, ak, bd⟩ : Gr)]).filter (onWay 2 true) = W ++ [(⟨1 + (a : Int), true, ep, sq, ak, bd⟩ : Gr)]) := Lib.hid (by rw [List.filter_append, HW.out]; simp [onWay]; simpa using h1)
            have HR : Hid ((w4.alloc (.cells #[.int .i64 (1 + (a : Int)), .bool true, .int .i64 ep, .int .i64 sq, .int .i64 ak, .string bd] 27)).ownsRow 0 27 6 (.slice A' m cap') m (flatG W)) := Lib.hid (by
              have := (H4.out.comm.row.held (S := fun _ => False) (Kept.of (bnew w4 (.cells #[.int .i64 (1 + (a : Int)), .bool true, .int .i64 ep, .int .i64 sq, .int .i64 ak, .string bd] 27))) (fun _ _ e => e))
              unfold RowG at this
              rw [HM.out] at this
              exact this)
            have HNew := Lib.hid (news_at (Has.new w4 (.cells #[.int .i64 (1 + (a : Int)), .bool true, .int .i64 ep, .int .i64 sq, .int .i64 ak, .string bd] 27)))
            go_wp2_with (at_builtin; refine grow_own gramElem rfl (.tmp 58) (.tmp 60) rfl _ _ m (flatG W) rfl HR.out (some ⟨w4.heap.size, 0, none⟩) 1 1 [.int .i64 (1 + (a : Int)), .bool true, .int .i64 ep, .int .i64 sq, .int .i64 ak, .string bd] rfl rfl (.inr ⟨_, rfl, HNew.out⟩) (by simp [Value.oneCell']) (by omega) (by omega) ?_; intro v6 w6 R6 g6 f6; obtain ⟨A6, cap6, rfl, h61, h62⟩ := ownsRow_form R6; have R6' := Lib.hid R6; have g6' := Lib.hid g6; have f6' := Lib.hid f6; clear R6 g6 f6)
            have hm6 := Held.rowMore (q := W) (x := ⟨1 + (a : Int), true, ep, sq, ak, bd⟩) (NetR.good 53 w0.heap.size (S ++ [(⟨1 + (a : Int), true, ep, sq, ak, bd⟩ : Gr)])) H4.out.comm (by rw [HM.out]; exact R6'.out) g6'.out f6'.out
            have H6 := Lib.hid hm6.1.comm
            have B6 := Lib.hid (B4.out.trans (hm6.2.belowB HFB.out B4.out.size))
            clear hm6 R6' g6' f6'
            go_roundw
            case rel => exact ⟨k + 1, m + 1, S ++ [(⟨1 + (a : Int), true, ep, sq, ak, bd⟩ : Gr)], W ++ [(⟨1 + (a : Int), true, ep, sq, ak, bd⟩ : Gr)], A6, cap6, by omega, by omega, by omega, h61, h62, by go_num, rfl, Lib.hid (by rw [List.length_append, HL.out]; rfl), Lib.hid (by rw [List.length_append, HM.out]; rfl), HW', H6, B6⟩
            case measure => simp [intOf]; omega
          | false =>
            have HW' : Hid ((S ++ [(⟨1 + (a : Int), false, ep, sq, ak, bd⟩ : Gr)]).filter (onWay 2 true) = W) := Lib.hid (by rw [List.filter_append, HW.out]; simp [onWay])
            go_wp2_with fail
            go_roundw
            case rel => exact ⟨k + 1, m, S ++ [(⟨1 + (a : Int), false, ep, sq, ak, bd⟩ : Gr)], W, A', cap', by omega, by omega, by omega, hm2, hm3, by go_num, rfl, Lib.hid (by rw [List.length_append, HL.out]; rfl), HM, HW', H4, B4⟩
            case measure => simp [intOf]; omega
        · have h1' : ((1 + (a : Int)) == 2) = false := by simpa using h1
          have HW' : Hid ((S ++ [(⟨1 + (a : Int), u, ep, sq, ak, bd⟩ : Gr)]).filter (onWay 2 true) = W) := Lib.hid (by rw [List.filter_append, HW.out]; simp [onWay]; intro e; rw [e] at h1'; simp at h1')
          clear h1
          go_wp2_with fail
          go_roundw
          case rel => exact ⟨k + 1, m, S ++ [(⟨1 + (a : Int), u, ep, sq, ak, bd⟩ : Gr)], W, A', cap', by omega, by omega, by omega, hm2, hm3, by go_num, rfl, Lib.hid (by rw [List.length_append, HL.out]; rfl), HM, HW', H4, B4⟩
          case measure => simp [intOf]; omega
    · have hk4 : n ≤ k ∨ 60 ≤ k := by omega
      have C20 : Hid (∀ (x : Gr) w, (binOp .neq 27 x.val x.val).run Try.prog w = .ok (.bool false) w) := Lib.hid (fun x w => by rw [grNeqBin, grEq_self]; rfl)
      have p1 := pick_apart (c := 1) (c' := 2) (u := true) (u' := true) (.inl (by decide)) S at1
      have CP1 := fun w h => pickH (F := F) (RowR.good (.slice A' m cap') W) w0.heap.size S 1 true at1 w HA.out.1 HA.out.2 h
      obtain ⟨R1, hR1⟩ : ∃ R, pickG S 1 true at1 = R := ⟨_, rfl⟩
      rw [hR1] at p1 CP1
      obtain ⟨S1, g1, t1⟩ := R1
      simp only at p1 CP1
      obtain ⟨f1, l1⟩ := p1
      replace f1 := f1.trans HW.out
      have l1 := l1.length_le
      rw [HL.out] at l1
      have p2 := copy_apart (c := 1) (c' := 2) (u := false) (u' := true) (.inl (by decide)) S1 at1
      have CP2 := fun w h => copyH (F := F) (RowR.good (.slice A' m cap') W) w0.heap.size S1 1 false at1 w (by omega) HA.out.1 HA.out.2 h
      obtain ⟨R2, hR2⟩ : ∃ R, copyG S1 1 false at1 = R := ⟨_, rfl⟩
      rw [hR2] at p2 CP2
      obtain ⟨S2, t2⟩ := R2
      simp only at p2 CP2
      obtain ⟨f2, l2, _⟩ := p2
      replace f2 := f2.trans f1
      have p3 := pick_apart (c := 2) (c' := 2) (u := false) (u' := true) (.inr (by decide)) S2 at1
      have CP3 := fun w h => pickH (F := F) (RowR.good (.slice A' m cap') W) w0.heap.size S2 2 false at1 w HA.out.1 HA.out.2 h
      obtain ⟨R3, hR3⟩ : ∃ R, pickG S2 2 false at1 = R := ⟨_, rfl⟩
      rw [hR3] at p3 CP3
      obtain ⟨S3, g3, t3⟩ := R3
      simp only at p3 CP3
      obtain ⟨f3, l3⟩ := p3
      replace f3 := f3.trans f2
      have l3 := l3.length_le
      have p4 := clear_apart 3 2 true S3
      have p5 := (clear_apart 3 2 true S3).2.1
      have CP4 := fun w h => clearH (F := F) (RowR.good (.slice A' m cap') W) w0.heap.size S3 3 w h
      obtain ⟨R4, hR4⟩ : ∃ R, clearG S3 3 = R := ⟨_, rfl⟩
      rw [hR4] at p4 p5 CP4
      obtain ⟨S4, t4⟩ := R4
      simp only at p4 p5 CP4
      obtain ⟨f4, f5, l4⟩ := p4
      replace f4 := (f4 (by decide)).trans f3
      have HW4 := Lib.hid f4
      have HZ4 := Lib.hid f5
      have l64 : S4.length ≤ 62 := by omega
      have HC1 := Lib.hid CP1
      have HC2 := Lib.hid CP2
      have HC3 := Lib.hid CP3
      have HC4 := Lib.hid CP4
      have HL4 := Lib.hid l64
      clear CP1 CP2 CP3 CP4 f1 f2 f3 f4 f5 l1 l2 l3 l4 p5 hR1 hR2 hR3 hR4 l64 HW HI
      by_cases hkn : k < n
      all_goals
        have hk3 : ¬ (k < n ∧ k < 60) := hlt
        first | (have hk5 : 60 ≤ k := by omega) | skip
        clear hlt
        go_wp2_with fail
        refine (HC1.out _ HS.out).mono ?_
        rintro e w3 ⟨rfl, h3, k3⟩
        have B3 := Lib.hid (HB.out.trans (k3.belowB HFB.out HB.out.size))
        have H3 := Lib.hid h3
        clear h3 k3
        go_wp2_with fail
        refine (HC2.out _ H3.out).mono ?_
        rintro e w4 ⟨rfl, h4, k4⟩
        have B4 := Lib.hid (B3.out.trans (k4.belowB HFB.out B3.out.size))
        have H4 := Lib.hid h4
        clear h4 k4
        go_wp2_with fail
        refine (HC3.out _ H4.out).mono ?_
        rintro e w5 ⟨rfl, h5, k5⟩
        have B5 := Lib.hid (B4.out.trans (k5.belowB HFB.out B4.out.size))
        have H5 := Lib.hid h5
        clear h5 k5
        go_wp2_with fail
        refine (HC4.out _ H5.out).mono ?_
        rintro e w6 ⟨rfl, h6, k6⟩
        have B6 := Lib.hid (B5.out.trans (k6.belowB HFB.out B5.out.size))
        have H6 := Lib.hid h6
        clear h6 k6 H3 H4 H5 B3 B4 B5 HC1 HC2 HC3 HC4
        by_cases hm0 : 0 < m
        · obtain ⟨b, hb, hbe⟩ := modm_form tw m hm0 (by omega)
          obtain ⟨y, hy⟩ : ∃ y, W[b]? = some y := ⟨_, List.getElem?_eq_getElem (by rw [HM.out]; exact hb)⟩
          have CP5 := fun w h => copyH (F := F) (RowR.good (.slice A' m cap') W) w0.heap.size S4 2 true (b : Int) w (by have := HL4.out; omega) (by omega) (by omega) h
          rw [copy_there HW4.out hy (by decide) (by rw [HM.out]; omega)] at CP5
          have HW5 : Hid ((S4 ++ [y]).filter (onWay 2 true) = W ++ [y]) := Lib.hid (by
            have hyo : onWay 2 true y = true := by
              have : y ∈ S4.filter (onWay 2 true) := by rw [HW4.out]; exact List.mem_of_getElem? hy
              exact (List.mem_filter.1 this).2
            rw [List.filter_append, HW4.out]; simp [hyo])
          have HZ5 : Hid ((S4 ++ [y]).filter (onWay 3 true) = []) := Lib.hid (by
            have hyo : onWay 2 true y = true := by
              have : y ∈ S4.filter (onWay 2 true) := by rw [HW4.out]; exact List.mem_of_getElem? hy
              exact (List.mem_filter.1 this).2
            rw [List.filter_append, HZ4.out]
            have h2 : y.cl = 2 := by simp [onWay] at hyo; exact hyo.1
            simp [onWay, h2])
          have HM5 : Hid ((W ++ [y]).length = m + 1) := Lib.hid (by rw [List.length_append, HM.out]; rfl)
          have HCP := Lib.hid CP5
          clear CP5
          go_wp2_with fail
          refine (HCP.out _ H6.out).mono ?_
          rintro e w7 ⟨rfl, h7, k7⟩
          have B7 := Lib.hid (B6.out.trans (k7.belowB HFB.out B6.out.size))
          have H7 := Lib.hid h7
          clear h7 k7
          obtain ⟨g, o, eA, hG7⟩ : ∃ g o, A' = some ⟨g, o, none⟩ ∧ GrIn w7 g (o + b * 6) y := (IsGrams.of_row (by rw [HM.out]; exact H7.out.comm.row)).2.2.2 b y hy
          subst eA
          have HR : Hid ((w7.alloc (.cells y.row 27)).ownsRow 0 27 6 (.slice (some ⟨g, o, none⟩) m cap') m (flatG W)) := Lib.hid (by
            have := (H7.out.comm.row.held (S := fun _ => False) (Kept.of (bnew w7 (.cells y.row 27))) (fun _ _ e => e))
            unfold RowG at this
            rw [HM.out] at this
            exact this)
          have HNew := Lib.hid (news_at (Has.new w7 (.cells y.row 27)))
          have Hgd := Lib.hid (NetR.good 53 w0.heap.size (S4 ++ [y]))
          have HRM := Lib.hid (fun (w' : World) (v' : Value) r g f => Held.rowMore (w' := w') (v' := v') (q := W) (x := y) (cs := y.row) (te := 27) Hgd.out H7.out.comm r g f)
          have HyB := Lib.hid hy
          obtain ⟨c', u, ep, sq, ak, bd⟩ := y
          have d0 := hG7.a0
          have d1 := hG7.a1
          have d2 := hG7.a2
          have d3 := hG7.a3
          have d4 := hG7.a4
          have d5 := hG7.a5
          simp only at d0 d1 d2 d3 d4 d5
          simp only [Gr.row] at HR HNew HRM
          clear hy hG7
          have hmc : m + 1 ≤ 9223372036854775807 := by omega
          go_wp2_with (at_builtin; go_must (refine grow_own gramElem rfl (.tmp 87) (.tmp 92) rfl _ _ m (flatG W) rfl HR.out (some ⟨w7.heap.size, 0, none⟩) 1 1 [.int .i64 c', .bool u, .int .i64 ep, .int .i64 sq, .int .i64 ak, .string bd] rfl rfl (.inr ⟨_, rfl, HNew.out⟩) (by simp [Value.oneCell']) (by omega) (by omega) ?_; intro v8 w8 R8 g8 f8; obtain ⟨A8, cap8, rfl, h81, h82⟩ := ownsRow_form R8; have R8' := Lib.hid R8; have g8' := Lib.hid g8; have f8' := Lib.hid f8; clear R8 g8 f8))
          have hm8 := HRM.out w8 _ (by rw [HM.out]; exact R8'.out) g8'.out f8'.out
          have H8 := Lib.hid hm8.1.comm
          have B8 := Lib.hid (B7.out.trans (hm8.2.belowB HFB.out B7.out.size))
          clear hm8 R8' g8' f8' H7 B7 HRM HR HNew
          obtain ⟨wo, hwo⟩ : ∃ wo : World, wo = w0 := ⟨_, rfl⟩
          go_loopw [12] (fun i wr => ∃ (j : Nat) (L : List Gr), j ≤ (m + 1) ∧ i = .int .i64 j ∧ Hid (L.filter (onWay 2 true) = (W ++ [(⟨c', u, ep, sq, ak, bd⟩ : Gr)]).drop j) ∧ Hid (L.filter (onWay 3 true) = []) ∧ Hid (Held F (Star (NetR 53 w0.heap.size L) (RowR (.slice A8 (m + 1) cap8) ((W ++ [(⟨c', u, ep, sq, ak, bd⟩ : Gr)])))) wr) ∧ Hid (Below w0.heap.size w0 wr)) (fun i _ => (m + 1) - (intOf i).toNat)
          case atStart => exact ⟨0, (S4 ++ [(⟨c', u, ep, sq, ak, bd⟩ : Gr)]), by omega, rfl, Lib.hid (HW5.out.trans List.drop_zero.symm), HZ5, H8, B8⟩
          case round =>
            obtain ⟨j, L, hj, rfl, HLW, HLZ, HJ, HBJ⟩ := hrel
            clear H8 B8 HW5 HZ5
            by_cases hjm : j < (m + 1)
            · obtain ⟨x, hx⟩ : ∃ x, ((W ++ [(⟨c', u, ep, sq, ak, bd⟩ : Gr)]))[j]? = some x := ⟨_, List.getElem?_eq_getElem (by rw [HM5.out]; exact hjm)⟩
              have hfx : L.filter (onWay 2 true) = x :: ((W ++ [(⟨c', u, ep, sq, ak, bd⟩ : Gr)])).drop (j + 1) := by
                rw [HLW.out, List.drop_eq_getElem_cons (by rw [HM5.out]; exact hjm), (List.getElem?_eq_some_iff.1 hx).2]
              obtain ⟨L', hp, hf, hs⟩ := pick_head hfx
              have HZ' := Lib.hid (sub_none hs HLZ.out)
              have HF' := Lib.hid hf
              have CP := fun w h => pickH (F := F) (RowR.good (.slice A8 (m + 1) cap8) ((W ++ [(⟨c', u, ep, sq, ak, bd⟩ : Gr)]))) w0.heap.size L 2 true 0 w (by decide) (by decide) h
              rw [hp] at CP
              have CX := Lib.hid (fun w => C20.out x w)
              have gdx := Lib.hid (gdA.out L' (.slice A8 (m + 1) cap8) ((W ++ [(⟨c', u, ep, sq, ak, bd⟩ : Gr)])))
              obtain ⟨cX, uX, eX, sX, aX, bX⟩ := x
              simp only [Gr.val] at CP CX
              have CP' := Lib.hid CP
              have HX := Lib.hid hx
              clear CP hx hfx hp hf hs
              go_wp2_with fail
              refine (CP'.out _ HJ.out).mono ?_
              rintro e w13 ⟨rfl, h13, k13⟩
              have B13 := Lib.hid (HBJ.out.trans (k13.belowB HFB.out HBJ.out.size))
              have H13 := Lib.hid h13
              clear h13 k13
              go_upto_region 29 with (fail)
              have Y14 := Lib.hid (Has.new w13 (.cells #[.int .i64 cX, .bool uX, .int .i64 eX, .int .i64 sX, .int .i64 aX, .string bX] 27))
              have H14 := Lib.hid (H13.out.below gdx.out (bnew w13 (.cells #[.int .i64 cX, .bool uX, .int .i64 eX, .int .i64 sX, .int .i64 aX, .string bX] 27)))
              have B14 := Lib.hid (bup B13.out (bnew w13 (.cells #[.int .i64 cX, .bool uX, .int .i64 eX, .int .i64 sX, .int .i64 aX, .string bX] 27)))
              generalize hw14 : World.alloc w13 _ = w14
              rw [hw14] at Y14 H14 B14
              clear hw14 H13 B13
              obtain ⟨g, o, eA, hG14⟩ : ∃ g o, A8 = some ⟨g, o, none⟩ ∧ GrIn w14 g (o + j * 6) ⟨cX, uX, eX, sX, aX, bX⟩ := (IsGrams.of_row (by rw [HM5.out]; exact H14.out.comm.row)).2.2.2 j _ HX.out
              subst eA
              have s0 := hG14.a0
              have s1 := hG14.a1
              have s2 := hG14.a2
              have s3 := hG14.a3
              have s4 := hG14.a4
              have s5 := hG14.a5
              have y0 := Y14.out.cell 0 _ rfl
              have y1 := Y14.out.cell 1 _ rfl
              have y2 := Y14.out.cell 2 _ rfl
              have y3 := Y14.out.cell 3 _ rfl
              have y4 := Y14.out.cell 4 _ rfl
              have y5 := Y14.out.cell 5 _ rfl
              simp only at s0 s1 s2 s3 s4 s5
              clear hG14
              have CXX := CX.out
              go_quiet (fail)
              go_wp2_with fail
              go_roundw
              case rel => exact ⟨j + 1, L', by omega, by go_num, HF', HZ', Lib.hid (H14.out.below gdx.out (draws_below w14 _)), Lib.hid (bup B14.out (draws_below w14 _))⟩
              case measure => simp [intOf]; omega
            · obtain ⟨hjm⟩ : Nonempty (j = (m + 1)) := ⟨by omega⟩
              have hd : ((W ++ [(⟨c', u, ep, sq, ak, bd⟩ : Gr)])).drop j = [] := List.drop_of_length_le (by rw [HM5.out]; omega)
              have hc2 : cnt 2 true L = 0 := by unfold cnt; rw [HLW.out, hd]; rfl
              have hc3 : cnt 3 true L = 0 := by unfold cnt; rw [HLZ.out]; rfl
              have CN2 := fun w h => countH (F := F) (RowR.good (.slice A8 (m + 1) cap8) ((W ++ [(⟨c', u, ep, sq, ak, bd⟩ : Gr)]))) w0.heap.size L 2 true w h
              have CN3 := fun w h => countH (F := F) (RowR.good (.slice A8 (m + 1) cap8) ((W ++ [(⟨c', u, ep, sq, ak, bd⟩ : Gr)]))) w0.heap.size L 3 true w h
              rw [hc2] at CN2
              rw [hc3] at CN3
              have HN2 := Lib.hid CN2
              have HN3 := Lib.hid CN3
              have hjl : (m + 1) ≤ j := by omega
              clear CN2 CN3 hd hc2 hc3 hjm
              go_wp2_with fail
              refine (HN2.out _ HJ.out).mono ?_
              rintro e w13 ⟨rfl, h13, b13⟩
              have H13 := Lib.hid h13
              have B13 := Lib.hid (bup HBJ.out b13)
              clear h13 b13
              go_wp2_with fail
              refine (HN3.out _ H13.out).mono ?_
              rintro e w14 ⟨rfl, h14, b14⟩
              go_wp2_with fail
              go_ret
              exact ⟨rfl, B0.out.trans ((bup B13.out b14).mono B0.out.size)⟩
        · obtain rfl : m = 0 := by omega
          have HM0 := HM
          go_wp2_with fail
          obtain ⟨wo, hwo⟩ : ∃ wo : World, wo = w0 := ⟨_, rfl⟩
          go_loopw [12] (fun i wr => ∃ (j : Nat) (L : List Gr), j ≤ 0 ∧ i = .int .i64 j ∧ Hid (L.filter (onWay 2 true) = W.drop j) ∧ Hid (L.filter (onWay 3 true) = []) ∧ Hid (Held F (Star (NetR 53 w0.heap.size L) (RowR (.slice A' 0 cap') (W))) wr) ∧ Hid (Below w0.heap.size w0 wr)) (fun i _ => 0 - (intOf i).toNat)
          case atStart => exact ⟨0, S4, by omega, rfl, Lib.hid (HW4.out.trans List.drop_zero.symm), HZ4, H6, B6⟩
          case round =>
            obtain ⟨j, L, hj, rfl, HLW, HLZ, HJ, HBJ⟩ := hrel
            clear H6 B6 HW4 HZ4
            by_cases hjm : j < 0
            · exact absurd hjm (by omega)
            · obtain ⟨hjm⟩ : Nonempty (j = 0) := ⟨by omega⟩
              have hd : (W).drop j = [] := List.drop_of_length_le (by rw [HM0.out]; omega)
              have hc2 : cnt 2 true L = 0 := by unfold cnt; rw [HLW.out, hd]; rfl
              have hc3 : cnt 3 true L = 0 := by unfold cnt; rw [HLZ.out]; rfl
              have CN2 := fun w h => countH (F := F) (RowR.good (.slice A' 0 cap') (W)) w0.heap.size L 2 true w h
              have CN3 := fun w h => countH (F := F) (RowR.good (.slice A' 0 cap') (W)) w0.heap.size L 3 true w h
              rw [hc2] at CN2
              rw [hc3] at CN3
              have HN2 := Lib.hid CN2
              have HN3 := Lib.hid CN3
              have hjl : 0 ≤ j := by omega
              clear CN2 CN3 hd hc2 hc3 hjm
              go_wp2_with fail
              refine (HN2.out _ HJ.out).mono ?_
              rintro e w13 ⟨rfl, h13, b13⟩
              have H13 := Lib.hid h13
              have B13 := Lib.hid (bup HBJ.out b13)
              clear h13 b13
              go_wp2_with fail
              refine (HN3.out _ H13.out).mono ?_
              rintro e w14 ⟨rfl, h14, b14⟩
              go_wp2_with fail
              go_ret
              exact ⟨rfl, B0.out.trans ((bup B13.out b14).mono B0.out.size)⟩

end Go.Proofs.Ytkdopflnaeejeaa
