/-
  A datagram that the reference end takes.
-/
import Derived.Test.YtgabonacpoimfaaCrTakeB
namespace Go.Proofs.Ytgabonacpoimfaa
open Go.RowKit
set_option linter.unusedVariables false
set_option linter.unusedSimpArgs false
theorem RefOut.trans {u : Nat} {rl re rl1 re1 : Option Nat} {f2 : Rf} {w w1 w2 : World} (k1 : Kept (zoneF u rl re) w w1) (hf1 : ∀ k, zoneF u rl1 re1 k → zoneF u rl re k ∨ w.heap.size ≤ k) (h2 : RefOut u rl1 re1 f2 w1 w2) : RefOut u rl re f2 w w2 := by
  obtain ⟨rl2, re2, hN, k2, hf2⟩ := h2
  refine ⟨rl2, re2, hN, k1.join k2 hf1, fun k hk => ?_⟩
  rcases hf2 k hk with h | h
  · exact hf1 k h
  · exact .inr (Nat.le_trans k1.size h)
theorem RefAt.setL {u : Nat} {rl re : Option Nat} {f : Rf} {w w6 : World} (h : RefAt w u rl re f) (k : Kept (fun j => rl = some j) w w6) {v : Value} {l : List Tx} (hR : RowT w6 v l) (hf : ∀ g, v.ownBlock = some g → rl = some g ∨ w.heap.size ≤ g) : RefOut u rl re { f with L := l } w (w6.setCell ⟨u, 1, none⟩ v) := by
  obtain ⟨A, cap, B, cbp, hp, hL, hvL, hE, hvE, _, _, _, _⟩ := h.open
  have hu := hp.lt
  have k7 : Kept (fun j => j = u) w6 (w6.setCell ⟨u, 1, none⟩ v) := Kept.but (But.set u 1 w6 _) rfl
  have hgu : ∀ g, v.ownBlock = some g → g ≠ u := fun g e1 e2 => by
    rcases hf g e1 with h1 | h1
    · exact h.n1 (by rw [h1, e2])
    · omega
  refine h.to ((k.mono (fun j e => .inr (.inl e))).trans (k7.mono (fun j e => .inl e))) (vL := v) (vE := .slice B f.E.length cbp) ?_ (hR.held k7 (fun g e1 e2 => hgu g e1 e2)) ?_ hf (fun g e => .inl (by rw [← hvE]; exact e)) (fun g e1 e2 => ?_)
  · exact (hp.held k (fun e => h.n1 e)).set 1 v
  · exact (hE.held k (fun g e1 e2 => h.n3 g e2 (by rw [← hvE]; exact e1))).held k7 (fun g e1 e2 => h.n2 (by rw [← hvE, e1, e2]))
  · have e2' : re = some g := by rw [← hvE]; exact e2
    rcases hf g e1 with h1 | h1
    · exact h.n3 g h1 e2'
    · have := h.lt g (.inr (.inr e2')); omega
theorem RefAt.setE {u : Nat} {rl re : Option Nat} {f : Rf} {w w6 : World} (h : RefAt w u rl re f) (k : Kept (fun j => re = some j) w w6) {v : Value} {l : List Tx} (hR : RowT w6 v l) (hf : ∀ g, v.ownBlock = some g → re = some g ∨ w.heap.size ≤ g) : RefOut u rl re { f with E := l } w (w6.setCell ⟨u, 4, none⟩ v) := by
  obtain ⟨A, cap, B, cbp, hp, hL, hvL, hE, hvE, _, _, _, _⟩ := h.open
  have hu := hp.lt
  have k7 : Kept (fun j => j = u) w6 (w6.setCell ⟨u, 4, none⟩ v) := Kept.but (But.set u 4 w6 _) rfl
  have hgu : ∀ g, v.ownBlock = some g → g ≠ u := fun g e1 e2 => by
    rcases hf g e1 with h1 | h1
    · exact h.n2 (by rw [h1, e2])
    · omega
  refine h.to ((k.mono (fun j e => .inr (.inr e))).trans (k7.mono (fun j e => .inl e))) (vL := .slice A f.L.length cap) (vE := v) ?_ ?_ (hR.held k7 (fun g e1 e2 => hgu g e1 e2)) (fun g e => .inl (by rw [← hvL]; exact e)) hf (fun g e1 e2 => ?_)
  · exact (hp.held k (fun e => h.n2 e)).set 4 v
  · exact (hL.held k (fun g e1 e2 => h.n3 g (by rw [← hvL]; exact e1) e2)).held k7 (fun g e1 e2 => h.n1 (by rw [← hvL, e1, e2]))
  · have e1' : rl = some g := by rw [← hvL]; exact e1
    rcases hf g e2 with h1 | h1
    · exact h.n3 g e1' h1
    · have := h.lt g (.inr (.inl e1')); omega
theorem RefAt.put {u : Nat} {rl re : Option Nat} {f0 f1 : Rf} {w1 : World} {i : Nat} {v : Value} (h : RefAt w1 u rl re f0) (hc : ∀ vL vE, (f0.cells vL vE).setIfInBounds i v = f1.cells vL vE) (hL : f1.L = f0.L) (hE : f1.E = f0.E) : RefAt (w1.setCell ⟨u, i, none⟩ v) u rl re f1 := by
  obtain ⟨⟨vL, vE, hp, h1, h2, h3, h4⟩, n1, n2, n3⟩ := h
  have k : Kept (fun j => j = u) w1 (w1.setCell ⟨u, i, none⟩ v) := Kept.but (But.set u i w1 v) rfl
  refine ⟨⟨vL, vE, ?_, ?_, h2, ?_, h4⟩, n1, n2, n3⟩
  · have := hp.set i v
    rw [hc] at this; exact this
  · rw [hL]; exact h1.held k (fun g e1 e2 => n1 (by rw [← h2, e1, e2]))
  · rw [hE]; exact h3.held k (fun g e1 e2 => n2 (by rw [← h4, e1, e2]))
def RP (u : Nat) (rl re : Option Nat) (w : World) (T : List ByteArray × Rf) (e : Ending) (w' : World) : Prop :=
  ∃ A cap, e = .returned (.tuple #[.slice A T.1.length cap, .int .i64 0]) ∧ SRow w' (.slice A T.1.length cap) T.1 ∧ RefOut u rl re T.2 w w'
def earlyT (l : List Tx) (gt : Nat) (s : Nat) (b : ByteArray) : List Tx := if (look l s).isNone ∧ gt < s then l ++ [(s, b)] else l
set_option maxRecDepth 100000 in
set_option maxHeartbeats 8000000 in
theorem rtake_core {u : Nat} {rl re : Option Nat} {w : World} {ep : Int} {L0 : List Tx} {gv gt : Nat} {ea0 : List Tx} {ow0 : Bool} (h : RefAt w u rl re ⟨ep, L0, gv, gt, ea0, ow0⟩) (c : Int) (up : Bool) (sq ak : Int) (sn an : Nat) (hs : sq = (sn : Int)) (ha : ak = (an : Int)) (bd : ByteArray)
    (r3 : an ≤ gv) (r5 : sn ≤ gt + 32) (r6 : sn = 0 → bd.size = 0) (r7 : bd.size ≤ 16384) (hn32 : L0.length ≤ 32) (hel : ea0.length ≤ 999999) (hyl : (earlyT ea0 gt sn bd).length ≤ 1000000) (hg : gv ≤ 1000000) (htg : gt ≤ 1000000)
    (hY : ∀ y ∈ earlyT ea0 gt sn bd, gt < y.1 ∧ y.1 ≤ gt + 32) (T : List ByteArray × Rf)
    (t0 : sn = 0 → T = ([], ⟨ep, aboveT L0 ak, gv, gt, ea0, ow0⟩))
    (t1 : sn ≠ 0 → T = ((drain (earlyT ea0 gt sn bd) gt).1, ⟨ep, aboveT L0 ak, gv, (drain (earlyT ea0 gt sn bd) gt).2.2, (drain (earlyT ea0 gt sn bd) gt).2.1, true⟩)) :
    Calls Try.prog 18 #[.pointer (some ⟨u, 0, none⟩), .agg #[.int .i64 c, .bool up, .int .i64 ep, .int .i64 sq, .int .i64 ak, .string bd]] w (RP u rl re w T) := by
  have HE := Lib.hid h
  obtain ⟨A, cap, B, cbp, hp, hL, hvL, hE, hvE, ha1, ha2, hb1, hb2⟩ := h.open
  simp only at hp hL hvL hE hvE ha1 hb1
  have hp : Has w u (.cells #[.int .i64 ep, .slice A L0.length cap, .int .i64 (gv : Int), .int .i64 (gt : Int), .slice B ea0.length cbp, .bool ow0] 36) := hp
  obtain ⟨n, hn⟩ : ∃ n, L0.length = n := ⟨_, rfl⟩
  rw [hn] at hp hL hvL ha1 hn32
  have HT0 := Lib.hid t0
  have HT1 := Lib.hid t1
  have HY := Lib.hid hY
  obtain ⟨gb, hgb⟩ : ∃ gb, w.heap.size = gb := ⟨_, rfl⟩
  have P1 := Lib.hid (hp.alloc (.cells #[.int .i64 c, .bool up, .int .i64 ep, .int .i64 sq, .int .i64 ak, .string bd] 29))
  have Z1 := Lib.hid (Has.new w (.cells #[.int .i64 c, .bool up, .int .i64 ep, .int .i64 sq, .int .i64 ak, .string bd] 29))
  have B1 := Lib.hid (bnew w (.cells #[.int .i64 c, .bool up, .int .i64 ep, .int .i64 sq, .int .i64 ak, .string bd] 29))
  have hpl := hp.lt
  have CA : Hid (∀ w', Below w.heap.size w w' → Calls Try.prog 28 #[.slice A n cap, .int .i64 ak] w' fun e w'' => ∃ A' cap', e = .returned (.slice A' (aboveT L0 ak).length cap') ∧ RowT w'' (.slice A' (aboveT L0 ak).length cap') (aboveT L0 ak) ∧ (∀ g, (Value.slice A' (aboveT L0 ak).length cap').ownBlock = some g → w'.heap.size ≤ g) ∧ Below w'.heap.size w' w'') := Lib.hid (fun w' b => above_any A n cap _ ak w' (ownsRow_below hL b) hn.symm (by omega))
  have hes := empty_size bd
  have he := fun d => empty_eq d
  obtain ⟨L1, hL1⟩ : ∃ L1, aboveT L0 ak = L1 := ⟨_, rfl⟩
  rw [hL1] at HT0 HT1 CA
  have hug : u ≠ gb := by omega
  clear hp h hL hE hvL hvE hn hb1 hb2 ha1 ha2 t0 t1 hY hL1
  obtain ⟨G, hG⟩ : ∃ G : Nat, G = gt + 32 := ⟨_, rfl⟩
  have hw : IntKind.i64.wrap ((gt : Int) + 32) = (G : Int) := by
    have h : IntKind.i64.wrap ((gt : Int) + 32) = (gt : Int) + 32 := IntWalk.i64_in _ (by omega)
    rw [h]; omega
  have c1' : (ep != ep) = false := by simp
  have f3 : decide (sq < 0) = false := by simp; omega
  have f1 : decide (ak < 0) = false := by simp; omega
  have f2 : decide ((gv : Int) < ak) = false := by simp; omega
  have f4 : decide ((G : Int) < sq) = false := by simp; omega
  have HS := Lib.hid hs
  have HAK := Lib.hid ha
  clear hs ha
  go_enter Try.func18, Try.ntmps18
  go_upto_region 3 with (fail)
  rw [hgb] at Z1
  generalize World.alloc w _ = w1 at P1 Z1 B1 ⊢
  have p0 := P1.out.cell 0 _ rfl
  have x2 := Z1.out.cell 2 _ rfl
  go_quiet (fail)
  go_upto_region 5 with (fail)
  have P2 := Lib.hid (P1.out.below (draws_below w1 nq))
  have Z2 := Lib.hid (Z1.out.below (draws_below w1 nq))
  have B2 := Lib.hid (bup B1.out (draws_below w1 nq))
  generalize World.drewN w1 nq = w2 at P2 Z2 B2 ⊢
  clear p0 x2 P1 Z1 B1
  have p2 := P2.out.cell 2 _ rfl
  have p3 := P2.out.cell 3 _ rfl
  have x3 := Z2.out.cell 3 _ rfl
  have x4 := Z2.out.cell 4 _ rfl
  have x5 := Z2.out.cell 5 _ rfl
  go_cut [56] from 13 to 164 (fun v56 wx => v56 = .bool false ∧ Hid (Has wx u (.cells #[.int .i64 ep, .slice A n cap, .int .i64 (gv : Int), .int .i64 (gt : Int), .slice B ea0.length cbp, .bool ow0] 36)) ∧ Hid (Has wx gb (.cells #[.int .i64 c, .bool up, .int .i64 ep, .int .i64 sq, .int .i64 ak, .string bd] 29)) ∧ Hid (Below w.heap.size w wx))
  case first =>
    by_cases a5 : sn = 0
    · have f5 : (sq == 0) = true := by rw [HS.out, a5]; rfl
      have f6 : bd.toList.isEmpty = true := by rw [hes]; exact decide_eq_true (r6 a5)
      have f7 : bd.toList = [] := by simpa using f6
      clear a5 r5 r6 hes hG
      go_quiet (fail)
      go_wp2_with fail
      go_meet
      exact ⟨rfl, Lib.hid (P2.out.below (draws_below _ _)), Lib.hid (Z2.out.below (draws_below _ _)), Lib.hid (bup B2.out (draws_below _ _))⟩
    · have f5 : (sq == 0) = false := by rw [HS.out]; simpa using a5
      clear a5 r5 r6 hes hG
      go_quiet (fail)
      go_wp2_with fail
      go_meet
      exact ⟨rfl, Lib.hid (P2.out.below (draws_below _ _)), Lib.hid (Z2.out.below (draws_below _ _)), Lib.hid (bup B2.out (draws_below _ _))⟩
  case rest =>
    obtain ⟨rfl, P3, Z3, B3⟩ := hcut
    clear p2 p3 x3 x4 x5 P2 Z2 B2 hes
    have x5 := Z3.out.cell 5 _ rfl
    go_upto_region 9 with (fail)
    have CA1 := Lib.hid (CA.out _ (B3.out.drew))
    go_cut [] from 13 to 164 (fun wx => Hid (RefOut u rl re ⟨ep, L1, gv, gt, ea0, ow0⟩ w wx) ∧ Hid (Has wx gb (.cells #[.int .i64 c, .bool up, .int .i64 ep, .int .i64 sq, .int .i64 ak, .string bd] 29)))
    case first =>
      clear x5
      have p1 := P3.out.cell 1 _ rfl
      have x4 := Z3.out.cell 4 _ rfl
      have hpl3 := P3.out.lt
      go_upto_region 9 with (fail)
      go_region_with (go_at_call 28; ((with_reducible refine CA1.out.mono ?_)); rintro e w5 ⟨A5, cap5, rfl, hR5, hF5, hB5⟩; have P5 := P3.out.below ((Below.refl _ wc).drew.trans hB5); have p51 := P5.cell 1 _ rfl; have pf51 := P5.free 1; have hpl5 := P5.lt; have R5' := Lib.hid hR5; have F5' := Lib.hid hF5; have B5' := Lib.hid hB5; have P5' := Lib.hid P5; clear hR5 hF5 hB5 P5)
      all_goals
        go_wp2_with fail
        go_meet
        exact ⟨Lib.hid (HE.out.setL (Kept.of ((B3.out.drew).trans (B5'.out.mono B3.out.drew.size))) R5'.out (fun g e => .inr (Nat.le_trans B3.out.drew.size (F5'.out g e)))), Lib.hid ((Z3.out.below ((Below.refl _ wc).drew.trans B5'.out)).held (S := fun j => j = u) (Kept.but (But.set u 1 w5 (.slice A5 L1.length cap5)) rfl) (fun e => hug e.symm))⟩
    case rest =>
      obtain ⟨HO, Z6⟩ := hcut
      clear x5 P3 Z3 B3 CA1 CA
      obtain ⟨rl1, re1, hN6, hK6, hF6⟩ := HO.out
      have N6 := Lib.hid hN6
      have K6 := Lib.hid hK6
      have F6 := Lib.hid hF6
      have x3 := Z6.out.cell 3 _ rfl
      have hgl6 := Z6.out.lt
      by_cases a5 : sn = 0
      · have f5 : (sq == 0) = true := by rw [HS.out, a5]; rfl
        have HTT := Lib.hid (HT0.out a5)
        clear a5 hN6 hK6 hF6
        go_wp2_with fail
        go_ret2
        rw [HTT.out]
        exact ⟨_, _, rfl, SRow.empty _ _ _ (Has.new _ _), HO.out.below (bnew _ _)⟩
      · have f5 : (sq == 0) = false := by rw [HS.out]; simpa using a5
        have HTT := Lib.hid (HT1.out a5)
        have hul6 : u < wc.heap.size := hN6.lt u (.inl rfl)
        obtain ⟨A1, cap1, B1, cb1, hp6, _, _, hE6, hvE6, _, _, _, _⟩ := hN6.open
        have hp6 : Has wc u (.cells #[.int .i64 ep, .slice A1 L1.length cap1, .int .i64 (gv : Int), .int .i64 (gt : Int), .slice B1 ea0.length cb1, .bool ow0] 36) := hp6
        have P6 := Lib.hid hp6
        have p5 := hp6.cell 5 _ rfl
        have pf5 := hp6.free 5
        clear a5 hN6 hK6 hF6 hp6 hE6
        obtain ⟨b0, hb0⟩ : ∃ b0, wc.heap.size = b0 := ⟨_, rfl⟩
        have HB0 := Lib.hid hb0
        rw [hb0] at hgl6 hul6
        have BN := Lib.hid (bnew wc (.cells #[] 9))
        have S7 := Lib.hid (Has.new wc (.cells #[] 9))
        go_upto_region 13 with (fail)
        go_cut [] from 13 to 164 (fun wx => Hid (RefAt wx u rl1 re1 ⟨ep, L1, gv, gt, ea0, true⟩) ∧ Hid (Has wx gb (.cells #[.int .i64 c, .bool up, .int .i64 ep, .int .i64 sq, .int .i64 ak, .string bd] 29)) ∧ Hid (Has wx b0 (.cells #[] 9)) ∧ Hid (Kept (zoneF u rl re) w wx))
        case first =>
          go_wp2_with fail
          go_meet
          have hub : u ≠ b0 := by omega
          exact ⟨Lib.hid ((N6.out.put (i := 5) (v := .bool true) (f1 := ⟨ep, L1, gv, gt, ea0, true⟩) (fun _ _ => rfl) rfl rfl).below (bnew _ _)), Lib.hid ((Z6.out.held (S := fun j => j = u) (Kept.but (But.set u 5 _ _) rfl) (fun e => hug e.symm)).below (bnew _ _)), Lib.hid (by have := Has.new (wc.setCell ⟨u, 5, none⟩ (.bool true)) (.cells #[] 9); rw [World.size_setCell, HB0.out] at this; exact this), Lib.hid ((K6.out.trans (Kept.but (But.set u 5 wc (.bool true)) (.inl rfl))).trans (Kept.of (bnew _ _)))⟩
        case rest =>
          obtain ⟨N8, Z8, S8, K8⟩ := hcut
          have hzb : ∀ k, zoneF u rl1 re1 k → k < b0 := fun k hk => by rw [← hb0]; exact N6.out.lt k hk
          have hwb : w.heap.size ≤ b0 := by rw [← hb0]; exact K6.out.size
          have HZB := Lib.hid hzb
          have HWB := Lib.hid hwb
          clear hzb hwb hb0 P6 p5 pf5 x3 hul6 hgl6 N6 Z6 K6 HB0 BN S7 HO hvE6
          rename_i wo _
          obtain ⟨A2, cap2, B2, cb2, hp8, _, _, hE8, hvE8, _, _, hbc, hbc2⟩ := N8.out.open
          simp only at hE8 hvE8 hbc
          have hp8 : Has wc u (.cells #[.int .i64 ep, .slice A2 L1.length cap2, .int .i64 (gv : Int), .int .i64 (gt : Int), .slice B2 ea0.length cb2, .bool true] 36) := hp8
          have P8 := Lib.hid hp8
          have p3 := hp8.cell 3 _ rfl
          have p4 := hp8.cell 4 _ rfl
          have z3 := Z8.out.cell 3 _ rfl
          have z5 := Z8.out.cell 5 _ rfl
          have hplc := hp8.lt
          have E8 := Lib.hid hE8
          have VE8 := Lib.hid hvE8
          have CF : Hid (∀ k, Calls Try.prog 29 #[.slice B2 ea0.length cb2, .int .i64 sq] (wc.drewN k) fun e w'' => e = .returned (.tuple #[.string ((look ea0 sn).getD ⟨#[]⟩), .bool (look ea0 sn).isSome]) ∧ ∃ m, w'' = wc.drewN m) := Lib.hid (fun k => by
            rw [HS.out]
            exact (find_any B2 ea0.length cb2 ea0 sn (wc.drewN k) (ownsRow_below hE8 (draws_below wc k)) rfl (by omega)).mono (fun e w'' ⟨h1, h2⟩ => ⟨h1, k, h2.symm⟩))
          clear hp8 hE8 hvE8 hbc hbc2
          obtain ⟨Y, hYe⟩ : ∃ Y, earlyT ea0 gt sn bd = Y := ⟨_, rfl⟩
          rw [hYe] at HTT HY hyl
          have HYE := Lib.hid hYe
          clear hYe
          go_step
          go_step
          go_cut [] from 7 to 164 (fun wx => Hid (∃ rl2 re2, RefAt wx u rl2 re2 ⟨ep, L1, gv, gt, Y, true⟩ ∧ (∀ k, zoneF u rl2 re2 k → zoneF u rl1 re1 k ∨ b0 < k)) ∧ Hid (Has wx b0 (.cells #[] 9)) ∧ Hid (Kept (zoneF u rl re) w wx))
          case first =>
            obtain ⟨lk, hl⟩ : ∃ lk, look ea0 sn = lk := ⟨_, rfl⟩
            have hYe := HYE.out
            unfold earlyT at hYe
            rw [hl] at CF hYe
            have HYE := Lib.hid hYe
            clear hYe hl
            cases lk with
            | some v =>
              have HYY : Hid (Y = ea0) := Lib.hid (by rw [← HYE.out, if_neg (by simp)])
              simp only [Option.getD_some, Option.isSome_some] at CF
              go_upto_region 14 with (fail)
              go_quiet ((go_at_call 29; exact CF.out _))
              go_upto_region 15 with (fail)
              go_quiet (fail)
              go_wp2_with fail
              go_meet
              rw [HYY.out]
              exact ⟨Lib.hid ⟨rl1, re1, N8.out.below (draws_below _ _), fun k h => .inl h⟩, Lib.hid (S8.out.below (draws_below _ _)), Lib.hid (K8.out.trans (Kept.of (draws_below _ _)))⟩
            | none =>
              simp only [Option.getD_none, Option.isSome_none] at CF
              by_cases hsg : gt < sn
              · have HYY : Hid (Y = ea0 ++ [(sn, bd)]) := Lib.hid (by rw [← HYE.out, if_pos ⟨rfl, hsg⟩])
                have hdec : decide ((gt : Int) < sq) = true := by rw [HS.out]; simpa using hsg
                clear hsg
                go_upto_region 14 with (fail)
                go_quiet ((go_at_call 29; exact CF.out _))
                go_upto_region 15 with (fail)
                go_quiet (fail)
                go_upto_region 16 with (fail)
                have HB5 := Lib.hid (fun x y => bup (draws_below wc x) (draws_below (World.drewN wc x) y))
                generalize hw5 : World.drewN (World.drewN wc _) _ = w5
                have B5 : Hid (Below wc.heap.size wc w5) := Lib.hid (by rw [← hw5]; exact HB5.out _ _)
                clear hw5 p3 p4 z3 z5 HB5 CF
                have P5 := Lib.hid (P8.out.below B5.out)
                have p4' := P5.out.cell 4 _ rfl
                have z3' := (Z8.out.below B5.out).cell 3 _ rfl
                have z5' := (Z8.out.below B5.out).cell 5 _ rfl
                have hpl5 := P5.out.lt
                have hgl5 := (Z8.out.below B5.out).lt
                have HRow : Hid ((w5.alloc (.cells #[.int .i64 sq, .string bd] 68)).drew.ownsRow 0 68 2 (.slice B2 ea0.length cb2) ea0.length (flatT ea0)) := Lib.hid (ownsRow_below E8.out (bup B5.out (bnew w5 _).drew))
                have HNew := Lib.hid (news_one (w := w5) (cs := #[.int .i64 sq, .string bd]) (te := 68))
                have HPK : Hid (∀ w6, World.grownBy (w5.alloc (.cells #[.int .i64 sq, .string bd] 68)).drew w6 (Value.slice B2 ea0.length cb2).ownBlock → Has w6 u (.cells #[.int .i64 ep, .slice A2 L1.length cap2, .int .i64 (gv : Int), .int .i64 (gt : Int), .slice B2 ea0.length cb2, .bool true] 36)) := Lib.hid (fun w6 g => (P5.out.below (bnew w5 _).drew).held (S := fun k => re1 = some k) (Kept.grown g (fun j e => by rw [← VE8.out]; exact e)) (fun e => N8.out.n2 e))
                go_region_law ((refine step_grow_own (w := (w5.alloc (.cells #[.int .i64 sq, .string bd] 68)).drew) textElem (by rfl) (.tmp 104) (.tmp 110) (by rfl) (.slice B2 ea0.length cb2) ea0.length (flatT ea0) (by rfl) HRow.out (some ⟨w5.heap.size, 0, none⟩) 1 1 [.int .i64 sq, .string bd] (by rfl) rfl (.inr ⟨_, rfl, HNew.out⟩) (by simp [Value.oneCell']) (by omega) (by omega) ?_; intro v6 w6 R6 g6 f6; have P6 := HPK.out w6 g6; have p64 := P6.cell 4 _ rfl; have pf4 := P6.free 4; have hpl6 := P6.lt; obtain ⟨A6, cap6, rfl, h61, h62⟩ := ownsRow_form R6; have R6' := Lib.hid R6; have g6' := Lib.hid g6; have f6' := Lib.hid f6; clear R6 g6 f6 P6))
                all_goals
                  go_wp2_with fail
                  go_meet
                  have k6 : Kept (fun j => re1 = some j) w5 w6 := (Kept.of (bnew w5 _).drew).trans (Kept.grown g6'.out (fun j e => by rw [← VE8.out]; exact e))
                  have r6 : RowT w6 (.slice A6 (ea0.length + 1) cap6) Y := by
                    rw [HYY.out]
                    unfold RowT
                    rw [List.length_append, flatT_append]
                    have := R6'.out
                    rw [HS.out] at this
                    exact this
                  have hbw : b0 < w5.heap.size := (S8.out.below B5.out).lt
                  obtain ⟨rl2, re2, hN9, hK9, hF9⟩ := (N8.out.below B5.out).setE k6 r6 (fun g e => by
                    rcases f6'.out g e with h3 | h3
                    · exact .inl (by rw [← VE8.out]; exact h3)
                    · exact .inr (by simp at h3; omega))
                  refine ⟨Lib.hid ⟨rl2, re2, hN9, fun k hk => ?_⟩, Lib.hid ((S8.out.below B5.out).held hK9 (fun e => by
                    have := HZB.out b0 e; omega)), Lib.hid (K8.out.join ((Kept.of B5.out).trans hK9) (fun k hk => F6.out k hk))⟩
                  rcases hF9 k hk with h | h
                  · exact .inl h
                  · exact .inr (by omega)
              · have HYY : Hid (Y = ea0) := Lib.hid (by rw [← HYE.out, if_neg (by simp [hsg])])
                have hdec : decide ((gt : Int) < sq) = false := by rw [HS.out]; simp; omega
                clear hsg
                go_upto_region 14 with (fail)
                go_quiet ((go_at_call 29; exact CF.out _))
                go_upto_region 15 with (fail)
                go_quiet (fail)
                go_wp2_with fail
                go_meet
                rw [HYY.out]
                exact ⟨Lib.hid ⟨rl1, re1, N8.out.below (draws_below _ _), fun k h => .inl h⟩, Lib.hid (S8.out.below (draws_below _ _)), Lib.hid (K8.out.trans (Kept.of (draws_below _ _)))⟩
          case rest =>
            obtain ⟨HN9, S9, K9⟩ := hcut
            clear N8 Z8 S8 K8 P8 E8 VE8 CF p3 p4 z3 z5 hplc HYE
            obtain ⟨rl2, re2, hN9, hF9⟩ := HN9.out
            obtain ⟨A3, cap3, B3, cb3, hp9, hL9, hvL9, hE9, hvE9, _, _, _, _⟩ := hN9.open
            simp only at hE9 hvE9 hL9 hvL9
            have hp9 : Has wc u (.cells #[.int .i64 ep, .slice A3 L1.length cap3, .int .i64 (gv : Int), .int .i64 (gt : Int), .slice B3 Y.length cb3, .bool true] 36) := hp9
            have P9 := Lib.hid hp9
            have N9 := Lib.hid hN9
            have VL9 := Lib.hid hvL9
            have VE9 := Lib.hid hvE9
            have F9 := Lib.hid hF9
            have hbl := S9.out.lt
            have hz9 : ∀ k, zoneF u rl2 re2 k → k ≠ b0 := fun k hk e => by
              rcases hF9 k hk with h | h
              · have := HZB.out k h; omega
              · omega
            have HZ9 := Lib.hid hz9
            have HE9 : Hid (∀ wr, Kept (fun j => j = u ∨ j = b0 ∨ wc.heap.size ≤ j) wc wr → RowT wr (.slice B3 Y.length cb3) Y) := Lib.hid (fun wr k => hE9.held k (fun g e1 e2 => by
              have hzr : zoneF u rl2 re2 g := .inr (.inr (by rw [← hvE9]; exact e1))
              have := hN9.lt g hzr
              rcases e2 with e2 | e2 | e2
              · exact hN9.n2 (by rw [← hvE9, e1, e2])
              · exact hz9 g hzr e2
              · omega))
            have HL9 : Hid (∀ wr, Kept (fun j => j = u ∨ j = b0 ∨ wc.heap.size ≤ j) wc wr → RowT wr (.slice A3 L1.length cap3) L1) := Lib.hid (fun wr k => hL9.held k (fun g e1 e2 => by
              have hzr : zoneF u rl2 re2 g := .inr (.inl (by rw [← hvL9]; exact e1))
              have := hN9.lt g hzr
              rcases e2 with e2 | e2 | e2
              · exact hN9.n1 (by rw [← hvL9, e1, e2])
              · exact hz9 g hzr e2
              · omega))
            have hYL : Y.length ≤ 1000000 := hyl
            have CFN : Hid (∀ (g' : Nat) wr, Kept (fun j => j = u ∨ j = b0 ∨ wc.heap.size ≤ j) wc wr → ∀ k, Calls Try.prog 29 #[.slice B3 Y.length cb3, .int .i64 ((g' + 1 : Nat) : Int)] (wr.drewN k) fun e w'' => e = .returned (.tuple #[.string ((look Y (g' + 1)).getD ⟨#[]⟩), .bool (look Y (g' + 1)).isSome]) ∧ ∃ m, w'' = wr.drewN m) := Lib.hid (fun g' wr kk k => (find_any B3 Y.length cb3 Y (g' + 1) (wr.drewN k) (ownsRow_below (HE9.out wr kk) (draws_below wr k)) rfl (by omega)).mono (fun e w'' ⟨h1, h2⟩ => ⟨h1, k, h2.symm⟩))
            have hub : u ≠ b0 := hz9 u (.inl rfl)
            clear hN9 hF9 HN9 hp9 hL9 hvL9 hE9 hvE9 hz9
            have p3 := P9.out.cell 3 _ rfl
            have p4 := P9.out.cell 4 _ rfl
            have hplc := P9.out.lt
            obtain ⟨g1, hg1⟩ : ∃ g1 : Nat, gt + 1 = g1 := ⟨_, rfl⟩
            have hsum : IntKind.i64.wrap ((gt : Int) + 1) = (g1 : Int) := by
              have h : IntKind.i64.wrap ((gt : Int) + 1) = (gt : Int) + 1 := IntWalk.i64_in _ (by omega)
              rw [h]; omega
            have CF0 := Lib.hid (CFN.out gt wc (Kept.refl _ _))
            rw [hg1] at CF0
            have HG1 := Lib.hid hg1
            clear hg1
            go_upto_region 17 with (fail)
            go_quiet ((go_at_call 29; exact CF0.out _))
            go_wp2_with fail
            clear hsum CF0 p3 p4
            rename_i nq9
            have HG1' := HG1.out
            go_loopw [6, 9, 10] (fun ov sv bv wr => ∃ (g' : Nat) (o : List ByteArray) (A' : Option Addr) (cap' : Nat), gt ≤ g' ∧ g' ≤ gt + 32 ∧ o.length ≤ g' ∧ ov = .slice A' o.length cap' ∧ sv = .string ((look Y (g' + 1)).getD ⟨#[]⟩) ∧ bv = .bool (look Y (g' + 1)).isSome ∧ Hid (Drn Y gt o g') ∧ Hid (SRow wr (.slice A' o.length cap') o) ∧ Hid (∀ g, (Value.slice A' o.length cap').ownBlock = some g → g = b0 ∨ wc.heap.size ≤ g) ∧ Hid (Has wr u (.cells #[.int .i64 ep, .slice A3 L1.length cap3, .int .i64 (gv : Int), .int .i64 (g' : Int), .slice B3 Y.length cb3, .bool true] 36)) ∧ Hid (Kept (fun j => j = u ∨ j = b0 ∨ wc.heap.size ≤ j) wc wr)) (fun _ _ _ wr => gt + 33 - gotOf u wr)
            case atStart =>
              have hd := HG1.out
              refine ⟨gt, [], some ⟨b0, 0, none⟩, 0, by omega, by omega, by simp, rfl, by rw [hd], by rw [hd], Lib.hid (Drn.start (fun y hy => (HY.out y hy).1)), Lib.hid ((SRow.empty wc b0 _ S9.out).below (draws_below _ _)), Lib.hid (fun g e => by cases e; exact .inl rfl), Lib.hid (P9.out.below (draws_below _ _)), Lib.hid (Kept.of (draws_below _ _))⟩
            case round =>
              obtain ⟨g', o, A', cap', hg1, hg2, hol, rfl, rfl, rfl, HD, HO9, HF, HP, HK⟩ := hrel
              clear HG1'
              obtain ⟨lk, hl⟩ : ∃ lk, look Y (g' + 1) = lk := ⟨_, rfl⟩
              have q3 := HP.out.cell 3 _ rfl
              have qf3 := HP.out.free 3
              have q4 := HP.out.cell 4 _ rfl
              have hpl4 := HP.out.lt
              have HGO : Hid (gotOf u wr = g') := Lib.hid (by unfold gotOf; rw [q3]; simp)
              have HL := Lib.hid hl
              rw [hl]
              clear hl
              cases lk with
              | some s =>
                simp only [Option.getD_some, Option.isSome_some]
                have hgs : g' + 1 ≤ gt + 32 := (HY.out (g' + 1, s) (look_mem HL.out)).2
                obtain ⟨g1, hg1e⟩ : ∃ g1 : Nat, g' + 1 = g1 := ⟨_, rfl⟩
                obtain ⟨g2, hg2e⟩ : ∃ g2 : Nat, g1 + 1 = g2 := ⟨_, rfl⟩
                have hsum : IntKind.i64.wrap ((g' : Int) + 1) = (g1 : Int) := by
                  have h : IntKind.i64.wrap ((g' : Int) + 1) = (g' : Int) + 1 := IntWalk.i64_in _ (by omega)
                  rw [h]; omega
                have hsum2 : IntKind.i64.wrap ((g1 : Int) + 1) = (g2 : Int) := by
                  have h : IntKind.i64.wrap ((g1 : Int) + 1) = (g1 : Int) + 1 := IntWalk.i64_in _ (by omega)
                  rw [h]; omega
                have HST := Lib.hid (HD.out.step HL.out)
                have HG1 := Lib.hid hg1e
                have HG2 := Lib.hid hg2e
                rw [hg1e] at HST
                have hg1b : g1 ≤ 2000000 := by omega
                clear hg1e hg2e
                have HRow1 := Lib.hid (HO9.out.below (bnew wr (.cells #[.string s] 9)))
                have HNew := Lib.hid (Src.one (Has.new wr (.cells #[.string s] 9)) 1)
                have HPP : Hid (∀ w6, World.grownBy (wr.alloc (.cells #[.string s] 9)) w6 (Value.slice A' o.length cap').ownBlock → Has w6 u (.cells #[.int .i64 ep, .slice A3 L1.length cap3, .int .i64 (gv : Int), .int .i64 (g' : Int), .slice B3 Y.length cb3, .bool true] 36)) := Lib.hid (fun w6 g => (HP.out.alloc _).held (S := fun k => k = b0 ∨ wc.heap.size ≤ k) (Kept.grown g (fun j e => HF.out j e)) (fun e => by rcases e with e | e <;> omega))
                clear q3 qf3 q4 hpl4
                go_wp2_with (at_builtin; refine wpList_srow_append rfl (.tmp 128) (.tmp 130) rfl _ (.slice A' o.length cap') o rfl HRow1.out _ rfl [s] HNew.out (by simp only [List.length_cons, List.length_nil]; omega) ?_; intro v6 w6 R6 g6 f6; have P6 := HPP.out w6 g6; have p63 := P6.cell 3 _ rfl; have pf63 := P6.free 3; have hpl6 := P6.lt; obtain ⟨A6, cap6, rfl, h61, h62⟩ := R6.form; have R6' := Lib.hid R6; have g6' := Lib.hid g6; have f6' := Lib.hid f6; have PP6 := Lib.hid P6; clear R6 g6 f6 P6)
                have K7 : Hid (Kept (fun j => j = u ∨ j = b0 ∨ wc.heap.size ≤ j) wc (w6.setCell ⟨u, 3, none⟩ (.int .i64 (g1 : Int)))) := Lib.hid (((HK.out.trans (Kept.of (bnew wr _))).trans (Kept.grown g6'.out (fun j e => .inr (HF.out j e)))).trans (Kept.but (But.set u 3 w6 _) (.inl rfl)))
                have P7 : Hid (Has (w6.setCell ⟨u, 3, none⟩ (.int .i64 (g1 : Int))) u (.cells #[.int .i64 ep, .slice A3 L1.length cap3, .int .i64 (gv : Int), .int .i64 (g1 : Int), .slice B3 Y.length cb3, .bool true] 36)) := Lib.hid (PP6.out.set 3 (.int .i64 (g1 : Int)))
                have F7 : Hid (∀ g, (Value.slice A6 (o ++ [s]).length cap6).ownBlock = some g → g = b0 ∨ wc.heap.size ≤ g) := Lib.hid (fun g e => by
                  rcases f6'.out g e with h3 | h3
                  · exact HF.out g h3
                  · have := HK.out.size; simp at h3; exact .inr (by omega))
                have R7 : Hid (SRow (w6.setCell ⟨u, 3, none⟩ (.int .i64 (g1 : Int))) (.slice A6 (o ++ [s]).length cap6) (o ++ [s])) := Lib.hid (R6'.out.held (S := fun j => j = u) (Kept.but (But.set u 3 w6 _) rfl) (fun g e1 e2 => by
                  rcases F7.out g e1 with h | h <;> omega))
                have HLE : Hid ((o ++ [s]).length = o.length + 1) := Lib.hid (by rw [List.length_append]; rfl)
                generalize World.setCell w6 _ _ = w7 at K7 P7 R7 ⊢
                have CF1 := Lib.hid (CFN.out g1 w7 K7.out)
                rw [HG2.out] at CF1
                clear R6' g6' f6' PP6 p63 pf63 hpl6 HPP HNew HRow1 HP HK
                have q3 := P7.out.cell 3 _ rfl
                have q4 := P7.out.cell 4 _ rfl
                have hpl7 := P7.out.lt
                go_quiet ((go_at_call 29; exact CF1.out _))
                go_wp2_with fail
                go_roundw
                case rel =>
                  have e1 := HG1.out
                  have e2 := HG2.out
                  refine ⟨g1, o ++ [s], A6, cap6, by omega, by omega, by rw [HLE.out]; omega, by rw [HLE.out], by rw [e2], by rw [e2], HST, Lib.hid (R7.out.below (draws_below _ _)), F7, Lib.hid (P7.out.below (draws_below _ _)), Lib.hid (K7.out.trans (Kept.of (draws_below _ _)))⟩
                case measure =>
                  have e1 := HG1.out
                  have hx : gotOf u (w7.drewN nq) = g1 := by
                    unfold gotOf
                    rw [(P7.out.below (draws_below w7 nq)).cell 3 _ rfl]
                    simp
                  rw [hx, HGO.out]
                  omega
              | none =>
                simp only [Option.getD_none, Option.isSome_none]
                obtain ⟨hd1, hd2, hd3⟩ := HD.out.stop HL.out
                have HTT' := HTT.out
                rw [hd1, hd2, hd3] at HTT'
                have HT9 := Lib.hid HTT'
                clear hd1 hd2 hd3 HTT'
                have NR : Hid (RefAt wr u rl2 re2 ⟨ep, L1, gv, g', Y, true⟩) := Lib.hid ⟨⟨_, _, HP.out, HL9.out wr HK.out, VL9.out, HE9.out wr HK.out, VE9.out⟩, N9.out.n1, N9.out.n2, N9.out.n3⟩
                have CA2 := Lib.hid (above_any B3 Y.length cb3 Y (g' : Int) wr.drew (ownsRow_below (HE9.out wr HK.out) (Below.refl _ wr).drew) rfl (by omega))
                obtain ⟨L9, hL9⟩ : ∃ L9, aboveT Y (g' : Int) = L9 := ⟨_, rfl⟩
                rw [hL9] at CA2 HT9
                clear hL9
                have hgb2 : g' ≤ 2000000 := by omega
                go_upto_region 22 with (fail)
                go_region_with (go_at_call 28; ((with_reducible refine CA2.out.mono ?_)); rintro e w5 ⟨A5, cap5, rfl, hR5, hF5, hB5⟩; have P5 := HP.out.below ((Below.refl _ wr).drew.trans hB5); have p54 := P5.cell 4 _ rfl; have pf54 := P5.free 4; have hpl5 := P5.lt; have R5' := Lib.hid hR5; have F5' := Lib.hid hF5; have B5' := Lib.hid hB5; clear hR5 hF5 hB5 P5)
                all_goals
                  go_wp2_with fail
                  go_ret2
                  rw [HT9.out]
                  have hB : Below wr.heap.size wr w5 := (Below.refl _ wr).drew.trans B5'.out
                  have ho := NR.out.setE (Kept.of hB) R5'.out (fun g e => .inr (F5'.out g e))
                  refine ⟨A', cap', rfl, (HO9.out.below hB).held (S := fun j => j = u) (Kept.but (But.set u 4 w5 _) rfl) (fun g e1 e2 => by rcases HF.out g e1 with h | h <;> omega), RefOut.trans (K9.out.join HK.out (fun k hk => ?_)) (fun k hk => ?_) ho⟩
                  · rcases hk with h | h | h
                    · exact .inl (.inl h)
                    · exact .inr (by have := HWB.out; omega)
                    · exact .inr (Nat.le_trans K9.out.size h)
                  · rcases F9.out k hk with h | h
                    · exact F6.out k h
                    · exact .inr (by have := HWB.out; omega)
end Go.Proofs.Ytgabonacpoimfaa
