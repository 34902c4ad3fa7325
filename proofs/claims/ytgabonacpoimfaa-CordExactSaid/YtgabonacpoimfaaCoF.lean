/-
  A datagram comes that can be of the session.
-/
import Derived.Test.YtgabonacpoimfaaCoE
namespace Go.Proofs.Ytgabonacpoimfaa
open Go.RowKit
set_option linter.unusedVariables false
set_option linter.unusedSimpArgs false
section
variable {p : Nat} {r : Option Nat} {mb : Nat} {E : En} {w : World}
theorem EndAt.mapped {e : En} {w6 : World} (h : EndAt w p r mb e) (b6 : But mb w w6) {n' : Nat} {l' : List (Nat × ByteArray)} (m6 : MapAt w6 mb n' l') : EndAt w6 p r mb { e with ea := l', tk := n' } := by
  obtain ⟨⟨v, hp, hr, hv⟩, hm, hn⟩ := h
  exact ⟨⟨v, hp.but b6 hn.1, hr.held (S := fun k => k = mb) (Kept.but b6 rfl) (fun g e1 e2 => hn.2.2 (by rw [← hv, e1, e2])), hv⟩, m6, hn⟩
def gotOf (p : Nat) (w : World) : Nat := match w.cell? ⟨p, 3, none⟩ with
  | some (.int _ x) => x.toNat
  | _ => 0
theorem EndAt.got {e : En} (h : EndAt w p r mb e) : gotOf p w = e.gt := by
  obtain ⟨A, cap, hp, _⟩ := h.open
  unfold gotOf
  rw [hp.cell 3 _ rfl]
  simp
set_option maxRecDepth 100000 in
set_option maxHeartbeats 8000000 in
theorem ctake_good (h : EndAt w p r mb E) (hok : E.ok) (x : Gr) (hg : E.gv ≤ 1000000) (ht : E.tk ≤ 1000000) (hb : rightE E x = 0) :
    Calls Try.prog 17 #[.pointer (some ⟨p, 0, none⟩), x.val] w (TakePost p r mb (takeE E x) w) := by
  obtain ⟨r1, r2, r3, r4, r5, r6, r7⟩ := right_ok hb
  have hgt : E.gt ≤ 1000000 := by have := hok.tk; omega
  have HA : Hid (ackE E x = E.op.drop (E.op.length - (E.gv - x.ak.toNat))) := Lib.hid rfl
  have HT := Lib.hid (show takeE E x = if x.sq = 0 then ({ E with op := ackE E x }, [], 0) else ({ E with op := ackE E x, ow := true, ea := (drain (earlyE E x) E.gt).2.1, gt := (drain (earlyE E x) E.gt).2.2, tk := E.tk + 1 }, (drain (earlyE E x) E.gt).1, 0) by unfold takeE; rw [if_neg (by rw [hb]; simp)])
  have HEY := Lib.hid (show earlyE E x = if (look E.ea x.sq.toNat).isNone ∧ (E.gt : Int) < x.sq then E.ea ++ [(x.sq.toNat, x.bd)] else E.ea from rfl)
  obtain ⟨T, hT⟩ : ∃ T, takeE E x = T := ⟨_, rfl⟩
  obtain ⟨Y, hY⟩ : ∃ T, earlyE E x = T := ⟨_, rfl⟩
  obtain ⟨Q, hQ⟩ : ∃ T, ackE E x = T := ⟨_, rfl⟩
  rw [hT, hY, hQ] at HT
  rw [hY] at HEY
  rw [hQ] at HA
  rw [hT]
  obtain ⟨c, u, ep, sq, ak, bd⟩ := x
  simp only at r1 r2 r3 r4 r5 r6 r7 HA HT HEY
  have CR := Lib.hid (cright_any (h.below (bnew w (.cells #[.int .i64 c, .bool u, .int .i64 ep, .int .i64 sq, .int .i64 ak, .string bd] 29))) ⟨c, u, ep, sq, ak, bd⟩ hg hgt)
  rw [hb] at CR
  simp only [Gr.val] at CR ⊢
  obtain ⟨A, cap, hp, hrow, hv, h1, h2⟩ := h.open
  obtain ⟨gv, hgv⟩ : ∃ n, E.gv = n := ⟨_, rfl⟩
  obtain ⟨n, hn⟩ : ∃ n, E.op.length = n := ⟨_, rfl⟩
  obtain ⟨a, rfl⟩ : ∃ a : Nat, ak = a := ⟨ak.toNat, by omega⟩
  obtain ⟨s, rfl⟩ : ∃ s : Nat, sq = s := ⟨sq.toNat, by omega⟩
  simp only [Int.toNat_natCast] at HA HEY
  have hs6 : s ≤ 2000000 := by omega
  rw [hgv] at hp r3 hg HA
  rw [hn] at hp h1 HA hrow hv
  have HN := Lib.hid hn
  have HGV := Lib.hid hgv
  have hgn : n ≤ gv := by have := hok.op; omega
  have ha : a ≤ gv := by omega
  obtain ⟨d, hd⟩ : ∃ d : Nat, d = gv - a := ⟨_, rfl⟩
  have hsum1 : IntKind.i64.wrap ((gv : Int) - (a : Int)) = (d : Int) := by
    have h : IntKind.i64.wrap ((gv : Int) - (a : Int)) = (gv : Int) - (a : Int) := IntWalk.i64_in _ (by omega)
    rw [h]; omega
  rw [← hd] at HA
  have HOK := Lib.hid hok
  have HE := Lib.hid h
  have HP := Lib.hid hp
  have HRow := Lib.hid hrow
  have HV := Lib.hid hv
  have HD := Lib.hid hd
  have hpl := hp.lt
  have HR6 := Lib.hid r6
  clear hT hY hQ hb h hp hrow hv hgv hn hd hok r1 r2 r3 r4 r6
  go_enter Try.func17, Try.ntmps17
  go_wp2_with fail
  refine CR.out.mono ?_
  rintro e w2 ⟨rfl, b2⟩
  have Z2 := Lib.hid ((Has.new w (.cells #[.int .i64 c, .bool u, .int .i64 ep, .int .i64 (s : Int), .int .i64 (a : Int), .string bd] 29)).below b2)
  have B2 := Lib.hid (bup (bnew w (.cells #[.int .i64 c, .bool u, .int .i64 ep, .int .i64 (s : Int), .int .i64 (a : Int), .string bd] 29)) b2)
  clear b2
  go_upto_region 4 with (fail)
  have p2 := (HP.out.below B2.out).cell 2 _ rfl
  have z4 := Z2.out.cell 4 _ rfl
  go_quiet (fail)
  have Z3 := Lib.hid (Z2.out.draws nq)
  have B3 := Lib.hid (bup B2.out (draws_below w2 nq))
  clear p2 z4 Z2 B2
  go_upto_region 5 with (fail)
  generalize World.drewN w2 nq = w3 at Z3 B3 ⊢
  have p1 := (HP.out.below B3.out).cell 1 _ rfl
  have hpl3 : p < w3.heap.size := (HP.out.below B3.out).lt
  clear hsum1
  go_upto_if 32 with (fail)
  go_cut [] from 13 to 117 (fun wx => Hid (∃ r', EndAt wx p r' mb { E with op := Q } ∧ ∀ g, r' = some g → r = some g) ∧ Hid (Has wx w.heap.size (.cells #[.int .i64 c, .bool u, .int .i64 ep, .int .i64 (s : Int), .int .i64 (a : Int), .string bd] 29)) ∧ Hid (Kept (fun j => j = p) w wx))
  case first =>
    by_cases hdn : d < n
    · obtain ⟨k, hk⟩ : ∃ k : Nat, k = n - d := ⟨_, rfl⟩
      have hsum1 : IntKind.i64.wrap ((n : Int) - (d : Int)) = (k : Int) := by
        have h : IntKind.i64.wrap ((n : Int) - (d : Int)) = (n : Int) - (d : Int) := IntWalk.i64_in _ (by omega)
        rw [h]; omega
      have hkn : k ≤ n := by omega
      have hQ : Hid (Q = E.op.drop k) := Lib.hid (by rw [HA.out, hk])
      have pf1 := (HP.out.below B3.out).free 1
      have hA : Hid (A ≠ none) := Lib.hid (fun e => by
        subst e
        rcases HRow.out with ⟨e1, _⟩ | ⟨g, off, cap', cur, e1, _⟩
        · injection e1 with _ e2; omega
        · injection e1 with e2; cases e2)
      clear hk
      obtain ⟨A', hA'⟩ : ∃ A', cutAt A cap k = A' := ⟨_, rfl⟩
      obtain ⟨n', hn'⟩ : ∃ n', n - k = n' := ⟨_, rfl⟩
      obtain ⟨c', hc'⟩ : ∃ c', cap - k = c' := ⟨_, rfl⟩
      have hsl2 : ∀ w', (Instr.slice 40 (.slice A n cap) (some (.int .i64 (k : Int))) none none).run Try.prog w' = .ok (.slice A' n' c') w' := fun w' => by
        rw [run_slice_l w' _ _ _ _ (by kernel_rfl) .i64 (k : Int) (by omega) (by omega)]
        rw [show (sizeOf (Try.prog.elem 40)).run Try.prog w' = .ok 1 w' by kernel_rfl]
        simp only [Result.andThen_ok, sliced, Int.toNat_natCast, Nat.mul_one]
        rw [← hA', ← hn', ← hc']
        rfl
      have hsl1 : ∀ w', (Instr.sliceAt 40 (.slice A n cap) (some (.int .i64 (k : Int))) none none).run Try.prog w' = .ok (.slice A' n' c') w' := fun w' => by
        rw [run_sliceAt_slice (h := by kernel_rfl)]; exact hsl2 w'
      have HCut := Lib.hid (HE.out.below B3.out)
      have HA' := Lib.hid hA'
      have HN' := Lib.hid hn'
      have HC' := Lib.hid hc'
      clear hA' hn' hc'
      go_upto_region 6 with (fail)
      go_still_tail 15, (by kernel_rfl)
      change wpList _ _ _ _ _ w3.drew
      go_wp2_with fail
      go_meet
      have hcut := HCut.out.cut (A := A) (n := n) (cap := cap) (k := k) HN.out hkn hA.out (by rw [HGV.out]; exact HP.out.below B3.out) (HRow.out.below B3.out) HV.out
      rw [HA'.out, HN'.out, HC'.out] at hcut
      obtain ⟨r', hE, hr⟩ := hcut
      exact ⟨Lib.hid ⟨r', by rw [hQ.out]; exact hE.below ((Below.refl _ _).drew), hr⟩, Lib.hid (Z3.out.but (But.set p 1 w3 _) (by omega)).drew, Lib.hid (((Kept.of B3.out).trans (Kept.but (S := fun j => j = p) (But.set p 1 w3 _) rfl)).trans (Kept.of ((Below.refl _ _).drew)))⟩
    · have hQ : Hid (Q = E.op) := Lib.hid (by rw [HA.out, show n - d = 0 by omega]; rfl)
      go_wp2_with fail
      go_meet
      exact ⟨Lib.hid ⟨r, by rw [hQ.out]; exact HE.out.below B3.out, fun g e => e⟩, Z3, Lib.hid (Kept.of B3.out)⟩
  case rest =>
    obtain ⟨HE1, Z1, K1⟩ := hcut
    obtain ⟨r', hE1', hr1⟩ := HE1.out
    have hE1 := Lib.hid hE1'
    have HR1 := Lib.hid hr1
    have z3 := Z1.out.cell 3 _ rfl
    clear HE1 hE1' hr1 p1 hpl3 Z3 B3
    by_cases hs0 : s = 0
    · have HTT : Hid (T = ({ E with op := Q }, [], 0)) := Lib.hid (by rw [HT.out, if_pos (by omega)])
      subst hs0
      go_wp2_with fail
      go_ret2
      rw [HTT.out]
      exact ⟨none, 0, rfl, SRow.nil _, (fun g e => by cases e), r', hE1.out, K1.out.mono (fun j e => .inl e), fun g e => HR1.out g e⟩
    · have HTT : Hid (T = ({ E with op := Q, ow := true, ea := (drain Y E.gt).2.1, gt := (drain Y E.gt).2.2, tk := E.tk + 1 }, (drain Y E.gt).1, 0)) := Lib.hid (by rw [HT.out, if_neg (by omega)])
      have hsb : ((s : Int) == 0) = false := by simp; omega
      have hsp : 0 < s := by omega
      obtain ⟨A1, cap1, hp1, _, _, _, _⟩ := hE1.out.open
      have pf5 := hp1.free 5
      have p5 := hp1.cell 5 _ rfl
      have hplc := hp1.lt
      clear hs0 hp1
      go_upto_region 9 with (fail)
      go_cut [] from 13 to 117 (fun wx => Hid (EndAt wx p r' mb { E with op := Q, ow := true }) ∧ Hid (Has wx w.heap.size (.cells #[.int .i64 c, .bool u, .int .i64 ep, .int .i64 (s : Int), .int .i64 (a : Int), .string bd] 29)) ∧ Hid (Kept (fun j => j = p) w wx))
      case first =>
        go_wp2_with fail
        go_meet
        exact ⟨Lib.hid (hE1.out.put (e' := { E with op := Q, ow := true }) 5 (.bool true) (fun A cap => rfl) rfl rfl (Nat.le_refl _)), Lib.hid (Z1.out.but (But.set p 5 _ _) (by omega)), Lib.hid (K1.out.trans (Kept.but (S := fun j => j = p) (But.set p 5 _ _) rfl))⟩
      case rest =>
        obtain ⟨HE2, Z2, K2⟩ := hcut
        clear hE1 Z1 K1 z3 pf5 p5 hplc
        obtain ⟨A2, cap2, hp2, _, _, _, _⟩ := HE2.out.open
        obtain ⟨gt, hgt'⟩ : ∃ g, E.gt = g := ⟨_, rfl⟩
        simp only at hp2
        rw [hgt'] at hp2 hgt HEY
        have HP2 := Lib.hid hp2
        have HM2 := Lib.hid HE2.out.map
        have HGT := Lib.hid hgt'
        have hlk := fun a => (HM2.out.held (S := fun _ => False) (Kept.of (draws_below wc a)) (fun e => e)).look (k := s) (by omega)
        simp only at hlk
        have p3 := hp2.cell 3 _ rfl
        have p4 := hp2.cell 4 _ rfl
        have z3 := Z2.out.cell 3 _ rfl
        have z5 := Z2.out.cell 5 _ rfl
        have hplc := hp2.lt
        clear hp2 hgt'
        go_step
        go_step
        go_cut [] from 8 to 117 (fun wx => Hid (EndAt wx p r' mb { E with op := Q, ow := true, ea := Y, tk := E.tk + 1 }) ∧ Hid (Kept (fun j => j = p ∨ j = mb) w wx))
        case first =>
          obtain ⟨lk, hl⟩ : ∃ lk, look E.ea s = lk := ⟨_, rfl⟩
          rw [hl] at HEY
          simp only [hl] at hlk
          have HL := Lib.hid hl
          clear hl
          cases lk with
          | some v =>
            have HYY : Hid (Y = E.ea) := Lib.hid (by rw [HEY.out, if_neg (by simp)])
            simp only [Option.getD_some, Option.isSome_some] at hlk
            go_upto_region 10 with (fail)
            go_quiet (fail)
            go_upto_region 11 with (fail)
            go_quiet (fail)
            go_wp2_with fail
            go_meet
            rw [HYY.out]
            exact ⟨Lib.hid ⟨(HE2.out.below (draws_below _ _)).ex, (HE2.out.below (draws_below _ _)).map.mono (Nat.le_succ _), HE2.out.ne⟩, Lib.hid ((K2.out.mono (fun j e => .inl e)).trans (Kept.of (draws_below _ _)))⟩
          | none =>
            simp only [Option.getD_none, Option.isSome_none] at hlk
            by_cases hsg : gt < s
            · have HYY : Hid (Y = E.ea ++ [(s, bd)]) := Lib.hid (by rw [HEY.out, if_pos ⟨rfl, by omega⟩])
              have hdec : decide (gt < s) = true := by simpa using hsg
              go_upto_region 10 with (fail)
              go_quiet (fail)
              go_upto_region 11 with (fail)
              go_quiet (fail)
              go_upto_region 12 with (fail)
              have HB5 := Lib.hid (fun x y => bup (draws_below wc x) (draws_below (World.drewN wc x) y))
              generalize hw5 : World.drewN (World.drewN wc _) _ = w5
              have B5 : Hid (Below wc.heap.size wc w5) := Lib.hid (by rw [← hw5]; exact HB5.out _ _)
              have HE5 := Lib.hid (HE2.out.below B5.out)
              have HM5 := Lib.hid (HE5.out.map.held (S := fun _ => False) (Kept.of ((Below.refl _ w5).drew)) (fun e => e))
              have p4' := (HP2.out.below B5.out).cell 4 _ rfl
              have z3' := (Z2.out.below B5.out).cell 3 _ rfl
              have z5' := (Z2.out.below B5.out).cell 5 _ rfl
              clear hw5 hlk p3 p4 z3 z5 HB5
              go_still_tail 8, (by kernel_rfl)
              change wpList _ _ _ _ _ w5.drew
              refine wpList_put rfl (.tmp 78) (.tmp 80) (.tmp 82) rfl _ mb E.tk E.ea s bd rfl HM5.out rfl rfl (by omega) (by unfold maxLen; omega) (by unfold maxLen; omega) HL.out ?_
              intro w6 M6 b6
              have M6' := Lib.hid M6
              have b6' := Lib.hid b6
              clear M6 b6
              go_wp2_with fail
              go_meet
              rw [HYY.out]
              exact ⟨Lib.hid ((HE5.out.below ((Below.refl _ w5).drew)).mapped b6'.out M6'.out), Lib.hid (((K2.out.mono (fun j e => .inl e)).trans (Kept.of (B5.out.drew))).trans (Kept.but b6'.out (.inr rfl)))⟩
            · have HYY : Hid (Y = E.ea) := Lib.hid (by rw [HEY.out, if_neg (by omega)])
              have hdec : decide (gt < s) = false := by simpa using hsg
              go_upto_region 10 with (fail)
              go_quiet (fail)
              go_upto_region 11 with (fail)
              go_quiet (fail)
              go_wp2_with fail
              go_meet
              rw [HYY.out]
              exact ⟨Lib.hid ⟨(HE2.out.below (draws_below _ _)).ex, (HE2.out.below (draws_below _ _)).map.mono (Nat.le_succ _), HE2.out.ne⟩, Lib.hid ((K2.out.mono (fun j e => .inl e)).trans (Kept.of (draws_below _ _)))⟩
        case rest =>
          obtain ⟨HE3, K3⟩ := hcut
          have HY1 : Hid (∀ x ∈ Y, gt < x.1) := Lib.hid (fun x hx => by
            have hea := HOK.out.ea
            rw [HGT.out] at hea
            rw [HEY.out] at hx
            split at hx
            · rename_i hc
              rcases List.mem_append.1 hx with h | h
              · exact (hea x h).1
              · simp at h; subst h; have := hc.2; show gt < s; omega
            · exact (hea x hx).1)
          have hY2 : gt + Y.length ≤ E.tk + 1 := by
            have := HOK.out.tk
            rw [HGT.out] at this
            rw [HEY.out]
            split
            · rw [List.length_append]; simp only [List.length_cons, List.length_nil]; omega
            · omega
          have hgtt : E.gt ≤ 1000000 := by rw [HGT.out]; exact hgt
          rw [HGT.out] at HTT
          have HE3' : Hid (EndAt wc p r' mb { E with op := Q, ow := true, ea := Y, tk := E.tk + 1, gt := gt }) := Lib.hid (by rw [← HGT.out]; exact HE3.out)
          clear hlk p3 p4 z3 z5 HM2 HP2 Z2 K2 HE2 HE3 hplc hgtt
          go_wp2_with fail
          go_loopw [10] (fun v wr => ∃ (l : List (Nat × ByteArray)) (g : Nat) (outs : List ByteArray) (A' : Option Addr) (cap' : Nat), v = .slice A' outs.length cap' ∧ Hid (drain Y gt = (outs ++ (drain l g).1, (drain l g).2)) ∧ Hid (∀ x ∈ l, g < x.1) ∧ g + l.length ≤ E.tk + 1 ∧ outs.length ≤ g ∧ Hid (EndAt wr p r' mb { E with op := Q, ow := true, ea := l, tk := E.tk + 1, gt := g }) ∧ Hid (SRow wr (.slice A' outs.length cap') outs) ∧ Hid (∀ j, (Value.slice A' outs.length cap').ownBlock = some j → wc.heap.size ≤ j) ∧ Hid (Kept (fun j => j = p ∨ j = mb) wc wr)) (fun _ wr => E.tk + 2 - gotOf p wr)
          case atStart => exact ⟨Y, gt, [], none, 0, rfl, Lib.hid rfl, HY1, hY2, by simp, HE3', Lib.hid (SRow.nil _), Lib.hid (fun j e => by cases e), Lib.hid (Kept.refl _ _)⟩
          case round =>
            obtain ⟨l, g, outs, A', cap', rfl, HDR, HLL, hgl, hog, HE4, HRW, HOWN, HKK⟩ := hrel
            obtain ⟨A4, cap4, hp4, _, _, _, _⟩ := HE4.out.open
            simp only at hp4
            have HP4 := Lib.hid hp4
            have q3 := hp4.cell 3 _ rfl
            have q4 := hp4.cell 4 _ rfl
            have qf3 := hp4.free 3
            have hpl4 := hp4.lt
            have HGO : Hid (gotOf p wr = g) := Lib.hid (by unfold gotOf; rw [q3]; simp)
            obtain ⟨g1, hg1⟩ : ∃ g1 : Nat, g1 = g + 1 := ⟨_, rfl⟩
            have hsum1 : IntKind.i64.wrap ((g : Int) + 1) = (g1 : Int) := by
              have h : IntKind.i64.wrap ((g : Int) + 1) = (g : Int) + 1 := IntWalk.i64_in _ (by omega)
              rw [h]; omega
            have HG1 := Lib.hid hg1
            have hg16 : g1 ≤ 2000000 := by omega
            have hlk := fun a => (HE4.out.map.held (S := fun _ => False) (Kept.of (draws_below wr a)) (fun e => e)).look (k := g1) (by omega)
            simp only at hlk
            obtain ⟨lk, hl⟩ : ∃ lk, look l g1 = lk := ⟨_, rfl⟩
            simp only [hl] at hlk
            rw [hg1] at hl
            have HL := Lib.hid hl
            clear hl hg1 hp4
            cases lk with
            | none =>
              simp only [Option.getD_none, Option.isSome_none] at hlk
              have HDN := Lib.hid (drain_none HL.out)
              go_upto_region 14 with (fail)
              go_quiet (fail)
              clear hlk hsum1
              go_wp2_with fail
              go_ret2
              have hdr := HDR.out
              rw [HDN.out, List.append_nil] at hdr
              rw [HTT.out, hdr]
              exact ⟨A', cap', rfl, HRW.out.below (draws_below _ _), (fun j e => by have := HOWN.out j e; have := K3.out.size; omega), r', HE4.out.below (draws_below _ _), ((K3.out.trans HKK.out).trans (Kept.of (draws_below _ _))).mono (fun j e => e.elim .inl (fun e => .inr (.inl e))), fun g e => HR1.out g e⟩
            | some v =>
              simp only [Option.getD_some, Option.isSome_some] at hlk
              have HDS := Lib.hid (drain_some HL.out)
              go_upto_region 14 with (fail)
              go_quiet (fail)
              clear hlk hsum1
              go_upto_region 18 with (fail)
              have HE6 : Hid (EndAt ((wr.drewN nq).setCell ⟨p, 3, none⟩ (.int .i64 ((g : Int) + 1))) p r' mb { E with op := Q, ow := true, ea := l, tk := E.tk + 1, gt := g1 }) := Lib.hid ((HE4.out.below (draws_below wr nq)).put (e' := { E with op := Q, ow := true, ea := l, tk := E.tk + 1, gt := g1 }) 3 (.int .i64 ((g : Int) + 1)) (fun A cap => by rw [HG1.out]; rfl) rfl rfl (Nat.le_refl _))
              have K6 : Hid (Kept (fun j => j = p ∨ j = mb) wr ((wr.drewN nq).setCell ⟨p, 3, none⟩ (.int .i64 ((g : Int) + 1)))) := Lib.hid ((Kept.of (draws_below wr nq)).trans (Kept.but (But.set p 3 _ _) (.inl rfl)))
              generalize World.setCell (World.drewN wr nq) _ _ = w6 at HE6 K6 ⊢
              obtain ⟨A6, cap6, hp6, _, _, _, _⟩ := HE6.out.open
              simp only at hp6
              clear q3 q4 qf3 hpl4 HP4
              have q3 := hp6.cell 3 _ rfl
              have q4 := hp6.cell 4 _ rfl
              have HM6 := Lib.hid (HE6.out.map.held (S := fun _ => False) (Kept.of ((Below.refl _ w6).drew)) (fun e => e))
              clear hp6
              go_still_tail 8, (by kernel_rfl)
              change wpList _ _ _ _ _ w6.drew
              refine wpList_del rfl (.tmp 109) (.tmp 113) rfl _ mb (E.tk + 1) l g1 rfl HM6.out rfl (by omega) (fun x hx => by have := HLL.out x hx; rw [HG1.out]; exact this) ?_
              intro w7 M7 b7
              have HE7 := Lib.hid ((HE6.out.below ((Below.refl _ w6).drew)).mapped b7 M7)
              have K7 : Hid (Kept (fun j => j = p ∨ j = mb) wr w7) := Lib.hid ((K6.out.trans (Kept.of ((Below.refl _ w6).drew))).trans (Kept.but b7 (.inr rfl)))
              clear M7 b7 HE6 HM6 K6 q3 q4
              have hzl := Lib.hid HE3'.out.lt
              have hnp : Hid (∀ j, wc.heap.size ≤ j → ¬ (j = p ∨ j = mb)) := Lib.hid (fun j hj h => by
                rcases h with h | h
                · have := hzl.out p (.inl rfl); omega
                · have := hzl.out mb (.inr (.inl rfl)); omega)
              have HRow7 := Lib.hid ((HRW.out.held K7.out (fun j e => hnp.out j (HOWN.out j e))).below (bnew w7 (.cells #[.string v] 9)))
              have HNew := Lib.hid (Src.one (Has.new w7 (.cells #[.string v] 9)) 1)
              go_wp2_with (at_builtin; refine wpList_srow_append rfl (.tmp 114) (.tmp 116) rfl _ (.slice A' outs.length cap') outs rfl HRow7.out _ rfl [v] HNew.out (by simp only [List.length_cons, List.length_nil]; omega) ?_; intro v8 w8 R8 g8 f8; obtain ⟨A8, cap8, rfl, h81, h82⟩ := R8.form; have R8' := Lib.hid R8; have g8' := Lib.hid g8; have f8' := Lib.hid f8; clear R8 g8 f8)
              have hw7 : wc.heap.size ≤ w7.heap.size := Nat.le_trans HKK.out.size K7.out.size
              have k78 : Kept (fun j => wc.heap.size ≤ j) w7 w8 := (Kept.of (bnew w7 (.cells #[.string v] 9))).trans (Kept.grown g8'.out (fun j e => HOWN.out j e))
              have HE8 := Lib.hid (HE7.out.held k78 (fun j hj h => by have := hzl.out j hj; omega))
              have HGT8 := Lib.hid HE8.out.got
              have hfl : l.filter (fun x => decide (g1 < x.1)) = l.filter (fun x => decide (g + 1 < x.1)) := by rw [HG1.out]
              have hlen := less_filter HL.out
              go_roundw
              case rel =>
                refine ⟨l.filter (fun x => decide (g1 < x.1)), g1, outs ++ [v], A8, cap8, by rw [List.length_append]; rfl, Lib.hid ?_, Lib.hid (fun x hx => by simpa using (List.mem_filter.1 hx).2), ?_, ?_, HE8, R8', Lib.hid (fun j e => ?_), Lib.hid ((HKK.out.trans K7.out).join k78 (fun j hj => .inr hj))⟩
                · rw [HDR.out, HDS.out, HG1.out]; simp
                · have := HG1.out; rw [hfl]; omega
                · have := HG1.out; rw [List.length_append]; simp only [List.length_cons, List.length_nil]; omega
                · rcases f8'.out j e with h3 | h3
                  · exact HOWN.out j h3
                  · simp at h3; omega
              case measure =>
                have h3 := HGT8.out
                simp only at h3
                rw [h3, HGO.out, HG1.out]; omega
end
end Go.Proofs.Ytgabonacpoimfaa
