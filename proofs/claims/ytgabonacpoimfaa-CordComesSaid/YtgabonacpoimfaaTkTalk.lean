/-
  Two ends behind a row of events: nothing comes that must not.
-/
import Derived.Test.YtgabonacpoimfaaTkEv
import Derived.Deep.RegionHeld3
import Derived.Deep.DrawnRows
namespace Go.Proofs.Ytgabonacpoimfaa
open Go.RowKit Go.Sort
set_option linter.unusedVariables false
set_option linter.unusedSimpArgs false
attribute [local go_sem ↓] Go.wp_at_zero Go.wp_at_succ
def TalkedPost (ep : Int) (w : World) (e : Ending) (w' : World) : Prop :=
  ∃ t V x, e = .returned (.tuple #[.pointer (some ⟨t, 0, none⟩), .bool true]) ∧ TkOk ep x ∧ TkBd 120 x ∧ Held (fun k => k < w.heap.size) (TkR t V x) w' ∧ Below w.heap.size w w'
theorem comes_any {F : Nat → Prop} {t : Nat} {V : Tv} {x : Tk} {ep : Int} {k : Nat} (s : Sn) (w : World) (ho : TkOk ep x) (hb : TkBd k x) (hk : k ≤ 1000) (hs : SnOk ep x s) (H : Held F (TkR t V x) w) :
    Calls Try.prog 25 #[.pointer (some ⟨t, 0, none⟩), s.val] w (ComesPost F t V (comesT x s) w) := by
  obtain ⟨c1, c2⟩ := ho.comes s hs
  obtain ⟨l1, l2, l3, l4, _, _⟩ := c2.lens (hb.comes s)
  obtain ⟨b1, b2, b3, b4, b5⟩ := hb
  cases hf : s.first with
  | true => exact comes_first s w hf ho.okb (by omega) (by omega) (by omega) H
  | false => exact comes_second s w hf ho.oka (by omega) (by omega) (by omega) H
theorem sends_any {F : Nat → Prop} {t : Nat} {V : Tv} {x : Tk} {ep : Int} {k : Nat} (f : Bool) (w : World) (ho : TkOk ep x) (hb : TkBd k x) (hk : k ≤ 1000) (H : Held F (TkR t V x) w) :
    Calls Try.prog 24 #[.pointer (some ⟨t, 0, none⟩), .bool f] w (SendsPost F t (sendsT x f) w) := by
  obtain ⟨b1, b2, b3, b4, b5⟩ := hb
  cases f with
  | true => exact sends_first w ho.oka (by omega) (by omega) H
  | false => exact sends_second w ho.okb (by omega) (by omega) H
set_option maxRecDepth 100000 in
set_option maxHeartbeats 16000000 in
theorem talked_any (ep : Int) (h1 : 1 ≤ ep) (h2 : ep ≤ 1073741824) (A : Option Addr) (n c : Nat) (l : List Ev) (w : World) (I : IsRow 3 Ev.row Ev.ok w A n c l) :
    Calls Try.prog 23 #[.int .i64 ep, .slice A n c] w (TalkedPost ep w) := by
  have HI := Lib.hid I
  have hcap := I.cap
  have hmost := I.most
  clear I
  obtain ⟨F, hF⟩ : ∃ F : Nat → Prop, F = fun k => k < w.heap.size := ⟨_, rfl⟩
  have HFB : Hid (∀ k, k < w.heap.size → F k) := Lib.hid (fun k hk => by rw [hF]; exact hk)
  have HFe : Hid ((fun k => k < w.heap.size) = F) := Lib.hid hF.symm
  have H0 : Hid (Held F (Stars [TxR (.slice none 0 0) [], TxR (.slice none 0 0) [], TxR (.slice none 0 0) [], TxR (.slice none 0 0) [], SnR (.slice none 0 0) []]) w) := Lib.hid (by
    have h0 : Held F Emp w := Held.emp (fun k hk => by rw [hF] at hk; exact hk)
    have h1 := Held.newSn Emp.good h0
    have h2 := Held.newTx (Star.good (SnR.good _ _) Emp.good) h1
    have h3 := Held.newTx (Star.good (TxR.good _ _) (Star.good (SnR.good _ _) Emp.good)) h2
    have h4 := Held.newTx (Star.good (TxR.good _ _) (Star.good (TxR.good _ _) (Star.good (SnR.good _ _) Emp.good))) h3
    exact Held.newTx (Star.good (TxR.good _ _) (Star.good (TxR.good _ _) (Star.good (TxR.good _ _) (Star.good (SnR.good _ _) Emp.good)))) h4)
  have gd0 : Hid (Stars [TxR (.slice none 0 0) [], TxR (.slice none 0 0) [], TxR (.slice none 0 0) [], TxR (.slice none 0 0) [], SnR (.slice none 0 0) []]).Good := Lib.hid (Star.good (TxR.good _ _) (Star.good (TxR.good _ _) (Star.good (TxR.good _ _) (Star.good (TxR.good _ _) (Star.good (SnR.good _ _) Emp.good)))))
  clear hF
  go_enter Try.func23, Try.ntmps23
  go_wp2_with fail
  refine (cnew_any ep _ h1 h2).mono ?_
  rintro e w1 ⟨rfl, hw1⟩
  obtain ⟨pa, hpa⟩ : ∃ pa, w.heap.size + 1 = pa := ⟨_, rfl⟩
  rw [hpa]
  have H1 := Lib.hid (H0.out.newEnd gd0.out ep)
  rw [hpa, hw1] at H1
  have B1 : Hid (Below w.heap.size w w1) := Lib.hid (by rw [← hw1]; exact cordWorld_below w ep)
  clear hw1 hpa H0
  go_wp2_with fail
  refine (cnew_any ep _ h1 h2).mono ?_
  rintro e w2 ⟨rfl, hw2⟩
  obtain ⟨pb, hpb⟩ : ∃ pb, w1.heap.size + 1 = pb := ⟨_, rfl⟩
  rw [hpb]
  have H2 := Lib.hid (H1.out.newEnd (Star.good (EndR.good _ _) gd0.out) ep)
  rw [hpb, hw2] at H2
  have B2 : Hid (Below w.heap.size w w2) := Lib.hid (by rw [← hw2]; exact bup B1.out (cordWorld_below w1 ep))
  clear hw2 hpb H1 B1
  have H3 : Hid (Held F (TkR w2.heap.size ⟨pa, pb, .slice none 0 0, .slice none 0 0, .slice none 0 0, .slice none 0 0, .slice none 0 0⟩ (Tk.new ep)) (w2.alloc (.cells #[.pointer (some ⟨pa, 0, none⟩), .pointer (some ⟨pb, 0, none⟩), .slice none 0 0, .slice none 0 0, .slice none 0 0, .slice none 0 0, .slice none 0 0] 60))) := Lib.hid (Held.newBlk (Star.good (EndR.good _ _) (Star.good (EndR.good _ _) gd0.out)) (H2.out.turn (fun _ h => Star.left h)) _ _)
  have B3 : Hid (Below w.heap.size w (w2.alloc (.cells #[.pointer (some ⟨pa, 0, none⟩), .pointer (some ⟨pb, 0, none⟩), .slice none 0 0, .slice none 0 0, .slice none 0 0, .slice none 0 0, .slice none 0 0] 60))) := Lib.hid (bup B2.out (bnew _ _))
  clear H2 B2 gd0
  obtain ⟨t, ht⟩ : ∃ t, w2.heap.size = t := ⟨_, rfl⟩
  rw [ht] at H3
  go_wp2_with fail
  go_loopw [7] (fun iv wr => ∃ (k : Nat) (V : Tv) (x : Tk), k ≤ n ∧ k ≤ 120 ∧ iv = .int .i64 k ∧ Hid (TkOk ep x) ∧ Hid (TkBd k x) ∧ Hid (Held F (TkR t V x) wr) ∧ Hid (Below w.heap.size w wr)) (fun iv _ => n - (intOf iv).toNat)
  case atStart => exact ⟨0, _, _, by omega, by omega, rfl, Lib.hid (TkOk.new ep), Lib.hid (TkBd.new ep), H3, B3⟩
  case round =>
    obtain ⟨k, V, x, hk, hk2, rfl, HO, HD, HS, HB⟩ := hrel
    clear H3 B3
    by_cases hlt : k < n ∧ k < 120
    · obtain ⟨hlt, hlt2⟩ := hlt
      obtain ⟨b, off, y, rfl, hy, hok, hG⟩ := evs_at HI.out hlt
      have hG0 := hG.below HB.out
      obtain ⟨kd, N, tx⟩ := y
      have hbl : b < wr.heap.size := block_lt_of_cell hG0.k
      have dk := hG0.k
      have dn := hG0.n
      have dt := hG0.t
      simp only at dk dn dt
      clear hG hy hG0 hok
      have hk120 : (k : Int) < 120 := by omega
      obtain ⟨pa', pb', v2, v3, v4, v5, v6⟩ := V
      go_upto_block 2 with (fail)
      have Y3 := Lib.hid (Has.new wr (.cells #[.int .i64 kd, .int .i64 N, .string tx] 49))
      have H3 : Hid (Held (fun j => F j ∨ j = wr.heap.size) (TkR t ⟨pa', pb', v2, v3, v4, v5, v6⟩ x) (wr.alloc (.cells #[.int .i64 kd, .int .i64 N, .string tx] 49))) := Lib.hid (HS.out.more (TkR.good _ _ _) (bnew wr _) (fun j hj => hj.imp id (fun e => by subst e; simp)))
      have B3 := Lib.hid (bup HB.out (bnew wr (.cells #[.int .i64 kd, .int .i64 N, .string tx] 49)))
      generalize World.alloc wr _ = w3 at Y3 H3 B3 ⊢
      clear dk dn dt HS hbl
      go_cut [] from 28 to 147 (fun wx => ∃ (V' : Tv) (x' : Tk), Hid (TkOk ep x') ∧ Hid (TkBd (k + 1) x') ∧ Hid (Held F (TkR t V' x') wx) ∧ Hid (Below w.heap.size w wx))
      case first =>
        obtain ⟨F3, hF3⟩ : ∃ F3 : Nat → Prop, F3 = fun j => F j ∨ j = wr.heap.size := ⟨_, rfl⟩
        rw [← hF3] at H3
        have hFy : F3 wr.heap.size := by rw [hF3]; exact .inr rfl
        have HLE : Hid (∀ j, F j → F3 j) := Lib.hid (fun j h => by rw [hF3]; exact .inl h)
        have HFB3 : Hid (∀ j, j < w.heap.size → F3 j) := Lib.hid (fun j hj => HLE.out j (HFB.out j hj))
        have HK1 : Hid (TkBd (k + 1) x) := Lib.hid (HD.out.more (by omega))
        clear hF3
        by_cases k1 : (kd == 1) = true
        · as_aux_lemma =>
            obtain ⟨R, hR⟩ : ∃ R, sendE x.a tx = R := ⟨_, rfl⟩
            have hgE : x.a.gv ≤ 1000 := Nat.le_trans (HD.out.ga) (by omega)
            have CS : Hid (∀ w', Below w3.heap.size w3 w' → Calls Try.prog 11 #[.pointer (some ⟨pa', 0, none⟩), .string tx] w' fun e w'' => e = .returned (.int .i64 R.2) ∧ Held F3 (TkR t ⟨pa', pb', v2, v3, v4, v5, v6⟩ { x with a := R.1 }) w'' ∧ KeptF F3 w' w'') := Lib.hid (fun w' b => by
              have := sendH (TkendA.good t ⟨pa', pb', v2, v3, v4, v5, v6⟩ x) pa' x.a tx w' (by omega) (by have := (HO.out).oka.most; omega) (TkR.endA (H3.out.below (TkR.good _ _ _) b))
              rw [hR] at this
              exact this.mono (fun e w'' ⟨a, b, c⟩ => ⟨a, TkR.endA_back b, c⟩))
            have HKS : Hid (∀ (w' : World) (G : Nat → Prop) (x' : Tk), Held G (TkR t ⟨pa', pb', v2, v3, v4, v5, v6⟩ x') w' → KeptF F3 w3 w' → (fun w' => w'.cell? ⟨t, 0, none⟩ = some (.pointer (some ⟨pa', 0, none⟩)) ∧ w'.cell? ⟨wr.heap.size, 2, none⟩ = some (.string tx)) w') := Lib.hid (fun w' G x' h k => ⟨(TkR.blk h).cell 0 _ rfl, (Y3.out.keptF k hFy).cell 2 _ rfl⟩)
            have HRE := Lib.hid hR
            obtain ⟨er, her⟩ : ∃ er, R.2 = er := ⟨_, rfl⟩
            rw [her] at CS
            have HER := Lib.hid her
            clear hR her
            go_upto_region 10 with (fail)
            go_region_held3 (fun w' => w'.cell? ⟨t, 0, none⟩ = some (.pointer (some ⟨pa', 0, none⟩)) ∧ w'.cell? ⟨wr.heap.size, 2, none⟩ = some (.string tx))
              ((first | exact HKS.out _ _ _ HB'.out KB'.out | exact HKS.out _ _ _ (H3.out.below (TkR.good _ _ _) ((Below.refl _ _).drew)) (Kept.of ((Below.refl _ _).drew))))
              ((go_at_call 11; ((with_reducible refine (CS.out _ ((Below.refl _ _).drew)).mono ?_)); rintro e wB ⟨rfl, hB, kB⟩; have HB' := Lib.hid hB; have KB' : Hid (KeptF F3 w3 wB) := Lib.hid ((Kept.of ((Below.refl _ _).drew)).trans kB); clear hB kB))
            have BB : Hid (Below w.heap.size w wB) := Lib.hid (B3.out.trans (KB'.out.belowB HFB3.out B3.out.size))
            by_cases hz : (er == 0) = true
            · have hz0 : er = 0 := by simpa using hz
              have hok1 := (HO.out).sendA tx (by rw [HRE.out, HER.out]; exact hz0)
              have hbd1 := HD.out.sendA tx (x.toB ++ [tx])
              rw [HRE.out] at hok1 hbd1
              have HOK1 := Lib.hid hok1
              have HBD1 := Lib.hid hbd1
              have hlen : x.toB.length + 1 ≤ 1000000000 := by have := (HO.out.lens HD.out); omega
              have YB := Y3.out.keptF KB'.out hFy
              have yt := YB.cell 2 _ rfl
              have qt : wB.cell? ⟨t, 3, none⟩ = some v3 := (TkR.blk HB'.out).cell 3 _ rfl
              have htl : t < wB.heap.size := (TkR.blk HB'.out).lt
              have hyl : wr.heap.size < wB.heap.size := YB.lt
              have HN1 : Hid (Held F3 (TkR t ⟨pa', pb', v2, v3, v4, v5, v6⟩ { x with a := R.1 }) ((wB.alloc (.cells #[.string tx] 9)).drew)) := Lib.hid (HB'.out.below (TkR.good _ _ _) ((bnew wB _).drew))
              have HRow := Lib.hid (TkR.toB HN1.out)
              have HSrc := Lib.hid (Src.one (Has.new wB (.cells #[.string tx] 9)).drew 1)
              have HM := Lib.hid (fun w' v' q' hr hg hf => TkR.toB_more HN1.out (w' := w') (v' := v') (q' := q') hr hg hf)
              clear hok1 hbd1 YB hz0 HO HD HK1 CS HKS
              go_upto_region 11 with (fail)
              go_region_law ((refine step_srow_append (w := (wB.alloc (.cells #[.string tx] 9)).drew) (by rfl) (.tmp 58) (.tmp 61) (by rfl) v3 x.toB (by rfl) HRow.out _ (by rfl) [tx] HSrc.out hlen ?_; intro v7 w7 R7 g7 f7; have M7 := HM.out w7 v7 _ R7 g7 f7; have p7 : w7.cell? ⟨t, 3, none⟩ = some v3 := M7.1.cell 3 _ rfl; have pf7 := M7.1.free 3; have hpl7 := M7.1.lt; have HN := Lib.hid M7.2; obtain ⟨A7, cap7, e7, h71, h72⟩ := R7.form; have e8 : v7 = .slice A7 (x.toB.length + 1) cap7 := e7.trans (by rw [List.length_append]; rfl); clear e7; subst e8; clear R7 g7 f7 M7))
              all_goals
                go_wp2_with fail
                go_meet
                exact ⟨_, _, HOK1, HBD1, Lib.hid (HN.out.1.less HLE.out), Lib.hid (BB.out.trans (KeptF.belowB (Kept.trans (Kept.of ((bnew wB (.cells #[.string tx] 9)).drew)) HN.out.2) HFB3.out BB.out.size))⟩
            · have hz' : (er == 0) = false := by simpa using hz
              have hR1 : R.1 = x.a := by
                have := send_no (s := x.a) (t := tx) (by rw [HRE.out, HER.out]; intro e; rw [e] at hz; exact hz rfl)
                rwa [HRE.out] at this
              have hfin : Hid (Held F (TkR t ⟨pa', pb', v2, v3, v4, v5, v6⟩ x) wB) := Lib.hid (by
                have := HB'.out.less HLE.out
                rwa [hR1] at this)
              clear hz hR1
              go_wp2_with fail
              go_meet
              exact ⟨_, _, HO, HK1, hfin, BB⟩
        have k1' : (kd == 1) = false := by simpa using k1
        clear k1
        by_cases k2 : (kd == 2) = true
        · as_aux_lemma =>
            obtain ⟨R, hR⟩ : ∃ R, sendE x.b tx = R := ⟨_, rfl⟩
            have hgE : x.b.gv ≤ 1000 := Nat.le_trans (HD.out.gb) (by omega)
            have CS : Hid (∀ w', Below w3.heap.size w3 w' → Calls Try.prog 11 #[.pointer (some ⟨pb', 0, none⟩), .string tx] w' fun e w'' => e = .returned (.int .i64 R.2) ∧ Held F3 (TkR t ⟨pa', pb', v2, v3, v4, v5, v6⟩ { x with b := R.1 }) w'' ∧ KeptF F3 w' w'') := Lib.hid (fun w' b => by
              have := sendH (TkendB.good t ⟨pa', pb', v2, v3, v4, v5, v6⟩ x) pb' x.b tx w' (by omega) (by have := (HO.out).okb.most; omega) (TkR.endB (H3.out.below (TkR.good _ _ _) b))
              rw [hR] at this
              exact this.mono (fun e w'' ⟨a, b, c⟩ => ⟨a, TkR.endB_back b, c⟩))
            have HKS : Hid (∀ (w' : World) (G : Nat → Prop) (x' : Tk), Held G (TkR t ⟨pa', pb', v2, v3, v4, v5, v6⟩ x') w' → KeptF F3 w3 w' → (fun w' => w'.cell? ⟨t, 1, none⟩ = some (.pointer (some ⟨pb', 0, none⟩)) ∧ w'.cell? ⟨wr.heap.size, 2, none⟩ = some (.string tx)) w') := Lib.hid (fun w' G x' h k => ⟨(TkR.blk h).cell 1 _ rfl, (Y3.out.keptF k hFy).cell 2 _ rfl⟩)
            have HRE := Lib.hid hR
            obtain ⟨er, her⟩ : ∃ er, R.2 = er := ⟨_, rfl⟩
            rw [her] at CS
            have HER := Lib.hid her
            clear hR her
            go_upto_region 13 with (fail)
            go_region_held3 (fun w' => w'.cell? ⟨t, 1, none⟩ = some (.pointer (some ⟨pb', 0, none⟩)) ∧ w'.cell? ⟨wr.heap.size, 2, none⟩ = some (.string tx))
              ((first | exact HKS.out _ _ _ HB'.out KB'.out | exact HKS.out _ _ _ (H3.out.below (TkR.good _ _ _) ((Below.refl _ _).drew)) (Kept.of ((Below.refl _ _).drew))))
              ((go_at_call 11; ((with_reducible refine (CS.out _ ((Below.refl _ _).drew)).mono ?_)); rintro e wB ⟨rfl, hB, kB⟩; have HB' := Lib.hid hB; have KB' : Hid (KeptF F3 w3 wB) := Lib.hid ((Kept.of ((Below.refl _ _).drew)).trans kB); clear hB kB))
            have BB : Hid (Below w.heap.size w wB) := Lib.hid (B3.out.trans (KB'.out.belowB HFB3.out B3.out.size))
            by_cases hz : (er == 0) = true
            · have hz0 : er = 0 := by simpa using hz
              have hok1 := (HO.out).sendB tx (by rw [HRE.out, HER.out]; exact hz0)
              have hbd1 := HD.out.sendB tx (x.toA ++ [tx])
              rw [HRE.out] at hok1 hbd1
              have HOK1 := Lib.hid hok1
              have HBD1 := Lib.hid hbd1
              have hlen : x.toA.length + 1 ≤ 1000000000 := by have := (HO.out.lens HD.out); omega
              have YB := Y3.out.keptF KB'.out hFy
              have yt := YB.cell 2 _ rfl
              have qt : wB.cell? ⟨t, 2, none⟩ = some v2 := (TkR.blk HB'.out).cell 2 _ rfl
              have htl : t < wB.heap.size := (TkR.blk HB'.out).lt
              have hyl : wr.heap.size < wB.heap.size := YB.lt
              have HN1 : Hid (Held F3 (TkR t ⟨pa', pb', v2, v3, v4, v5, v6⟩ { x with b := R.1 }) ((wB.alloc (.cells #[.string tx] 9)).drew)) := Lib.hid (HB'.out.below (TkR.good _ _ _) ((bnew wB _).drew))
              have HRow := Lib.hid (TkR.toA HN1.out)
              have HSrc := Lib.hid (Src.one (Has.new wB (.cells #[.string tx] 9)).drew 1)
              have HM := Lib.hid (fun w' v' q' hr hg hf => TkR.toA_more HN1.out (w' := w') (v' := v') (q' := q') hr hg hf)
              clear hok1 hbd1 YB hz0 HO HD HK1 CS HKS
              go_upto_region 14 with (fail)
              go_region_law ((refine step_srow_append (w := (wB.alloc (.cells #[.string tx] 9)).drew) (by rfl) (.tmp 79) (.tmp 82) (by rfl) v2 x.toA (by rfl) HRow.out _ (by rfl) [tx] HSrc.out hlen ?_; intro v7 w7 R7 g7 f7; have M7 := HM.out w7 v7 _ R7 g7 f7; have p7 : w7.cell? ⟨t, 2, none⟩ = some v2 := M7.1.cell 2 _ rfl; have pf7 := M7.1.free 2; have hpl7 := M7.1.lt; have HN := Lib.hid M7.2; obtain ⟨A7, cap7, e7, h71, h72⟩ := R7.form; have e8 : v7 = .slice A7 (x.toA.length + 1) cap7 := e7.trans (by rw [List.length_append]; rfl); clear e7; subst e8; clear R7 g7 f7 M7))
              all_goals
                go_wp2_with fail
                go_meet
                exact ⟨_, _, HOK1, HBD1, Lib.hid (HN.out.1.less HLE.out), Lib.hid (BB.out.trans (KeptF.belowB (Kept.trans (Kept.of ((bnew wB (.cells #[.string tx] 9)).drew)) HN.out.2) HFB3.out BB.out.size))⟩
            · have hz' : (er == 0) = false := by simpa using hz
              have hR1 : R.1 = x.b := by
                have := send_no (s := x.b) (t := tx) (by rw [HRE.out, HER.out]; intro e; rw [e] at hz; exact hz rfl)
                rwa [HRE.out] at this
              have hfin : Hid (Held F (TkR t ⟨pa', pb', v2, v3, v4, v5, v6⟩ x) wB) := Lib.hid (by
                have := HB'.out.less HLE.out
                rwa [hR1] at this)
              clear hz hR1
              go_wp2_with fail
              go_meet
              exact ⟨_, _, HO, HK1, hfin, BB⟩
        have k2' : (kd == 2) = false := by simpa using k2
        clear k2
        by_cases k3 : (kd == 3) = true
        · as_aux_lemma =>
            have kd3 : kd = 3 := by simpa using k3
            subst kd3
            clear k1' k2' k3
            have y0 := Y3.out.cell 0 _ rfl
            have CD := Lib.hid (sends_any true w3 HO.out HD.out (by omega) H3.out)
            have HO1 := Lib.hid (HO.out.sends true)
            have HD1 := Lib.hid (HD.out.sends HO.out true)
            clear HO HD HK1
            go_wp2_with fail
            refine CD.out.mono ?_
            rintro e wB ⟨V', A7, cap7, rfl, hrow, hT, hK⟩
            have HF := Lib.hid (hT.less (G := F) (fun j h => .inl (HLE.out j h)))
            have BB : Hid (Below w.heap.size w wB) := Lib.hid (B3.out.trans (hK.belowB HFB3.out B3.out.size))
            clear hrow hT hK
            go_wp2_with fail
            go_meet
            exact ⟨_, _, HO1, HD1, HF, BB⟩
        have k3' : (kd == 3) = false := by simpa using k3
        clear k3
        by_cases k4 : (kd == 4) = true
        · as_aux_lemma =>
            have kd4 : kd = 4 := by simpa using k4
            subst kd4
            clear k1' k2' k3' k4
            have y0 := Y3.out.cell 0 _ rfl
            have CD := Lib.hid (sends_any false w3 HO.out HD.out (by omega) H3.out)
            have HO1 := Lib.hid (HO.out.sends false)
            have HD1 := Lib.hid (HD.out.sends HO.out false)
            clear HO HD HK1
            go_wp2_with fail
            refine CD.out.mono ?_
            rintro e wB ⟨V', A7, cap7, rfl, hrow, hT, hK⟩
            have HF := Lib.hid (hT.less (G := F) (fun j h => .inl (HLE.out j h)))
            have BB : Hid (Below w.heap.size w wB) := Lib.hid (B3.out.trans (hK.belowB HFB3.out B3.out.size))
            clear hrow hT hK
            go_wp2_with fail
            go_meet
            exact ⟨_, _, HO1, HD1, HF, BB⟩
        have k4' : (kd == 4) = false := by simpa using k4
        clear k4
        by_cases k5 : (kd == 5) = true
        · as_aux_lemma =>
            obtain ⟨m, hm⟩ : ∃ m, x.pool.length = m := ⟨_, rfl⟩
            have hm4 : m ≤ 4000 := by have := HD.out.pool; omega
            obtain ⟨A6, cap6, hv6, h61, h62⟩ := (TkR.pool H3.out).form
            rw [hm] at hv6 h61
            subst hv6
            have HM := Lib.hid hm
            clear hm
            by_cases hm0 : m = 0
            · subst hm0
              have q6 : w3.cell? ⟨t, 6, none⟩ = some (.slice A6 0 cap6) := (TkR.blk H3.out).cell 6 _ rfl
              have htl : t < w3.heap.size := (TkR.blk H3.out).lt
              go_upto_region 19 with (fail)
              go_quiet (fail)
              go_wp2_with fail
              go_meet
              exact ⟨_, _, HO, HK1, Lib.hid ((H3.out.less HLE.out).below (TkR.good _ _ _) (draws_below _ _)), Lib.hid (B3.out.trans ((draws_below _ _).mono B3.out.size))⟩
            · obtain ⟨a, ha, hax⟩ := modm_plain N m (by omega) (by omega)
              have HAX := Lib.hid hax
              clear hax
              obtain ⟨s, hs⟩ : ∃ s, x.pool[a]? = some s := ⟨_, List.getElem?_eq_getElem (by rw [HM.out]; exact ha)⟩
              obtain ⟨g, hAg, hog, hgl, hgs⟩ := RowS.at (TkR.pool H3.out) hs
              subst hAg
              have hsn := (HO.out).pool s (List.mem_of_getElem? hs)
              have CD := Lib.hid (fun w' (b : Below w3.heap.size w3 w') => comes_any s w' HO.out HD.out (by omega) hsn (H3.out.below (TkR.good _ _ _) b))
              have hcc := (HO.out).comes s hsn
              have HO1 := Lib.hid hcc.2
              have HT1 := Lib.hid hcc.1
              have HP1 : Hid ((comesT x s).1.pool = x.pool) := Lib.hid (by unfold comesT; split <;> rfl)
              have HD1 := Lib.hid (HD.out.comes s)
              have HSX := Lib.hid hs
              obtain ⟨XT, hXT⟩ : ∃ XT, comesT x s = XT := ⟨_, rfl⟩
              rw [hXT] at CD HO1 HT1 HP1 HD1
              obtain ⟨⟨c0, u0, ep0, sq0, ak0, bd0⟩, f0⟩ := s
              simp only [Sn.val, Sn.row] at CD
              have HKS : Hid (∀ (w' : World) (G : Nat → Prop) (V' : Tv) (x' : Tk), Held G (TkR t V' x') w' → V'.v6 = .slice (some ⟨g, 0, none⟩) m cap6 → x'.pool = x.pool → KeptF F3 w3 w' → (fun w' => w'.cell? ⟨t, 6, none⟩ = some (.slice (some ⟨g, 0, none⟩) m cap6) ∧ w'.cell? ⟨wr.heap.size, 1, none⟩ = some (.int .i64 N) ∧ w'.cell? ⟨g, a * 7, none⟩ = some (.int .i64 c0) ∧ w'.cell? ⟨g, a * 7 + 1, none⟩ = some (.bool u0) ∧ w'.cell? ⟨g, a * 7 + 2, none⟩ = some (.int .i64 ep0) ∧ w'.cell? ⟨g, a * 7 + 3, none⟩ = some (.int .i64 sq0) ∧ w'.cell? ⟨g, a * 7 + 4, none⟩ = some (.int .i64 ak0) ∧ w'.cell? ⟨g, a * 7 + 5, none⟩ = some (.string bd0) ∧ w'.cell? ⟨g, a * 7 + 6, none⟩ = some (.bool f0)) w') := Lib.hid (fun w' G V' x' h e1 e2 k => by
                have hr := TkR.pool h
                have hb : w'.cell? ⟨t, 6, none⟩ = some V'.v6 := (TkR.blk h).cell 6 _ rfl
                rw [e1] at hb
                rw [e1, e2] at hr
                obtain ⟨g', hg', _, _, c⟩ := RowS.at hr HSX.out
                cases hg'
                exact ⟨hb, (Y3.out.keptF k hFy).cell 1 _ rfl, c.g.a0, c.g.a1, c.g.a2, c.g.a3, c.g.a4, c.g.a5, c.f⟩)
              have hm1 : (0 : Int) < (m : Int) := by omega
              have hd1 : decide ((0 : Int) < (m : Int)) = true := by simp; omega
              have hd2 : decide (0 < m) = true := by simp; omega
              have hm2 : ((m : Int) == 0) = false := by simp; omega
              have hai : (0 : Int) ≤ (a : Int) := by omega
              have haj : (a : Int) < (m : Int) := by omega
              clear hs hgs hsn hcc hXT HO HD HK1 HSX hog hgl
              go_upto_region 19 with (fail)
              obtain ⟨ha1, ha2, ha3, ha4, _⟩ := HAX.out
              clear HAX
              go_region_held3 (fun w' => w'.cell? ⟨t, 6, none⟩ = some (.slice (some ⟨g, 0, none⟩) m cap6) ∧ w'.cell? ⟨wr.heap.size, 1, none⟩ = some (.int .i64 N) ∧ w'.cell? ⟨g, a * 7, none⟩ = some (.int .i64 c0) ∧ w'.cell? ⟨g, a * 7 + 1, none⟩ = some (.bool u0) ∧ w'.cell? ⟨g, a * 7 + 2, none⟩ = some (.int .i64 ep0) ∧ w'.cell? ⟨g, a * 7 + 3, none⟩ = some (.int .i64 sq0) ∧ w'.cell? ⟨g, a * 7 + 4, none⟩ = some (.int .i64 ak0) ∧ w'.cell? ⟨g, a * 7 + 5, none⟩ = some (.string bd0) ∧ w'.cell? ⟨g, a * 7 + 6, none⟩ = some (.bool f0))
                ((first | exact HKS.out _ _ _ _ HT'.out HV'.out HP1.out HK'.out | exact HKS.out _ _ _ _ (H3.out.below (TkR.good _ _ _) ((Below.refl _ _).drew)) rfl rfl (Kept.of ((Below.refl _ _).drew))))
                ((go_at_call 25; ((with_reducible refine (CD.out _ ((Below.refl _ _).drew)).mono ?_)); rintro e wB ⟨V', rfl, hT, hK, hV⟩; have HT' := Lib.hid hT; have HV' := Lib.hid hV; have HK' : Hid (KeptF F3 w3 wB) := Lib.hid ((Kept.of ((Below.refl _ _).drew)).trans hK); clear hT hK hV; rw [HT1.out]))
              clear ha1 ha2 ha3 ha4
              go_wp2_with fail
              go_meet
              exact ⟨_, _, HO1, HD1, Lib.hid (HT'.out.less HLE.out), Lib.hid (B3.out.trans (HK'.out.belowB HFB3.out B3.out.size))⟩
        have k5' : (kd == 5) = false := by simpa using k5
        clear k5
        go_wp2_with fail
        go_meet
        exact ⟨_, _, HO, HK1, Lib.hid (H3.out.less HLE.out), B3⟩
      case rest =>
        obtain ⟨V', x', HO', HD', HS', HB'⟩ := hcut
        clear HO HD HB Y3 H3 B3
        obtain ⟨l1, l2, l3, l4, l5, l6⟩ := HO'.out.lens HD'.out
        obtain ⟨pa2, pb2, v2', v3', v4', v5', v6'⟩ := V'
        obtain ⟨A2, c2, e2, a2, b2⟩ := (TkR.toA HS'.out).form
        obtain ⟨A3, c3, e3, a3, b3⟩ := (TkR.toB HS'.out).form
        obtain ⟨A4, c4, e4, a4, b4⟩ := (TkR.atA HS'.out).form
        obtain ⟨A5, c5, e5, a5, b5⟩ := (TkR.atB HS'.out).form
        simp only at e2 e3 e4 e5
        subst e2 e3 e4 e5
        have CB1 := Lib.hid (fun w' (b : Below wc.heap.size wc w') => begins_any A5 A3 _ c5 _ c3 x'.atB x'.toB w' ((TkR.atB HS'.out).below b) ((TkR.toB HS'.out).below b) rfl rfl l4 l6 a3 b3)
        have CB2 := Lib.hid (fun w' (b : Below wc.heap.size wc w') => begins_any A4 A2 _ c4 _ c2 x'.atA x'.toA w' ((TkR.atA HS'.out).below b) ((TkR.toA HS'.out).below b) rfl rfl l3 l5 a2 b2)
        have HP := Lib.hid (TkR.blk HS'.out)
        obtain ⟨n2, hn2⟩ : ∃ n, x'.toA.length = n := ⟨_, rfl⟩
        obtain ⟨n3, hn3⟩ : ∃ n, x'.toB.length = n := ⟨_, rfl⟩
        obtain ⟨n4, hn4⟩ : ∃ n, x'.atA.length = n := ⟨_, rfl⟩
        obtain ⟨n5, hn5⟩ : ∃ n, x'.atB.length = n := ⟨_, rfl⟩
        have HKS : Hid (∀ w', Below wc.heap.size wc w' → (fun w' => w'.cell? ⟨t, 5, none⟩ = some (.slice A5 n5 c5) ∧ w'.cell? ⟨t, 3, none⟩ = some (.slice A3 n3 c3) ∧ w'.cell? ⟨t, 4, none⟩ = some (.slice A4 n4 c4) ∧ w'.cell? ⟨t, 2, none⟩ = some (.slice A2 n2 c2)) w') := Lib.hid (fun w' b => by
          rw [← hn2, ← hn3, ← hn4, ← hn5]
          exact ⟨(HP.out.below b).cell 5 _ rfl, (HP.out.below b).cell 3 _ rfl, (HP.out.below b).cell 4 _ rfl, (HP.out.below b).cell 2 _ rfl⟩)
        rw [hn5, hn3] at CB1
        rw [hn4, hn2] at CB2
        clear l1 l2 l3 l4 l5 l6 a2 b2 a3 b3 a4 b4 a5 b5 hn2 hn3 hn4 hn5
        go_upto_region 21 with (fail)
        go_region_held3 (fun w' => w'.cell? ⟨t, 5, none⟩ = some (.slice A5 n5 c5) ∧ w'.cell? ⟨t, 3, none⟩ = some (.slice A3 n3 c3) ∧ w'.cell? ⟨t, 4, none⟩ = some (.slice A4 n4 c4) ∧ w'.cell? ⟨t, 2, none⟩ = some (.slice A2 n2 c2))
          ((first | exact HKS.out _ s2.out | exact HKS.out _ s1.out | exact HKS.out _ ((Below.refl _ _).drew)))
          ((first
          | (go_at_call 30; ((with_reducible refine (CB1.out _ ((Below.refl _ _).drew)).mono ?_)); rintro e wA ⟨rfl, bA⟩; have s1 : Hid (Below wc.heap.size wc wA) := Lib.hid (bup ((Below.refl _ _).drew) bA); clear bA)
          | (go_at_call 30; ((with_reducible refine (CB2.out _ s1.out).mono ?_)); rintro e wB ⟨rfl, bB⟩; have s2 : Hid (Below wc.heap.size wc wB) := Lib.hid (bup s1.out bB); clear bB)))
        go_wp2_with fail
        go_roundw
        case rel => exact ⟨k + 1, _, x', by omega, by omega, by go_num, HO', HD', Lib.hid (HS'.out.below (TkR.good _ _ _) s2.out), Lib.hid (HB'.out.trans (s2.out.mono HB'.out.size))⟩
        case measure => simp [intOf]; omega
    · have hk4 : n ≤ k ∨ 120 ≤ k := by omega
      by_cases h3 : k < n
      · have h4 : k = 120 := by omega
        subst h4
        clear hlt HI hk4
        go_wp2_with fail
        go_ret2
        exact ⟨t, V, x, rfl, HO.out, HD.out.more hk2, by rw [HFe.out]; exact HS.out, HB.out⟩
      · have h4 : k = n := by omega
        subst h4
        clear hlt h3 HI hk4
        go_wp2_with fail
        go_ret2
        exact ⟨t, V, x, rfl, HO.out, HD.out.more hk2, by rw [HFe.out]; exact HS.out, HB.out⟩
end Go.Proofs.Ytgabonacpoimfaa
