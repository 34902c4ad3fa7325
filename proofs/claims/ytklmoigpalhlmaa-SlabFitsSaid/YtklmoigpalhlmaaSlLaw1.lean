/-
  The walks of the statements of layer 3, first part.
-/
import Derived.Test.YtklmoigpalhlmaaSlLawP
import Derived.Deep.CutRange
import Derived.Deep.RegionLaw
namespace Go.Proofs.Ytklmoigpalhlmaa
open Go.RowKit
set_option linter.unusedVariables false
set_option linter.unusedSimpArgs false

theorem slMod_form (x : Int) (n : Nat) (h0 : 0 < n) (hn : n ≤ 100000) : ∃ a : Nat, a < n ∧ wrap64 ((IntKind.u64.wrap x).tmod (n : Int)) = a := by
  have h0' : 0 ≤ IntKind.u64.wrap x := by rw [IntKind.wrap_u64]; omega
  rw [Int.tmod_eq_emod_of_nonneg h0']
  have h1 := Int.emod_lt_of_pos (IntKind.u64.wrap x) (show (0 : Int) < n by omega)
  have h2 := Int.emod_nonneg (IntKind.u64.wrap x) (show (n : Int) ≠ 0 by omega)
  refine ⟨((IntKind.u64.wrap x) % n).toNat, by omega, ?_⟩
  rw [IntWalk.wrap64_in _ ⟨by omega, by omega⟩]
  omega
theorem great_false {l : List Sl} (h : slGreat l = false) : l.length ≤ 100 ∧ ∀ x ∈ l, x.d.size ≤ 4096 := by
  simp [slGreat] at h
  exact ⟨h.1, h.2⟩
theorem IsSlots.drew {w : World} {A : Option Addr} {n c : Nat} {l : List Sl} (h : IsSlots w A n c l) : IsSlots w.drew A n c l := h.below ((Below.refl _ w).drew)
theorem bcell {W w1 : World} (hb : Below W.heap.size W w1) : (∀ b o, b < W.heap.size → w1.cell? ⟨b, o, none⟩ = W.cell? ⟨b, o, none⟩) ∧ (∀ b o, b < W.heap.size → w1.frozen? ⟨b, o, none⟩ = W.frozen? ⟨b, o, none⟩) :=
  ⟨fun b o h => hb.cell (p := ⟨b, o, none⟩) h, fun b o h => hb.frozen (p := ⟨b, o, none⟩) h⟩
/-- A text of nothing but zeros. -/
def zeros (m : Nat) : List UInt8 := List.replicate m 0
theorem zeros_cells (m : Nat) : (List.replicate m (Value.int .u8 0)).toArray = (byteVals (zeros m) ++ []).toArray := by
  simp [byteVals, zeros]
theorem zeros_text {w : World} {g : Nat} {m : Nat} (h : Has w g (.cells (List.replicate m (.int .u8 0)).toArray 5)) : (convert 36 9 (.slice (some ⟨g, 0, none⟩) m m)).run Try.prog w = .ok (.string (bs (zeros m))) w := by
  rw [zeros_cells] at h
  have := bytes_back (cap := m) h
  rw [show (zeros m).length = m by simp [zeros]] at this
  exact this
theorem IsSlots.but2 {w w' : World} {A : Option Addr} {n c g : Nat} {l : List Sl} (h : IsSlots w A n c l) (hb : But g w w') (hne : 0 < n → ∀ b off, A = some ⟨b, off, none⟩ → b ≠ g) : IsSlots w' A n c l := by
  refine ⟨h.len, h.cap, h.most, h.size, fun hn => ?_⟩
  obtain ⟨b, off, rfl, hlt, hc⟩ := h.row hn
  have hk := hb.block b hlt (hne hn b off rfl)
  refine ⟨b, off, rfl, Nat.lt_of_lt_of_le hlt hb.size, fun i x hx => ?_⟩
  obtain ⟨h1, h2⟩ := hc i x hx
  exact ⟨(World.cell?_of_block (a := ⟨b, off + i * 2, none⟩) hk).trans h1, (World.cell?_of_block (a := ⟨b, off + i * 2 + 1, none⟩) hk).trans h2⟩
/-- A block that holds an image holds no slots. -/
theorem IsSlots.apart {w w' : World} {A : Option Addr} {n c g : Nat} {l : List Sl} {r : Int} {B : Option Addr} {m k : Nat} {t : TypeId} {fr : Nat × Nat} (h : IsSlots w A n c l) (hg : Has w g (.cells #[.int .i64 r, .slice B m k] t fr)) (hb : But g w w') : IsSlots w' A n c l := by
  refine h.but2 hb fun hn b off e => ?_
  rintro rfl
  subst e
  obtain ⟨b', off', x, e2, hx, _, c1, _⟩ := h.at hn
  obtain ⟨rfl, rfl⟩ : b' = b ∧ off' = off := by cases e2; exact ⟨rfl, rfl⟩
  have h0 := hg.cell 0 _ rfl
  have h1 := hg.cell 1 _ rfl
  unfold Has at hg
  simp only [World.cell?, hg, Nat.zero_mul, Nat.add_zero] at c1
  match off', c1 with
  | 0, c1 => simp at c1
  | 1, c1 => simp at c1
  | j + 2, c1 => simp at c1
/-- An image that a call handed back, stored into a variable that was made ahead of the call. -/
theorem close_in {w2 X w5 : World} {g : Nat} {L : List Sl} {A5 B : Option Addr} {n5 c5 m k : Nat} {r z : Int} (hX : Below w2.heap.size w2 X) (hg : w2.heap.size ≤ g) (hq : Has X g (.cells #[.int .i64 z, .slice B m k] 24)) (b5 : Below X.heap.size X w5) (I5 : IsSlots w5 A5 n5 c5 L) :
    Hid (Has ((w5.setCell ⟨g, 0, none⟩ (.int .i64 r)).setCell ⟨g, 1, none⟩ (.slice A5 n5 c5)) g (.cells #[.int .i64 r, .slice A5 n5 c5] 24)) ∧ Hid (IsSlots ((w5.setCell ⟨g, 0, none⟩ (.int .i64 r)).setCell ⟨g, 1, none⟩ (.slice A5 n5 c5)) A5 n5 c5 L) ∧
      Hid (Below w2.heap.size w2 ((w5.setCell ⟨g, 0, none⟩ (.int .i64 r)).setCell ⟨g, 1, none⟩ (.slice A5 n5 c5))) := by
  have h5 := hq.below b5
  have hb := (But.set g 0 w5 (.int .i64 r)).trans (But.set g 1 (w5.setCell ⟨g, 0, none⟩ (.int .i64 r)) (.slice A5 n5 c5))
  have hB := bup hX b5
  exact ⟨Lib.hid ((h5.set 0 _).set 1 _), Lib.hid (I5.apart h5 hb), Lib.hid (hB.trans (hb.below hg hB.size))⟩
theorem close_out {w2 X w5 : World} {L : List Sl} {A5 : Option Addr} {n5 c5 : Nat} {r : Int} (hX : Below w2.heap.size w2 X) (b5 : Below X.heap.size X w5) (I5 : IsSlots w5 A5 n5 c5 L) :
    Hid (Has (w5.alloc (.cells #[.int .i64 r, .slice A5 n5 c5] 24)) w5.heap.size (.cells #[.int .i64 r, .slice A5 n5 c5] 24)) ∧ Hid (IsSlots (w5.alloc (.cells #[.int .i64 r, .slice A5 n5 c5] 24)) A5 n5 c5 L) ∧
      Hid (Below w2.heap.size w2 (w5.alloc (.cells #[.int .i64 r, .slice A5 n5 c5] 24))) :=
  ⟨Lib.hid (Has.new _ _), Lib.hid (I5.alloc _), Lib.hid (bup (bup hX b5) (bnew _ _))⟩
set_option maxRecDepth 100000 in
set_option maxHeartbeats 16000000 in
theorem SlabFits_walk (lsn : Int) (A : Option Addr) (n c : Nat) (l : List Sl) (w : World) (I : IsSlots w A n c l) (_ : (Lit.int .i64 lsn).wf = true) (slot : Int) (_ : (Lit.int .i64 slot).wf = true) (k : Int) (_ : (Lit.int .i64 k).wf = true) :
    Calls Try.prog 4 #[.agg #[.int .i64 lsn, .slice A n c], .int .i64 slot, .int .i64 k] w fun e w' => e = .returned (.bool true) ∧ Below w.heap.size w w' := by
  obtain ⟨s, hs, hse⟩ := slMod_form slot 32 (by omega) (by omega)
  obtain ⟨m, hm, hme⟩ := slMod_form k 201 (by omega) (by omega)
  have CA := Lib.hid (fun w => slabAwake_any w)
  have CR := Lib.hid (fun w h => great_any lsn A n c l w h)
  have CG := Lib.hid (fun w h => pgood_any lsn A n c l w h)
  have H := Lib.hid I
  clear I
  obtain ⟨g1, hg1⟩ : ∃ g, slGreat l = g := ⟨_, rfl⟩
  obtain ⟨g2, hg2⟩ : ∃ g, slGood lsn l = g := ⟨_, rfl⟩
  rw [hg1] at CR
  rw [hg2] at CG
  by_cases hgo : g1 = false ∧ g2 = true
  · obtain ⟨rfl, rfl⟩ := hgo
    obtain ⟨q1, q2, q3, q4, q5⟩ := (slGood_iff lsn l).1 hg2
    have hlen := H.out.len
    have hcap := H.out.cap
    have hmost := H.out.most
    -- what the put leaves
    have hodd : (Sl.mk true (bs (zeros m))).odd = false := by
      have : (bs (zeros m)).size = m := by rw [bs_size]; simp [zeros]
      simp [Sl.odd, this]; omega
    have hput := putRes_go hg2 hs hodd
    have hsize := putL_size q4 s (x := ⟨true, bs (zeros m)⟩) rfl
    have hzs : (bs (zeros m)).size = m := by rw [bs_size]; simp [zeros]
    simp only [hzs] at hsize
    have hgood := fun h => putL_good hg2 hs hodd h
    obtain ⟨T, hT⟩ : ∃ T, putL l s ⟨true, bs (zeros m)⟩ = T := ⟨_, rfl⟩
    rw [hT] at hput hsize hgood
    obtain ⟨X, hX⟩ : ∃ X : Nat, max n (s + 1) = X := ⟨_, rfl⟩
    obtain ⟨O, hO⟩ : ∃ O : Nat, slOther s 0 l = O := ⟨_, rfl⟩
    have hOle : O ≤ 32 * 200 := by
      rw [← hO]
      have h1 := slOther_le s 200 (any_odd_sizes q3) 0
      have h2 : l.length * 200 ≤ 32 * 200 := Nat.mul_le_mul_right _ q2
      omega
    rw [hlen, hX, hO] at hsize
    have hXle : X ≤ 32 := by omega
    have HOS := Lib.hid (fun j x h => slOther_snoc s l j x h)
    have HOE : Hid (∀ j, n ≤ j → slOther s 0 (l.take j) = O) := Lib.hid (fun j hj => by rw [List.take_of_length_le (by omega), hO])
    have HOL : Hid (∀ j, slOther s 0 (l.take j) ≤ 32 * 200) := Lib.hid (fun j => by
      have h1 := slOther_le (l := l.take j) s 200 (fun x hx => any_odd_sizes q3 x (List.mem_of_mem_take hx)) 0
      have h2 : (l.take j).length * 200 ≤ 32 * 200 := Nat.mul_le_mul_right _ (by simp; omega)
      omega)
    have HSZ := Lib.hid (any_odd_sizes q3)
    have CP : Hid (∀ w, IsSlots w A n c l → Calls Try.prog 20 #[.agg #[.int .i64 lsn, .slice A n c], .int .i64 s, .agg #[.bool true, .string (bs (zeros m))]] w (PageOut (if 240 < slSize T then (0, [], 22) else (lsn, T, 0)) w)) := Lib.hid (fun w h => by
      have := pput_any lsn A n c l s ⟨true, bs (zeros m)⟩ w h (by simp only [hzs]; omega)
      rw [hput] at this
      exact this)
    have CSZ := Lib.hid (fun A n c w h => psize_any lsn A n c T w h)
    have HP : Hid (¬ 240 < slSize T → pgSize lsn T = slSize T) := Lib.hid (fun h => by unfold pgSize; rw [if_pos (hgood (by omega))])
    obtain ⟨Z, hZ⟩ : ∃ Z : Nat, slSize T = Z := ⟨_, rfl⟩
    rw [hZ] at CP HP hsize
    have hmk := fun w => makeBytes m (by omega) m (Nat.le_refl _) (by omega) w
    obtain ⟨F0, hF0⟩ : ∃ F, (List.replicate m (Value.int .u8 0)).toArray = F := ⟨_, rfl⟩
    rw [hF0] at hmk
    have hct := fun w g (h : Has w g (.cells F0 5)) => zeros_text (m := m) (by rw [hF0]; exact h)
    obtain ⟨S, hS⟩ : ∃ S, bs (zeros m) = S := ⟨_, rfl⟩
    rw [hS] at CP hct
    have HX := Lib.hid hX
    have HF := Lib.hid hF0
    replace hmk := Lib.hid hmk
    replace hct := Lib.hid hct
    have hXe : (X = n ∧ s + 1 ≤ n) ∨ (X = s + 1 ∧ n ≤ s) := by omega
    have hZ2 : Z = 9 + X + m + O := by omega
    replace hZ2 := Lib.hid hZ2
    clear hg1 hg2 q1 q2 q3 q4 q5 hodd hput hsize hgood hT hX hO hZ hF0 hS hzs
    go_enter Try.func4, Try.ntmps4
    go_wp2_with fail
    refine (CA.out _).mono ?_
    rintro e w0 ⟨rfl, b0⟩
    have P0 := (Has.new w _).below b0
    have p0 := P0.cell 0 _ rfl
    have p1 := P0.cell 1 _ rfl
    have B0 := Lib.hid (bup (bnew w _) b0)
    have H0 := Lib.hid (H.out.below B0.out)
    replace P0 := Lib.hid P0
    clear b0
    go_wp2_with fail
    refine (CR.out _ H0.out).mono ?_
    rintro e w1 ⟨rfl, b1⟩
    have P1 := Lib.hid (P0.out.below b1)
    have H1 := Lib.hid (H0.out.below b1)
    have B1 := Lib.hid (bup B0.out b1)
    clear p0 p1 P0 H0 B0 b1
    have p0 := P1.out.cell 0 _ rfl
    have p1 := P1.out.cell 1 _ rfl
    go_wp2_with fail
    refine (CG.out _ H1.out).mono ?_
    rintro e w2 ⟨rfl, b2⟩
    have P2 := Lib.hid (P1.out.below b2)
    have H2 := Lib.hid (H1.out.below b2)
    have B2 := Lib.hid (bup B1.out b2)
    clear p0 p1 P1 H1 B1 b2
    have p0 := P2.out.cell 0 _ rfl
    have p1 := P2.out.cell 1 _ rfl
    have hse' : wrap64 ((IntKind.u64.wrap slot).tmod 32) = (s : Int) := hse
    have hme' : wrap64 ((IntKind.u64.wrap k).tmod 201) = (m : Int) := hme
    clear hse hme
    go_upto_region 7 with (fail)
    rw [hse', hme']
    clear hse' hme'
    obtain ⟨R, hR⟩ : ∃ R : Int × List Sl × Int, (if 240 < Z then (0, [], 22) else (lsn, T, 0)) = R := ⟨_, rfl⟩
    rw [hR] at CP
    have HR := Lib.hid hR
    clear hR
    rcases hXe with ⟨he, hx⟩ | ⟨he, hx⟩ <;>
    · have Hst : Hid ((9 + X + m : Nat) = 9 + X + m + slOther s 0 (l.take 0)) := Lib.hid (by simp [slOther])
      go_upto_region 9 with (fail)
      have hxx : (X : Int) = (X : Int) := rfl
      clear hxx
      go_wp2_with fail
      go_loop [8, 9] (fun v i => ∃ j V : Nat, j ≤ n ∧ i = .int .i64 j ∧ v = .int .i64 V ∧ V ≤ 100000 ∧ Hid (V = 9 + X + m + slOther s 0 (l.take j))) (fun _ i => n - (intOf i).toNat)
      case atStart => exact ⟨0, 9 + X + m, by omega, rfl, by rw [he]; go_num, by omega, Hst⟩
      case round =>
        obtain ⟨j, V, hj, rfl, rfl, hV, Hv⟩ := hrel
        by_cases hlt : j < n
        · obtain ⟨b, off, x, rfl, hxx, hbl, h1, h2, hs1⟩ := H2.out.at hlt
          have ho := HOS.out j x hxx
          have hol := HOL.out (j + 1)
          have hvv := Hv.out
          have hxz := HSZ.out x (List.mem_of_getElem? hxx)
          by_cases hjs : j = s
          · rw [if_pos hjs] at ho
            have HV : Hid (V = 9 + X + m + slOther s 0 (l.take (j + 1))) := Lib.hid (by omega)
            have hb : ((j : Int) != (s : Int)) = false := by simp [hjs]
            clear ho hol hvv hxx hjs
            go_wp2_with fail
            go_round
            case rel => exact ⟨j + 1, V, by omega, by go_num, rfl, hV, HV⟩
            case measure => simp [intOf]; omega
          · rw [if_neg hjs] at ho
            have hV2 : V + x.d.size ≤ 100000 := by omega
            have HV : Hid (V + x.d.size = 9 + X + m + slOther s 0 (l.take (j + 1))) := Lib.hid (by omega)
            have hb : ((j : Int) != (s : Int)) = true := by simp; omega
            clear ho hol hvv hxx hjs
            go_wp2_with fail
            go_round
            case rel => exact ⟨j + 1, V + x.d.size, by omega, by go_num, by go_num, hV2, HV⟩
            case measure => simp [intOf]; omega
        · have HV : Hid (V = Z) := Lib.hid (by rw [Hv.out, HOE.out j (by omega), hZ2.out])
          obtain rfl : V = Z := HV.out
          clear HV Hv
          go_upto_region 14 with (fail)
          go_cut [10, 11] from 58 to 67 (fun v10 v11 wx => ∃ gq A' n' c', v10 = .pointer (some ⟨gq, 0, none⟩) ∧ v11 = .int .i64 R.2.2 ∧ Hid (Has wx gq (.cells #[.int .i64 R.1, .slice A' n' c'] 24)) ∧ Hid (IsSlots wx A' n' c' R.2.1) ∧ Hid (Below w2.heap.size w2 wx))
          case first =>
            have hmk2 := hmk.out
            have hlt2 : w.heap.size < w2.heap.size := P2.out.lt
            have k1 : ∀ w : World, (convert 36 9 (.slice (some ⟨w.heap.size, 0, none⟩) m m)).run Try.prog (w.alloc (.cells F0 5)).drew = .ok (.string S) (w.alloc (.cells F0 5)).drew := fun w => hct.out _ _ (Has.new w _).drew
            have k2 : ∀ (w : World) (o : Obj), (convert 36 9 (.slice (some ⟨w.heap.size, 0, none⟩) m m)).run Try.prog ((w.alloc (.cells F0 5)).alloc o).drew = .ok (.string S) ((w.alloc (.cells F0 5)).alloc o).drew := fun w o => hct.out _ _ ((Has.new w _).alloc o).drew
            have k3 : ∀ (w : World) (o : Obj), (convert 36 9 (.slice (some ⟨w.heap.size + 1, 0, none⟩) m m)).run Try.prog ((w.alloc o).alloc (.cells F0 5)).drew = .ok (.string S) ((w.alloc o).alloc (.cells F0 5)).drew := fun w o => hct.out _ _ (Has.new1 w o _).drew
            go_region_law ((go_simp; go_at_call 20; refine (CP.out _ (by repeat (first | exact H2.out | refine IsSlots.drew ?_ | refine IsSlots.alloc ?_ _))).mono ?_; rintro e w5 ⟨A5, n5, c5, rfl, I5, b5⟩; obtain ⟨hc5, hf5⟩ := bcell b5; have hz5 := b5.size))
            all_goals
              clear hc5 hf5 hz5 hmk2 k1 k2 k3 p0 p1
              go_wp2_with fail
              go_meet
              first
              | exact ⟨_, _, _, _, rfl, rfl, close_out (by repeat (first | exact Below.refl _ _ | refine Below.drew ?_ | refine bup ?_ (bnew _ _))) b5 I5⟩
              | exact ⟨_, _, _, _, rfl, rfl, close_in (by repeat (first | exact Below.refl _ _ | refine Below.drew ?_ | refine bup ?_ (bnew _ _))) (by simp) (by repeat (first | exact Has.new _ _ | exact Has.new1 _ _ _ | refine Has.drew ?_ | refine Has.alloc ?_ _)) b5 I5⟩
          case rest =>
          obtain ⟨gq, A5, n5, c5, rfl, rfl, Hq, I5, B5⟩ := hcut
          have B6 := Lib.hid (bup B2.out B5.out)
          have q0 := Hq.out.cell 0 _ rfl
          have q1 := Hq.out.cell 1 _ rfl
          by_cases hf : 240 < V
          · have HR2 : Hid (R = (0, [], 22)) := Lib.hid (by rw [← HR.out, if_pos hf])
            rw [HR2.out] at q0 q1 ⊢
            have hf2 : (240 : Int) < (V : Int) := by omega
            clear hf
            go_wp2_with fail
            go_ret
            exact ⟨by simp, B6.out⟩
          · have HR2 : Hid (R = (lsn, T, 0)) := Lib.hid (by rw [← HR.out, if_neg hf])
            have I6 := I5.out
            rw [HR2.out] at q0 q1 I6 ⊢
            have hf2 : (V : Int) ≤ 240 := by omega
            have CS2 := fun w h => CSZ.out A5 n5 c5 w h
            rw [HP.out hf] at CS2
            replace CS2 := Lib.hid CS2
            replace I6 := Lib.hid I6
            clear hf
            go_wp2_with fail
            refine (CS2.out _ I6.out).mono ?_
            rintro e w7 ⟨rfl, b7⟩
            go_wp2_with fail
            go_ret
            exact ⟨by simp, bup B6.out b7⟩
  · have hno : (g1 = true) ∨ (g1 = false ∧ g2 = false) := by
      cases g1 <;> cases g2 <;> simp_all
    rcases hno with rfl | ⟨rfl, rfl⟩
    · go_enter Try.func4, Try.ntmps4
      go_wp2_with fail
      refine (CA.out _).mono ?_
      rintro e w0 ⟨rfl, b0⟩
      have P0 := (Has.new w _).below b0
      have p0 := P0.cell 0 _ rfl
      have p1 := P0.cell 1 _ rfl
      go_wp2_with fail
      refine (CR.out _ ((H.out.alloc _).below b0)).mono ?_
      rintro e w1 ⟨rfl, b1⟩
      go_wp2_with fail
      go_ret
      exact ⟨rfl, bup (bup (bnew w _) b0) b1⟩
    · go_enter Try.func4, Try.ntmps4
      go_wp2_with fail
      refine (CA.out _).mono ?_
      rintro e w0 ⟨rfl, b0⟩
      have P0 := (Has.new w _).below b0
      have p0 := P0.cell 0 _ rfl
      have p1 := P0.cell 1 _ rfl
      go_wp2_with fail
      refine (CR.out _ ((H.out.alloc _).below b0)).mono ?_
      rintro e w1 ⟨rfl, b1⟩
      have P1 := P0.below b1
      clear p0 p1
      have p0 := P1.cell 0 _ rfl
      have p1 := P1.cell 1 _ rfl
      go_wp2_with fail
      refine (CG.out _ (((H.out.alloc _).below b0).below b1)).mono ?_
      rintro e w2 ⟨rfl, b2⟩
      go_wp2_with fail
      go_ret
      exact ⟨rfl, bup (bup (bup (bnew w _) b0) b1) b2⟩
end Go.Proofs.Ytklmoigpalhlmaa
