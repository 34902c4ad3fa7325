/-
  The walk of a statement of layer 13: nothing is lost but what is picked.
-/
import Derived.Test.YtkdopflnaeejeaaMiAwake
import Derived.Test.YtkdopflnaeejeaaMiCnt
import Derived.OpenShut
import Derived.Deep.QuietTactic
import Derived.BigQuiet
import Derived.Deep.CutRange
import Derived.Deep.CutBlock
import Derived.Deep.DeepCutAuto
import Derived.StillTailTactics
import Derived.Lib.QuietBelow
namespace Go.Proofs.Ytkdopflnaeejeaa
open Go.RowKit Go.Sort
set_option linter.unusedVariables false
set_option linter.unusedSimpArgs false

theorem mod3_of (x : Int) : ∃ a : Nat, a < 3 ∧ wrap64 ((IntKind.u64.wrap x).tmod 3) = a := by
  have h0 : 0 ≤ IntKind.u64.wrap x := by rw [IntKind.wrap_u64]; omega
  rw [Int.tmod_eq_emod_of_nonneg h0]
  refine ⟨((IntKind.u64.wrap x) % 3).toNat, by omega, ?_⟩
  rw [IntWalk.wrap64_in _ ⟨by omega, by omega⟩]
  omega
theorem count_set {L L' : List Gr} {w : World} {b i : Nat} {v : Int} (h : Has w b (.cells (cCells (cI L)) 42)) (hi : i < 8) (hv : cI L' i = v) (hL : ∀ j, j < 8 → cI L' j = if j = i then cI L' i else cI L j) : Has (w.setCell ⟨b, i, none⟩ (.int .i64 v)) b (.cells (cCells (cI L')) 42) := by
  have := h.set i (.int .i64 v)
  rw [← hv, cCells_set (cI L) (cI L') i hi hL] at this
  rw [← hv]
  exact this
theorem count_more {L : List Gr} {w : World} {b a : Nat} {x : Gr} (h : Has w b (.cells (cCells (cI L)) 42)) (ha : a < 3) (hx : x.cl = 1 + (a : Int)) : Has (w.setCell ⟨b, (1 + a) * 2 + wayN x.up, none⟩ (.int .i64 (cI L ((1 + a) * 2 + wayN x.up) + 1))) b (.cells (cCells (cI (L ++ [x]))) 42) := by
  have hc : x.cl = ((1 + a : Nat) : Int) := by rw [hx]; omega
  have hw : wayN x.up ≤ 1 := by unfold wayN; split <;> omega
  refine count_set h (by omega) ?_ (fun j hj => ?_)
  · rw [cI_more hc (by omega), if_pos rfl]
  · rw [cI_more hc (by omega), cI_more hc (by omega), if_pos rfl]
    by_cases e : j = (1 + a) * 2 + wayN x.up
    · rw [if_pos e, if_pos e, e]
    · rw [if_neg e, if_neg e]
theorem count_less {L : List Gr} {w : World} {b a i : Nat} {x : Gr} (h : Has w b (.cells (cCells (cI L)) 42)) (ha : a < 3) (hi : L[i]? = some x) (hx : x.cl = 1 + (a : Int)) : Has (w.setCell ⟨b, (1 + a) * 2 + wayN x.up, none⟩ (.int .i64 (cI L ((1 + a) * 2 + wayN x.up) - 1))) b (.cells (cCells (cI (L.eraseIdx i))) 42) := by
  have hc : x.cl = ((1 + a : Nat) : Int) := by rw [hx]; omega
  have hw : wayN x.up ≤ 1 := by unfold wayN; split <;> omega
  refine count_set h (by omega) ?_ (fun j hj => ?_)
  · rw [cI_less hi hc (by omega), if_pos rfl]
  · rw [cI_less hi hc (by omega), cI_less hi hc (by omega), if_pos rfl]
    by_cases e : j = (1 + a) * 2 + wayN x.up
    · rw [if_pos e, if_pos e, e]
    · rw [if_neg e, if_neg e]
theorem but6 (w : World) (b : Nat) (v0 v1 v2 v3 v4 v5 : Value) : But b w ((((((w.setCell ⟨b, 0, none⟩ v0).setCell ⟨b, 1, none⟩ v1).setCell ⟨b, 2, none⟩ v2).setCell ⟨b, 3, none⟩ v3).setCell ⟨b, 4, none⟩ v4).setCell ⟨b, 5, none⟩ v5) :=
  (((((But.set b 0 w v0).trans (But.set b 1 _ v1)).trans (But.set b 2 _ v2)).trans (But.set b 3 _ v3)).trans (But.set b 4 _ v4)).trans (But.set b 5 _ v5)
theorem cI_bound {L : List Gr} (h : Inv3 L) (i : Nat) : 0 ≤ cI L i ∧ cI L i ≤ 64 := by
  unfold cI
  split
  · omega
  · have := h.2 ((i / 2 : Nat) : Int) (i % 2 == 1); omega
set_option maxRecDepth 100000 in
set_option maxHeartbeats 8000000 in
theorem MistCounts_walk (A : Option Addr) (n c : Nat) (l : List MAct) (w : World) (I : IsRow 8 MAct.row MAct.ok w A n c l) :
    Calls Try.prog 5 #[.slice A n c] w fun e w' => e = .returned (.bool true) ∧ Below w.heap.size w w' := by
  have CA := Lib.hid (fun w => mistAwake_any w)
  have H := Lib.hid I
  have hcap := I.cap
  have hmost := I.most
  clear I
  go_enter Try.func5, Try.ntmps5
  go_wp2_with fail
  refine (CA.out _).mono ?_
  rintro e w0 ⟨rfl, b0⟩
  have B0 := Lib.hid b0
  clear b0
  go_wp2_with (go_at_call 8; (with_reducible refine (new_any _).mono ?_); rintro e w1 ⟨rfl, rfl⟩)
  obtain ⟨F, hF⟩ : ∃ F : Nat → Prop, F = fun k => k < w0.heap.size ∨ k = w0.heap.size + 1 := ⟨_, rfl⟩
  have HFB : Hid (∀ k, k < w0.heap.size → F k) := Lib.hid (fun k hk => by rw [hF]; exact .inl hk)
  have HFC : Hid (F (w0.heap.size + 1)) := Lib.hid (by rw [hF]; exact .inr rfl)
  have HH : Hid (Held F (Star (NetR 53 w0.heap.size []) Emp) ((w0.alloc (.cells #[.slice none 0 0] 53)).alloc (.cells #[.int .i64 0, .int .i64 0, .int .i64 0, .int .i64 0, .int .i64 0, .int .i64 0, .int .i64 0, .int .i64 0] 42))) := Lib.hid (by
    have h1 := Held.newNet Emp.good (Held.emp (F := fun k => k < w0.heap.size) (w := w0) (fun k hk => hk)) 53
    refine h1.more (Star.good (NetR.good _ _ _) Emp.good) (bnew _ _) (fun j hj => ?_)
    rw [hF] at hj
    rcases hj with h | h
    · exact .inl h
    · subst h; exact .inr (by simp))
  have B1 : Hid (Below w0.heap.size w0 ((w0.alloc (.cells #[.slice none 0 0] 53)).alloc (.cells #[.int .i64 0, .int .i64 0, .int .i64 0, .int .i64 0, .int .i64 0, .int .i64 0, .int .i64 0, .int .i64 0] 42))) := Lib.hid (bup (bnew w0 _) (bnew _ _))
  have HC : Hid (Has ((w0.alloc (.cells #[.slice none 0 0] 53)).alloc (.cells #[.int .i64 0, .int .i64 0, .int .i64 0, .int .i64 0, .int .i64 0, .int .i64 0, .int .i64 0, .int .i64 0] 42)) (w0.heap.size + 1) (.cells (cCells (cI [])) 42)) := Lib.hid (by rw [cI_nil]; exact Has.new1 w0 _ _)
  have HI := Lib.hid (H.out.below B0.out)
  have gdA := Lib.hid (fun S => Star.good (NetR.good 53 w0.heap.size S) Emp.good)
  clear hF H CA
  go_loopw [5] (fun i wr => ∃ (k : Nat) (L : List Gr), k ≤ n ∧ k ≤ 200 ∧ i = .int .i64 k ∧ Hid (L.length ≤ k) ∧ Hid (Inv3 L) ∧ Hid (Held F (Star (NetR 53 w0.heap.size L) Emp) wr) ∧ Hid (Has wr (w0.heap.size + 1) (.cells (cCells (cI L)) 42)) ∧ Hid (Below w0.heap.size w0 wr)) (fun i _ => n - (intOf i).toNat)
  case atStart => exact ⟨0, [], by omega, by omega, rfl, Lib.hid (Nat.le_refl _), Lib.hid Inv3.nil, HH, HC, B1⟩
  case round =>
    obtain ⟨k, L, hk, hk2, rfl, HL, HV, HS, HCC, HB⟩ := hrel
    clear HH B1 HC
    by_cases hlt : k < n ∧ k < 200
    · obtain ⟨hlt, hlt2⟩ := hlt
      obtain ⟨b, off, x, rfl, hx, hok, hG⟩ := acts_at HI.out hlt
      have hG0 := hG.below HB.out
      have HG := Lib.hid (fun (w' : World) (b : Below w0.heap.size w0 w') => hG.below b)
      obtain ⟨kd, ⟨c', u, ep, sq, ak, bd⟩, at1⟩ := x
      have ha1 := bounds_i64 hok.2.2
      have hbd : bd.size ≤ 140737488351232 := hok.2.1.2.2.2.2
      have hbl : b < wr.heap.size := block_lt_of_cell hG0.k
      have hbw : b < w0.heap.size := block_lt_of_cell hG.k
      have HA := Lib.hid ha1
      have dk := hG0.k
      have da := hG0.at_
      have d0 := hG0.g.a0
      have d1 := hG0.g.a1
      have d2 := hG0.g.a2
      have d3 := hG0.g.a3
      have d4 := hG0.g.a4
      have d5 := hG0.g.a5
      simp only at d0 d1 d2 d3 d4 d5
      simp only at dk da
      obtain ⟨a, ha, hae⟩ := mod3_of c'
      clear hG hx hG0 hok ha1
      by_cases hbig : 4096 < bd.size
      · clear hae
        go_wp2_with fail
        go_ret
        exact ⟨rfl, B0.out.trans ((bup HB.out (bnew wr _)).mono B0.out.size)⟩
      · have hbig' : bd.size ≤ 4096 := by omega
        clear hbig
        cases u with
        | false =>
          go_upto_block 2 with (fail)
          have Y3 := Lib.hid (Has.new wr (.cells #[.int .i64 (1 + (a : Int)), .bool false, .int .i64 ep, .int .i64 sq, .int .i64 ak, .string bd] 27))
          have H3 : Hid (Held (fun k => F k ∨ k = wr.heap.size) (Star (NetR 53 w0.heap.size L) Emp) (wr.alloc (.cells #[.int .i64 (1 + (a : Int)), .bool false, .int .i64 ep, .int .i64 sq, .int .i64 ak, .string bd] 27))) := Lib.hid (HS.out.more (gdA.out _) (bnew wr _) (fun j hj => hj.imp id (fun e => by subst e; simp)))
          have C3 := Lib.hid (HCC.out.alloc (.cells #[.int .i64 (1 + (a : Int)), .bool false, .int .i64 ep, .int .i64 sq, .int .i64 ak, .string bd] 27))
          have B3 := Lib.hid (bup HB.out (bnew wr (.cells #[.int .i64 (1 + (a : Int)), .bool false, .int .i64 ep, .int .i64 sq, .int .i64 ak, .string bd] 27)))
          generalize hw3 : World.alloc wr _ = w3
          rw [hw3] at Y3 H3 C3 B3
          clear hw3 d0 d1 d2 d3 d4 d5 dk da hae HS HCC
          have h200 : L.length ≤ 1000000 := by have := HL.out; omega
          have hcl : (1 : Int) ≤ 1 + (a : Int) ∧ 1 + (a : Int) ≤ 3 := by omega
          have HFB2 : Hid (∀ j, j < w0.heap.size → (fun k => F k ∨ k = wr.heap.size) j) := Lib.hid (fun j hj => .inl (HFB.out j hj))
          have ht : ((1 : Int) + (a : Int)).toNat = 1 + a := by omega
          have hi4 : (1 : Int) + (a : Int) < 4 := by omega
          have hi0 : (0 : Int) ≤ 1 + (a : Int) := by omega
          go_cut [12] (fun v12 wx => ∃ L' : List Gr, Hid (L'.length ≤ k + 1) ∧ Hid (Inv3 L') ∧ Hid (Held F (Star (NetR 53 w0.heap.size L') Emp) wx) ∧ Hid (Has wx (w0.heap.size + 1) (.cells (cCells (cI L')) 42)) ∧ Hid (Below w0.heap.size w0 wx))
          case first =>
            by_cases h1 : (kd == 1) = true
            · as_aux_lemma =>
                have CP := fun w h => putH (F := (fun k => F k ∨ k = wr.heap.size)) Emp.good w0.heap.size L (⟨1 + (a : Int), false, ep, sq, ak, bd⟩ : Gr) w h200 h
                obtain ⟨R, hR⟩ : ∃ R, putG L (⟨1 + (a : Int), false, ep, sq, ak, bd⟩ : Gr) = R := ⟨_, rfl⟩
                have hc := HV.out.put (x := (⟨1 + (a : Int), false, ep, sq, ak, bd⟩ : Gr)) hcl
                rw [hR] at CP hc
                obtain ⟨L', er⟩ := R
                simp only at hc
                simp only [Gr.val] at CP
                have HCs := Lib.hid hc
                have HCP := Lib.hid CP
                have y0 := Y3.out.cell 0 _ rfl
                have y1 := Y3.out.cell 1 _ rfl
                have y2 := Y3.out.cell 2 _ rfl
                have y3 := Y3.out.cell 3 _ rfl
                have y4 := Y3.out.cell 4 _ rfl
                have y5 := Y3.out.cell 5 _ rfl
                clear CP hc hR hcl
                by_cases h0 : er = 0
                · subst h0
                  obtain ⟨hL1, hL2⟩ : L' = L ++ [(⟨1 + (a : Int), false, ep, sq, ak, bd⟩ : Gr)] ∧ Inv3 (L ++ [(⟨1 + (a : Int), false, ep, sq, ak, bd⟩ : Gr)]) := by
                    rcases HCs.out with ⟨_, h, g⟩ | ⟨h, _⟩
                    · exact ⟨h, g⟩
                    · exact absurd rfl h
                  have HL1 := Lib.hid hL1
                  have HL2 := Lib.hid hL2
                  clear hL1 hL2
                  go_wp2_with fail
                  refine (HCP.out _ H3.out).mono ?_
                  rintro e w4 ⟨rfl, h4, k4⟩
                  rw [HL1.out] at h4
                  have Y4 := Lib.hid (Y3.out.keptF k4 (.inr rfl))
                  have H4 := Lib.hid (h4.less (G := F) (fun j hj => .inl hj))
                  have C4 := Lib.hid (C3.out.keptF k4 (.inl HFC.out))
                  have B4 := Lib.hid (B3.out.trans (k4.belowB HFB2.out B3.out.size))
                  clear h4 k4 y0 y1 y2 y3 y4 y5
                  have y0 := Y4.out.cell 0 _ rfl
                  obtain ⟨v, hv⟩ : ∃ v, cI L ((1 + a) * 2) = v := ⟨_, rfl⟩
                  obtain ⟨hv0, hv64⟩ : 0 ≤ v ∧ v ≤ 64 := by rw [← hv]; exact cI_bound HV.out _
                  have cc : w4.cell? ⟨w0.heap.size + 1, (1 + a) * 2, none⟩ = some (.int .i64 v) := by rw [← hv]; exact C4.out.cell _ _ (cCells_at _ _ (by omega))
                  have cf := C4.out.free ((1 + a) * 2)
                  have hcm : Has (w4.setCell ⟨w0.heap.size + 1, (1 + a) * 2, none⟩ (.int .i64 (cI L ((1 + a) * 2) + 1))) (w0.heap.size + 1) (.cells (cCells (cI (L ++ [(⟨1 + (a : Int), false, ep, sq, ak, bd⟩ : Gr)]))) 42) := count_more (x := (⟨1 + (a : Int), false, ep, sq, ak, bd⟩ : Gr)) C4.out ha rfl
                  rw [hv] at hcm
                  have HCM := Lib.hid hcm
                  clear hv hcm
                  go_wp2_with fail
                  go_still_tail 9, (by kernel_rfl)
                  change wpList _ _ _ _ _ w4.drew
                  go_wp2_with fail
                  go_meet
                  exact ⟨L ++ [(⟨1 + (a : Int), false, ep, sq, ak, bd⟩ : Gr)], Lib.hid (by have := HL.out; rw [List.length_append]; simp only [List.length_cons, List.length_nil]; omega), HL2, Lib.hid ((H4.out.but (gdA.out _) (But.set (w0.heap.size + 1) ((1 + a) * 2) w4 _) HFC.out).below (gdA.out _) ((Below.refl _ _).drew)), Lib.hid HCM.out.drew, Lib.hid ((B4.out.setCell (p := ⟨w0.heap.size + 1, (1 + a) * 2, none⟩) (by simp) _).drew)⟩
                · have hb : (er == 0) = false := by simpa using h0
                  have HL1 : Hid (L' = L) := Lib.hid (by
                    rcases HCs.out with ⟨h, _⟩ | ⟨_, h⟩
                    · exact absurd h h0
                    · exact h)
                  clear h0
                  go_wp2_with fail
                  refine (HCP.out _ H3.out).mono ?_
                  rintro e w4 ⟨rfl, h4, k4⟩
                  rw [HL1.out] at h4
                  have H4 := Lib.hid (h4.less (G := F) (fun j hj => .inl hj))
                  have C4 := Lib.hid (C3.out.keptF k4 (.inl HFC.out))
                  have B4 := Lib.hid (B3.out.trans (k4.belowB HFB2.out B3.out.size))
                  clear h4 k4 y0 y1 y2 y3 y4 y5
                  go_wp2_with fail
                  go_meet
                  exact ⟨L, Lib.hid (by have := HL.out; omega), HV, H4, C4, B4⟩
            · have h1' : (kd == 1) = false := by simpa using h1
              clear h1
              by_cases h2 : (kd == 2) = true
              · as_aux_lemma =>
                  have hG3 := HG.out _ B3.out
                  have da := hG3.at_
                  simp only at da
                  have y0 := Y3.out.cell 0 _ rfl
                  have y1 := Y3.out.cell 1 _ rfl
                  have CP := fun (F' : Nat → Prop) w h => pickH (F := F') Emp.good w0.heap.size L (1 + (a : Int)) false at1 w HA.out.1 HA.out.2 h
                  rcases pick_cases L (1 + (a : Int)) false at1 with ⟨i, x, hxi, e1, e2, e3⟩ | e3
                  · obtain ⟨xc, xu, xe, xs, xk, xb⟩ := x
                    simp only at e1 e2
                    subst e1 e2
                    rw [e3] at CP
                    simp only [Gr.val] at CP
                    have HXi := Lib.hid hxi
                    clear hxi e3 hcl hG3
                    have HCa := Lib.hid (CP (fun k => F k ∨ k = wr.heap.size))
                    have HCb := Lib.hid (CP (fun k => (F k ∨ k = wr.heap.size) ∨ k = w3.heap.size))
                    clear CP
                    go_upto_region 20 with (fail)
                    go_cut [9] (fun v9 wx => v9 = .bool true ∧ Hid (Held F (Star (NetR 53 w0.heap.size (L.eraseIdx i)) Emp) wx) ∧ Hid (Has wx wr.heap.size (.cells #[.int .i64 (1 + (a : Int)), .bool false, .int .i64 ep, .int .i64 sq, .int .i64 ak, .string bd] 27)) ∧ Hid (Has wx (w0.heap.size + 1) (.cells (cCells (cI L)) 42)) ∧ Hid (Below w0.heap.size w0 wx))
                    case first =>
                      have hlt3 : ¬ (fun k => F k ∨ k = wr.heap.size) w3.heap.size := fun h => by have := H3.out.lt h; omega
                      have HK : Hid (∀ w', KeptF (fun k => F k ∨ k = wr.heap.size) w3 w' → (fun w' => w'.cell? ⟨wr.heap.size, 0, none⟩ = some (.int .i64 (1 + (a : Int))) ∧ w'.cell? ⟨wr.heap.size, 1, none⟩ = some (.bool false) ∧ w'.cell? ⟨b, off + k * 8 + 7, none⟩ = some (.int .i64 at1)) w') := Lib.hid (fun w' kk => ⟨(Y3.out.keptF kk (.inr rfl)).cell 0 _ rfl, (Y3.out.keptF kk (.inr rfl)).cell 1 _ rfl, kk.cell da (fun e => e (.inl (HFB.out b hbw)))⟩)
                      have HL3 : Hid ((fun k => ¬ (fun k => F k ∨ k = wr.heap.size) k) w3.heap.size) := Lib.hid hlt3
                      have HDa := Lib.hid (H3.out.below (gdA.out _) ((Below.refl _ w3).drew))
                      have HDb : Hid (Held (fun k => (F k ∨ k = wr.heap.size) ∨ k = w3.heap.size) (Star (NetR 53 w0.heap.size L) Emp) (w3.alloc (.cells #[.int .i64 0, .bool false, .int .i64 0, .int .i64 0, .int .i64 0, .string ⟨#[]⟩] 27)).drew) := Lib.hid ((H3.out.more (gdA.out _) (bnew w3 _) (fun j hj => hj.imp id (fun e => by subst e; simp))).below (gdA.out _) ((Below.refl _ _).drew))
                      have DBa : Hid (Below w3.heap.size w3 w3.drew) := Lib.hid ((Below.refl _ _).drew)
                      have DBb : Hid (Below w3.heap.size w3 (w3.alloc (.cells #[.int .i64 0, .bool false, .int .i64 0, .int .i64 0, .int .i64 0, .string ⟨#[]⟩] 27)).drew) := Lib.hid ((bnew w3 _).drew)
                      clear hlt3 y0 y1 da
                      go_region_held3? (fun w' => w'.cell? ⟨wr.heap.size, 0, none⟩ = some (.int .i64 (1 + (a : Int))) ∧ w'.cell? ⟨wr.heap.size, 1, none⟩ = some (.bool false) ∧ w'.cell? ⟨b, off + k * 8 + 7, none⟩ = some (.int .i64 at1)) ((refine HK.out _ ?_; first | with_reducible exact Kept.of DBa.out | with_reducible exact Kept.of DBb.out | with_reducible exact s4 | with_reducible exact s4.trans (Kept.of (bnew w4 _)) | with_reducible exact s4.trans (Kept.but (but6 w4 w3.heap.size _ _ _ _ _ _) HL3.out)))
                        (first
                        | (go_at_call 11; ((with_reducible refine (HCa.out _ HDa.out).mono ?_)); rintro e w4 ⟨rfl, h4, k4⟩; have s4 : KeptF (fun k => F k ∨ k = wr.heap.size) w3 w4 := (Kept.of DBa.out).trans k4; have H4 := Lib.hid h4; clear h4 k4)
                        | (go_at_call 11; ((with_reducible refine (HCb.out _ HDb.out).mono ?_)); rintro e w4 ⟨rfl, h4, k4⟩; have s4 : KeptF (fun k => F k ∨ k = wr.heap.size) w3 w4 := (Kept.of DBb.out).trans (k4.mono (fun j hj h => hj (.inl h))); have Z4 := Lib.hid (((Has.new w3 (.cells #[.int .i64 0, .bool false, .int .i64 0, .int .i64 0, .int .i64 0, .string ⟨#[]⟩] 27)).drew).keptF k4 (.inr rfl)); have H4 := Lib.hid h4; clear h4 k4; have z0 := Z4.out.cell 0 _ rfl; have z1 := Z4.out.cell 1 _ rfl; have z2 := Z4.out.cell 2 _ rfl; have z3 := Z4.out.cell 3 _ rfl; have z4 := Z4.out.cell 4 _ rfl; have z5 := Z4.out.cell 5 _ rfl; have zf0 := Z4.out.free 0; have zf1 := Z4.out.free 1; have zf2 := Z4.out.free 2; have zf3 := Z4.out.free 3; have zf4 := Z4.out.free 4; have zf5 := Z4.out.free 5))
                      all_goals
                        go_wp2_with fail
                        go_meet
                        first
                        | (have _z := Z4; clear _z; have t4 : KeptF (fun k => F k ∨ k = wr.heap.size) w3 ((((((w4.setCell ⟨w3.heap.size, 0, none⟩ (.int .i64 (1 + (a : Int)))).setCell ⟨w3.heap.size, 1, none⟩ (.bool false)).setCell ⟨w3.heap.size, 2, none⟩ (.int .i64 xe)).setCell ⟨w3.heap.size, 3, none⟩ (.int .i64 xs)).setCell ⟨w3.heap.size, 4, none⟩ (.int .i64 xk)).setCell ⟨w3.heap.size, 5, none⟩ (.string xb)) := s4.trans (Kept.but (but6 w4 w3.heap.size _ _ _ _ _ _) HL3.out); exact ⟨rfl, Lib.hid ((H4.out.but (gdA.out _) (but6 w4 w3.heap.size _ _ _ _ _ _) (.inr rfl)).less (fun j hj => .inl (.inl hj))), Lib.hid (Y3.out.keptF t4 (.inr rfl)), Lib.hid (C3.out.keptF t4 (.inl HFC.out)), Lib.hid (B3.out.trans (t4.belowB HFB2.out B3.out.size))⟩)
                        | (have t4 : KeptF (fun k => F k ∨ k = wr.heap.size) w3 (w4.alloc (.cells #[.int .i64 (1 + (a : Int)), .bool false, .int .i64 xe, .int .i64 xs, .int .i64 xk, .string xb] 27)) := s4.trans (Kept.of (bnew w4 _)); exact ⟨rfl, Lib.hid ((H4.out.below (gdA.out _) (bnew w4 _)).less (fun j hj => .inl hj)), Lib.hid (Y3.out.keptF t4 (.inr rfl)), Lib.hid (C3.out.keptF t4 (.inl HFC.out)), Lib.hid (B3.out.trans (t4.belowB HFB2.out B3.out.size))⟩)
                    case rest =>
                      obtain ⟨rfl, H4, Y4, C4, B4⟩ := hcut
                      clear y0 y1 da
                      have y0 := Y4.out.cell 0 _ rfl
                      obtain ⟨v, hv⟩ : ∃ v, cI L ((1 + a) * 2) = v := ⟨_, rfl⟩
                      obtain ⟨hv0, hv64⟩ : 0 ≤ v ∧ v ≤ 64 := by rw [← hv]; exact cI_bound HV.out _
                      have cc : wc.cell? ⟨w0.heap.size + 1, (1 + a) * 2, none⟩ = some (.int .i64 v) := by rw [← hv]; exact C4.out.cell _ _ (cCells_at _ _ (by omega))
                      have cf := C4.out.free ((1 + a) * 2)
                      have hcm : Has (wc.setCell ⟨w0.heap.size + 1, (1 + a) * 2, none⟩ (.int .i64 (cI L ((1 + a) * 2) - 1))) (w0.heap.size + 1) (.cells (cCells (cI (L.eraseIdx i))) 42) := count_less (x := ⟨1 + (a : Int), false, xe, xs, xk, xb⟩) C4.out ha HXi.out rfl
                      rw [hv] at hcm
                      have HCM := Lib.hid hcm
                      clear hv hcm
                      go_wp2_with fail
                      go_still_tail 9, (by kernel_rfl)
                      change wpList _ _ _ _ _ wc.drew
                      go_wp2_with fail
                      go_meet
                      exact ⟨L.eraseIdx i, Lib.hid (by have := HL.out; have := List.length_eraseIdx_le L i; omega), Lib.hid (HV.out.erase i), Lib.hid ((H4.out.but (gdA.out _) (But.set (w0.heap.size + 1) ((1 + a) * 2) wc _) HFC.out).below (gdA.out _) ((Below.refl _ _).drew)), Lib.hid HCM.out.drew, Lib.hid ((B4.out.setCell (p := ⟨w0.heap.size + 1, (1 + a) * 2, none⟩) (by simp) _).drew)⟩
                  · rw [e3] at CP
                    simp only [Gr.val, Gr.none] at CP
                    clear e3 hcl hG3
                    have HCa := Lib.hid (CP (fun k => F k ∨ k = wr.heap.size))
                    have HCb := Lib.hid (CP (fun k => (F k ∨ k = wr.heap.size) ∨ k = w3.heap.size))
                    clear CP
                    go_upto_region 20 with (fail)
                    go_cut [9] (fun v9 wx => v9 = .bool false ∧ Hid (Held F (Star (NetR 53 w0.heap.size L) Emp) wx) ∧ Hid (Has wx wr.heap.size (.cells #[.int .i64 (1 + (a : Int)), .bool false, .int .i64 ep, .int .i64 sq, .int .i64 ak, .string bd] 27)) ∧ Hid (Has wx (w0.heap.size + 1) (.cells (cCells (cI L)) 42)) ∧ Hid (Below w0.heap.size w0 wx))
                    case first =>
                      have hlt3 : ¬ (fun k => F k ∨ k = wr.heap.size) w3.heap.size := fun h => by have := H3.out.lt h; omega
                      have HK : Hid (∀ w', KeptF (fun k => F k ∨ k = wr.heap.size) w3 w' → (fun w' => w'.cell? ⟨wr.heap.size, 0, none⟩ = some (.int .i64 (1 + (a : Int))) ∧ w'.cell? ⟨wr.heap.size, 1, none⟩ = some (.bool false) ∧ w'.cell? ⟨b, off + k * 8 + 7, none⟩ = some (.int .i64 at1)) w') := Lib.hid (fun w' kk => ⟨(Y3.out.keptF kk (.inr rfl)).cell 0 _ rfl, (Y3.out.keptF kk (.inr rfl)).cell 1 _ rfl, kk.cell da (fun e => e (.inl (HFB.out b hbw)))⟩)
                      have HL3 : Hid ((fun k => ¬ (fun k => F k ∨ k = wr.heap.size) k) w3.heap.size) := Lib.hid hlt3
                      have HDa := Lib.hid (H3.out.below (gdA.out _) ((Below.refl _ w3).drew))
                      have HDb : Hid (Held (fun k => (F k ∨ k = wr.heap.size) ∨ k = w3.heap.size) (Star (NetR 53 w0.heap.size L) Emp) (w3.alloc (.cells #[.int .i64 0, .bool false, .int .i64 0, .int .i64 0, .int .i64 0, .string ⟨#[]⟩] 27)).drew) := Lib.hid ((H3.out.more (gdA.out _) (bnew w3 _) (fun j hj => hj.imp id (fun e => by subst e; simp))).below (gdA.out _) ((Below.refl _ _).drew))
                      have DBa : Hid (Below w3.heap.size w3 w3.drew) := Lib.hid ((Below.refl _ _).drew)
                      have DBb : Hid (Below w3.heap.size w3 (w3.alloc (.cells #[.int .i64 0, .bool false, .int .i64 0, .int .i64 0, .int .i64 0, .string ⟨#[]⟩] 27)).drew) := Lib.hid ((bnew w3 _).drew)
                      clear hlt3 y0 y1 da
                      go_region_held3? (fun w' => w'.cell? ⟨wr.heap.size, 0, none⟩ = some (.int .i64 (1 + (a : Int))) ∧ w'.cell? ⟨wr.heap.size, 1, none⟩ = some (.bool false) ∧ w'.cell? ⟨b, off + k * 8 + 7, none⟩ = some (.int .i64 at1)) ((refine HK.out _ ?_; first | with_reducible exact Kept.of DBa.out | with_reducible exact Kept.of DBb.out | with_reducible exact s4 | with_reducible exact s4.trans (Kept.of (bnew w4 _)) | with_reducible exact s4.trans (Kept.but (but6 w4 w3.heap.size _ _ _ _ _ _) HL3.out)))
                        (first
                        | (go_at_call 11; ((with_reducible refine (HCa.out _ HDa.out).mono ?_)); rintro e w4 ⟨rfl, h4, k4⟩; have s4 : KeptF (fun k => F k ∨ k = wr.heap.size) w3 w4 := (Kept.of DBa.out).trans k4; have H4 := Lib.hid h4; clear h4 k4)
                        | (go_at_call 11; ((with_reducible refine (HCb.out _ HDb.out).mono ?_)); rintro e w4 ⟨rfl, h4, k4⟩; have s4 : KeptF (fun k => F k ∨ k = wr.heap.size) w3 w4 := (Kept.of DBb.out).trans (k4.mono (fun j hj h => hj (.inl h))); have Z4 := Lib.hid (((Has.new w3 (.cells #[.int .i64 0, .bool false, .int .i64 0, .int .i64 0, .int .i64 0, .string ⟨#[]⟩] 27)).drew).keptF k4 (.inr rfl)); have H4 := Lib.hid h4; clear h4 k4; have z0 := Z4.out.cell 0 _ rfl; have z1 := Z4.out.cell 1 _ rfl; have z2 := Z4.out.cell 2 _ rfl; have z3 := Z4.out.cell 3 _ rfl; have z4 := Z4.out.cell 4 _ rfl; have z5 := Z4.out.cell 5 _ rfl; have zf0 := Z4.out.free 0; have zf1 := Z4.out.free 1; have zf2 := Z4.out.free 2; have zf3 := Z4.out.free 3; have zf4 := Z4.out.free 4; have zf5 := Z4.out.free 5))
                      all_goals
                        go_wp2_with fail
                        go_meet
                        first
                        | (have _z := Z4; clear _z; have t4 : KeptF (fun k => F k ∨ k = wr.heap.size) w3 ((((((w4.setCell ⟨w3.heap.size, 0, none⟩ (.int .i64 0)).setCell ⟨w3.heap.size, 1, none⟩ (.bool false)).setCell ⟨w3.heap.size, 2, none⟩ (.int .i64 0)).setCell ⟨w3.heap.size, 3, none⟩ (.int .i64 0)).setCell ⟨w3.heap.size, 4, none⟩ (.int .i64 0)).setCell ⟨w3.heap.size, 5, none⟩ (.string ⟨#[]⟩)) := s4.trans (Kept.but (but6 w4 w3.heap.size _ _ _ _ _ _) HL3.out); exact ⟨rfl, Lib.hid ((H4.out.but (gdA.out _) (but6 w4 w3.heap.size _ _ _ _ _ _) (.inr rfl)).less (fun j hj => .inl (.inl hj))), Lib.hid (Y3.out.keptF t4 (.inr rfl)), Lib.hid (C3.out.keptF t4 (.inl HFC.out)), Lib.hid (B3.out.trans (t4.belowB HFB2.out B3.out.size))⟩)
                        | (have t4 : KeptF (fun k => F k ∨ k = wr.heap.size) w3 (w4.alloc (.cells #[.int .i64 0, .bool false, .int .i64 0, .int .i64 0, .int .i64 0, .string ⟨#[]⟩] 27)) := s4.trans (Kept.of (bnew w4 _)); exact ⟨rfl, Lib.hid ((H4.out.below (gdA.out _) (bnew w4 _)).less (fun j hj => .inl hj)), Lib.hid (Y3.out.keptF t4 (.inr rfl)), Lib.hid (C3.out.keptF t4 (.inl HFC.out)), Lib.hid (B3.out.trans (t4.belowB HFB2.out B3.out.size))⟩)
                    case rest =>
                      obtain ⟨rfl, H4, Y4, C4, B4⟩ := hcut
                      clear y0 y1 da
                      go_wp2_with fail
                      go_meet
                      exact ⟨L, Lib.hid (by have := HL.out; omega), HV, H4, C4, B4⟩
              · have h2' : (kd == 2) = false := by simpa using h2
                clear h2
                by_cases h3 : (kd == 3) = true
                · as_aux_lemma =>
                    have hG3 := HG.out _ B3.out
                    have da := hG3.at_
                    simp only at da
                    have y0 := Y3.out.cell 0 _ rfl
                    have y1 := Y3.out.cell 1 _ rfl
                    have CP := fun w h => copyH (F := (fun k => F k ∨ k = wr.heap.size)) Emp.good w0.heap.size L (1 + (a : Int)) false at1 w h200 HA.out.1 HA.out.2 h
                    have hc := copy_cases L (1 + (a : Int)) false at1
                    obtain ⟨R, hR⟩ : ∃ R, copyG L (1 + (a : Int)) false at1 = R := ⟨_, rfl⟩
                    rw [hR] at CP hc
                    obtain ⟨L', tt⟩ := R
                    simp only at CP
                    have hcs : (tt = true ∧ ∃ x : Gr, x.cl = 1 + (a : Int) ∧ x.up = false ∧ L' = L ++ [x] ∧ Inv3 (L ++ [x])) ∨ (tt = false ∧ L' = L) := by
                      rcases hc with ⟨x, hx, e1, e2, e3⟩ | e3
                      · obtain ⟨rfl, rfl⟩ : L' = (putG L x).1 ∧ tt = ((putG L x).2 == 0) := by cases e3; exact ⟨rfl, rfl⟩
                        rcases HV.out.put (x := x) (by rw [e1]; exact hcl) with ⟨q1, q2, q3⟩ | ⟨q1, q2⟩
                        · exact .inl ⟨by rw [q1]; rfl, x, e1, e2, q2, q3⟩
                        · exact .inr ⟨by simpa using q1, q2⟩
                      · cases e3; exact .inr ⟨rfl, rfl⟩
                    have HCP := Lib.hid CP
                    have HCs := Lib.hid hcs
                    clear CP hc hR hcl hcs hG3
                    cases tt with
                    | true =>
                      obtain ⟨x, hx⟩ : ∃ x : Gr, x.cl = 1 + (a : Int) ∧ x.up = false ∧ L' = L ++ [x] ∧ Inv3 (L ++ [x]) := by
                        rcases HCs.out with ⟨_, h⟩ | ⟨h, _⟩
                        · exact h
                        · cases h
                      have HX := Lib.hid hx
                      clear hx
                      go_wp2_with fail
                      go_still_tail 10, (by kernel_rfl)
                      change wpList _ _ _ _ _ w3.drew
                      have D3 : Below w3.heap.size w3 w3.drew := (Below.refl _ _).drew
                      have H3' := Lib.hid (H3.out.below (gdA.out _) D3)
                      have DD := Lib.hid D3
                      clear D3
                      go_wp2_with fail
                      refine (HCP.out _ H3'.out).mono ?_
                      rintro e w4 ⟨rfl, h4, k4⟩
                      rw [HX.out.2.2.1] at h4
                      have Y4 := Lib.hid ((Y3.out.below DD.out).keptF k4 (.inr rfl))
                      have H4 := Lib.hid (h4.less (G := F) (fun j hj => .inl hj))
                      have C4 := Lib.hid ((C3.out.below DD.out).keptF k4 (.inl HFC.out))
                      have B4 := Lib.hid ((bup B3.out DD.out).trans (k4.belowB HFB2.out (bup B3.out DD.out).size))
                      clear h4 k4 y0 y1 da
                      have y0 := Y4.out.cell 0 _ rfl
                      obtain ⟨v, hv⟩ : ∃ v, cI L ((1 + a) * 2) = v := ⟨_, rfl⟩
                      obtain ⟨hv0, hv64⟩ : 0 ≤ v ∧ v ≤ 64 := by rw [← hv]; exact cI_bound HV.out _
                      have cc : w4.cell? ⟨w0.heap.size + 1, (1 + a) * 2, none⟩ = some (.int .i64 v) := by rw [← hv]; exact C4.out.cell _ _ (cCells_at _ _ (by omega))
                      have cf := C4.out.free ((1 + a) * 2)
                      have hcm : Has (w4.setCell ⟨w0.heap.size + 1, (1 + a) * 2, none⟩ (.int .i64 (cI L ((1 + a) * 2) + 1))) (w0.heap.size + 1) (.cells (cCells (cI (L ++ [x]))) 42) := (by have q := count_more (x := x) C4.out ha HX.out.1; rw [HX.out.2.1] at q; exact q)
                      rw [hv] at hcm
                      have HCM := Lib.hid hcm
                      clear hv hcm
                      go_wp2_with fail
                      go_still_tail 9, (by kernel_rfl)
                      change wpList _ _ _ _ _ w4.drew
                      go_wp2_with fail
                      go_meet
                      exact ⟨L ++ [x], Lib.hid (by have := HL.out; rw [List.length_append]; simp only [List.length_cons, List.length_nil]; omega), Lib.hid HX.out.2.2.2, Lib.hid ((H4.out.but (gdA.out _) (But.set (w0.heap.size + 1) ((1 + a) * 2) w4 _) HFC.out).below (gdA.out _) ((Below.refl _ _).drew)), Lib.hid HCM.out.drew, Lib.hid ((B4.out.setCell (p := ⟨w0.heap.size + 1, (1 + a) * 2, none⟩) (by simp) _).drew)⟩
                    | false =>
                      have HX : Hid (L' = L) := Lib.hid (by
                        rcases HCs.out with ⟨h, _⟩ | ⟨_, h⟩
                        · cases h
                        · exact h)
                      go_wp2_with fail
                      go_still_tail 10, (by kernel_rfl)
                      change wpList _ _ _ _ _ w3.drew
                      have D3 : Below w3.heap.size w3 w3.drew := (Below.refl _ _).drew
                      have H3' := Lib.hid (H3.out.below (gdA.out _) D3)
                      have DD := Lib.hid D3
                      clear D3
                      go_wp2_with fail
                      refine (HCP.out _ H3'.out).mono ?_
                      rintro e w4 ⟨rfl, h4, k4⟩
                      rw [HX.out] at h4
                      have H4 := Lib.hid (h4.less (G := F) (fun j hj => .inl hj))
                      have C4 := Lib.hid ((C3.out.below DD.out).keptF k4 (.inl HFC.out))
                      have B4 := Lib.hid ((bup B3.out DD.out).trans (k4.belowB HFB2.out (bup B3.out DD.out).size))
                      clear h4 k4 y0 y1 da
                      go_wp2_with fail
                      go_meet
                      exact ⟨L, Lib.hid (by have := HL.out; omega), HV, H4, C4, B4⟩
                · have h3' : (kd == 3) = false := by simpa using h3
                  clear h3
                  by_cases h4k : (kd == 4) = true
                  · as_aux_lemma =>
                      have CP := fun w h => eldestH (F := (fun k => F k ∨ k = wr.heap.size)) Emp.good w0.heap.size L w h
                      have ec := eldest_cases L
                      obtain ⟨R, hR⟩ : ∃ R, pullG L 0 = R := ⟨_, rfl⟩
                      rw [hR] at CP ec
                      clear hcl hR
                      rcases ec with ⟨x, r, hxr, rfl⟩ | ⟨hxr, rfl⟩
                      · obtain ⟨xc, xu, xe, xs, xk, xb⟩ := x
                        have hin := HV.out.1 ⟨xc, xu, xe, xs, xk, xb⟩ (by rw [hxr]; simp)
                        simp only at hin
                        obtain ⟨a4, ha4, rfl⟩ : ∃ a4 : Nat, a4 < 3 ∧ xc = 1 + (a4 : Int) := ⟨(xc - 1).toNat, by omega, by omega⟩
                        simp only [Gr.val] at CP
                        have HXi : Hid (L[0]? = some ⟨1 + (a4 : Int), xu, xe, xs, xk, xb⟩) := Lib.hid (by rw [hxr]; rfl)
                        have ht4 : ((1 : Int) + (a4 : Int)).toNat = 1 + a4 := by omega
                        have hi44 : (1 : Int) + (a4 : Int) < 4 := by omega
                        have hi04 : (0 : Int) ≤ 1 + (a4 : Int) := by omega
                        have hi14 : ¬ ((1 : Int) + (a4 : Int) < 1) := by omega
                        have hi34 : ¬ (3 < (1 : Int) + (a4 : Int)) := by omega
                        have HCP := Lib.hid CP
                        clear CP hin hxr ht hi4 hi0
                        cases xu with
                          | false =>
                            go_wp2_with fail
                            refine (HCP.out _ H3.out).mono ?_
                            rintro e w4 ⟨rfl, h4, k4⟩
                            have H4 := Lib.hid (h4.less (G := F) (fun j hj => .inl hj))
                            have C4 := Lib.hid (C3.out.keptF k4 (.inl HFC.out))
                            have B4 := Lib.hid (B3.out.trans (k4.belowB HFB2.out B3.out.size))
                            clear h4 k4
                            go_upto_region 28 with (fail)
                            have Y5 := Lib.hid (Has.new w4 (.cells (⟨1 + (a4 : Int), false, xe, xs, xk, xb⟩ : Gr).row 27))
                            have H5 := Lib.hid (H4.out.below (gdA.out _) (bnew w4 (.cells (⟨1 + (a4 : Int), false, xe, xs, xk, xb⟩ : Gr).row 27)))
                            have C5 := Lib.hid (C4.out.alloc (.cells (⟨1 + (a4 : Int), false, xe, xs, xk, xb⟩ : Gr).row 27))
                            have B5 := Lib.hid (bup B4.out (bnew w4 (.cells (⟨1 + (a4 : Int), false, xe, xs, xk, xb⟩ : Gr).row 27)))
                            simp only [Gr.row] at Y5 H5 C5 B5
                            generalize hw5 : World.alloc w4 _ = w5
                            rw [hw5] at Y5 H5 C5 B5
                            clear hw5 C4
                            have C4 := C5
                            have y0 := Y5.out.cell 0 _ rfl
                            have y1 := Y5.out.cell 1 _ rfl
                            obtain ⟨v, hv⟩ : ∃ v, cI L ((1 + a4) * 2) = v := ⟨_, rfl⟩
                            obtain ⟨hv0, hv64⟩ : 0 ≤ v ∧ v ≤ 64 := by rw [← hv]; exact cI_bound HV.out _
                            have cc : w5.cell? ⟨w0.heap.size + 1, (1 + a4) * 2, none⟩ = some (.int .i64 v) := by rw [← hv]; exact C4.out.cell _ _ (cCells_at _ _ (by omega))
                            have cf := C4.out.free ((1 + a4) * 2)
                            have hcm : Has (w5.setCell ⟨w0.heap.size + 1, (1 + a4) * 2, none⟩ (.int .i64 (cI L ((1 + a4) * 2) - 1))) (w0.heap.size + 1) (.cells (cCells (cI (L.eraseIdx 0))) 42) := count_less (x := (⟨1 + (a4 : Int), false, xe, xs, xk, xb⟩ : Gr)) C4.out ha4 HXi.out rfl
                            rw [hv] at hcm
                            have HCM := Lib.hid hcm
                            clear hv hcm
                            go_wp2_with fail
                            go_still_tail 9, (by kernel_rfl)
                            change wpList _ _ _ _ _ w5.drew
                            go_wp2_with fail
                            go_meet
                            exact ⟨L.eraseIdx 0, Lib.hid (by have := HL.out; have := List.length_eraseIdx_le L 0; omega), Lib.hid (HV.out.erase 0), Lib.hid ((H5.out.but (gdA.out _) (But.set (w0.heap.size + 1) ((1 + a4) * 2) w5 _) HFC.out).below (gdA.out _) ((Below.refl _ _).drew)), Lib.hid HCM.out.drew, Lib.hid ((B5.out.setCell (p := ⟨w0.heap.size + 1, (1 + a4) * 2, none⟩) (by simp) _).drew)⟩
                          | true =>
                            go_wp2_with fail
                            refine (HCP.out _ H3.out).mono ?_
                            rintro e w4 ⟨rfl, h4, k4⟩
                            have H4 := Lib.hid (h4.less (G := F) (fun j hj => .inl hj))
                            have C4 := Lib.hid (C3.out.keptF k4 (.inl HFC.out))
                            have B4 := Lib.hid (B3.out.trans (k4.belowB HFB2.out B3.out.size))
                            clear h4 k4
                            go_upto_region 28 with (fail)
                            have Y5 := Lib.hid (Has.new w4 (.cells (⟨1 + (a4 : Int), true, xe, xs, xk, xb⟩ : Gr).row 27))
                            have H5 := Lib.hid (H4.out.below (gdA.out _) (bnew w4 (.cells (⟨1 + (a4 : Int), true, xe, xs, xk, xb⟩ : Gr).row 27)))
                            have C5 := Lib.hid (C4.out.alloc (.cells (⟨1 + (a4 : Int), true, xe, xs, xk, xb⟩ : Gr).row 27))
                            have B5 := Lib.hid (bup B4.out (bnew w4 (.cells (⟨1 + (a4 : Int), true, xe, xs, xk, xb⟩ : Gr).row 27)))
                            simp only [Gr.row] at Y5 H5 C5 B5
                            generalize hw5 : World.alloc w4 _ = w5
                            rw [hw5] at Y5 H5 C5 B5
                            clear hw5 C4
                            have C4 := C5
                            have y0 := Y5.out.cell 0 _ rfl
                            have y1 := Y5.out.cell 1 _ rfl
                            obtain ⟨v, hv⟩ : ∃ v, cI L ((1 + a4) * 2 + 1) = v := ⟨_, rfl⟩
                            obtain ⟨hv0, hv64⟩ : 0 ≤ v ∧ v ≤ 64 := by rw [← hv]; exact cI_bound HV.out _
                            have cc : w5.cell? ⟨w0.heap.size + 1, (1 + a4) * 2 + 1, none⟩ = some (.int .i64 v) := by rw [← hv]; exact C4.out.cell _ _ (cCells_at _ _ (by omega))
                            have cf := C4.out.free ((1 + a4) * 2 + 1)
                            have hcm : Has (w5.setCell ⟨w0.heap.size + 1, (1 + a4) * 2 + 1, none⟩ (.int .i64 (cI L ((1 + a4) * 2 + 1) - 1))) (w0.heap.size + 1) (.cells (cCells (cI (L.eraseIdx 0))) 42) := count_less (x := (⟨1 + (a4 : Int), true, xe, xs, xk, xb⟩ : Gr)) C4.out ha4 HXi.out rfl
                            rw [hv] at hcm
                            have HCM := Lib.hid hcm
                            clear hv hcm
                            go_wp2_with fail
                            go_still_tail 9, (by kernel_rfl)
                            change wpList _ _ _ _ _ w5.drew
                            go_wp2_with fail
                            go_meet
                            exact ⟨L.eraseIdx 0, Lib.hid (by have := HL.out; have := List.length_eraseIdx_le L 0; omega), Lib.hid (HV.out.erase 0), Lib.hid ((H5.out.but (gdA.out _) (But.set (w0.heap.size + 1) ((1 + a4) * 2 + 1) w5 _) HFC.out).below (gdA.out _) ((Below.refl _ _).drew)), Lib.hid HCM.out.drew, Lib.hid ((B5.out.setCell (p := ⟨w0.heap.size + 1, (1 + a4) * 2 + 1, none⟩) (by simp) _).drew)⟩
                      · simp only [Gr.val, Gr.none] at CP
                        have HCP := Lib.hid CP
                        have HXn := Lib.hid hxr
                        clear CP hxr
                        go_wp2_with fail
                        refine (HCP.out _ H3.out).mono ?_
                        rintro e w4 ⟨rfl, h4, k4⟩
                        have H4 := Lib.hid (h4.less (G := F) (fun j hj => .inl hj))
                        have C4 := Lib.hid (C3.out.keptF k4 (.inl HFC.out))
                        have B4 := Lib.hid (B3.out.trans (k4.belowB HFB2.out B3.out.size))
                        clear h4 k4
                        go_wp2_with fail
                        go_meet
                        have HV' : Hid (Inv3 []) := Lib.hid Inv3.nil
                        have C5 : Has w4 (w0.heap.size + 1) (.cells (cCells (cI [])) 42) := by have := C4.out; rw [HXn.out] at this; exact this
                        exact ⟨[], Lib.hid (by simp), HV', Lib.hid (H4.out.below (gdA.out _) (bnew w4 _)), Lib.hid (C5.alloc _), Lib.hid (bup B4.out (bnew w4 _))⟩
                  · have h4' : (kd == 4) = false := by simpa using h4k
                    clear h4k hcl
                    go_wp2_with fail
                    go_meet
                    exact ⟨L, Lib.hid (by have := HL.out; omega), HV, Lib.hid (H3.out.less (fun j hj => .inl hj)), C3, B3⟩
          case rest =>
            as_aux_lemma =>
              obtain ⟨L', HL', HV', HS', HCC', HB'⟩ := hcut
              clear H3 C3 B3 Y3 HL HV HB HA ht hi4 hi0 hcl
              go_wp2_with fail
              go_loopw [13] (fun i wq => ∃ cc : Nat, i = .int .i64 cc ∧ 1 ≤ cc ∧ cc ≤ 4 ∧ Hid (Held F (Star (NetR 53 w0.heap.size L') Emp) wq) ∧ Hid (Has wq (w0.heap.size + 1) (.cells (cCells (cI L')) 42)) ∧ Hid (Below w0.heap.size w0 wq)) (fun i _ => 4 - (intOf i).toNat)
              case atStart => exact ⟨1, rfl, by omega, by omega, HS', HCC', HB'⟩
              case round =>
                obtain ⟨q, rfl, hq1, hq4, HSq, HCq, HBq⟩ := hrel
                clear HS' HCC' HB'
                by_cases hq : q < 4
                · obtain ⟨v0, hv0⟩ : ∃ v, cI L' (q * 2) = v := ⟨_, rfl⟩
                  obtain ⟨v1, hv1⟩ : ∃ v, cI L' (q * 2 + 1) = v := ⟨_, rfl⟩
                  have hc0 : (cnt (q : Int) false L' : Int) = v0 := by rw [← hv0]; exact (cI_at L' q false (by omega)).symm
                  have hc1 : (cnt (q : Int) true L' : Int) = v1 := by rw [← hv1]; exact (cI_at L' q true (by omega)).symm
                  have hb0 : v0 ≤ 64 := by rw [← hv0]; exact (cI_bound HV'.out _).2
                  have hb1 : v1 ≤ 64 := by rw [← hv1]; exact (cI_bound HV'.out _).2
                  have CN0 := fun w h => countH (F := F) Emp.good w0.heap.size L' (q : Int) false w h
                  have CN1 := fun w h => countH (F := F) Emp.good w0.heap.size L' (q : Int) true w h
                  rw [hc0] at CN0
                  rw [hc1] at CN1
                  have n0 := HCq.out.cell (q * 2) _ (cCells_at _ _ (by omega))
                  have n1 := HCq.out.cell (q * 2 + 1) _ (cCells_at _ _ (by omega))
                  rw [hv0] at n0
                  rw [hv1] at n1
                  clear hv0 hv1 hc0 hc1
                  have hqi : (q : Int) < 4 := by omega
                  have hqt : ((q : Int)).toNat = q := by omega
                  have hb0' : ¬ (64 < v0) := by omega
                  have hb1' : ¬ (64 < v1) := by omega
                  have k0 := fun d os => Calls.regrown_of ((CN0 (grow (redrawn wr d) os) (HSq.out.below (gdA.out _) (below_regrown _ _ _))).mono (fun _ _ h => ⟨h.1, h.2.2⟩))
                  have k1 := fun d os => Calls.regrown_of ((CN1 (grow (redrawn wr d) os) (HSq.out.below (gdA.out _) (below_regrown _ _ _))).mono (fun _ _ h => ⟨h.1, h.2.2⟩))
                  clear CN0 CN1
                  go_upto_region 38 with (fail)
                  have n0 := cell_regrown n0
                  have n1 := cell_regrown n1
                  refine wp_region_quiet_below (by kernel_rfl) (by kernel_rfl) ?_
                  repeat (quiet_step (first | with_reducible exact k0 _ _ | with_reducible exact k1 _ _))
                  refine wpQuiet_nil ?_
                  intro _ hw7
                  obtain ⟨⟨dq, osq⟩, hw8⟩ := hw7
                  subst hw8
                  go_wp2_with fail
                  go_roundw
                  case rel => exact ⟨q + 1, by go_num, by omega, by omega, Lib.hid (HSq.out.below (gdA.out _) (below_regrown _ _ _)), Lib.hid (HCq.out.below (below_regrown _ _ _)), Lib.hid (bup HBq.out (below_regrown _ _ _))⟩
                  case measure => simp [intOf]; omega
                · obtain rfl : q = 4 := by omega
                  go_wp2_with fail
                  go_roundw
                  case rel => exact ⟨k + 1, L', by omega, by omega, by go_num, HL', HV', HSq, HCq, HBq⟩
                  case measure => simp [intOf]; omega
        | true =>
          go_upto_block 2 with (fail)
          have Y3 := Lib.hid (Has.new wr (.cells #[.int .i64 (1 + (a : Int)), .bool true, .int .i64 ep, .int .i64 sq, .int .i64 ak, .string bd] 27))
          have H3 : Hid (Held (fun k => F k ∨ k = wr.heap.size) (Star (NetR 53 w0.heap.size L) Emp) (wr.alloc (.cells #[.int .i64 (1 + (a : Int)), .bool true, .int .i64 ep, .int .i64 sq, .int .i64 ak, .string bd] 27))) := Lib.hid (HS.out.more (gdA.out _) (bnew wr _) (fun j hj => hj.imp id (fun e => by subst e; simp)))
          have C3 := Lib.hid (HCC.out.alloc (.cells #[.int .i64 (1 + (a : Int)), .bool true, .int .i64 ep, .int .i64 sq, .int .i64 ak, .string bd] 27))
          have B3 := Lib.hid (bup HB.out (bnew wr (.cells #[.int .i64 (1 + (a : Int)), .bool true, .int .i64 ep, .int .i64 sq, .int .i64 ak, .string bd] 27)))
          generalize hw3 : World.alloc wr _ = w3
          rw [hw3] at Y3 H3 C3 B3
          clear hw3 d0 d1 d2 d3 d4 d5 dk da hae HS HCC
          have h200 : L.length ≤ 1000000 := by have := HL.out; omega
          have hcl : (1 : Int) ≤ 1 + (a : Int) ∧ 1 + (a : Int) ≤ 3 := by omega
          have HFB2 : Hid (∀ j, j < w0.heap.size → (fun k => F k ∨ k = wr.heap.size) j) := Lib.hid (fun j hj => .inl (HFB.out j hj))
          have ht : ((1 : Int) + (a : Int)).toNat = 1 + a := by omega
          have hi4 : (1 : Int) + (a : Int) < 4 := by omega
          have hi0 : (0 : Int) ≤ 1 + (a : Int) := by omega
          go_cut [12] (fun v12 wx => ∃ L' : List Gr, Hid (L'.length ≤ k + 1) ∧ Hid (Inv3 L') ∧ Hid (Held F (Star (NetR 53 w0.heap.size L') Emp) wx) ∧ Hid (Has wx (w0.heap.size + 1) (.cells (cCells (cI L')) 42)) ∧ Hid (Below w0.heap.size w0 wx))
          case first =>
            by_cases h1 : (kd == 1) = true
            · as_aux_lemma =>
                have CP := fun w h => putH (F := (fun k => F k ∨ k = wr.heap.size)) Emp.good w0.heap.size L (⟨1 + (a : Int), true, ep, sq, ak, bd⟩ : Gr) w h200 h
                obtain ⟨R, hR⟩ : ∃ R, putG L (⟨1 + (a : Int), true, ep, sq, ak, bd⟩ : Gr) = R := ⟨_, rfl⟩
                have hc := HV.out.put (x := (⟨1 + (a : Int), true, ep, sq, ak, bd⟩ : Gr)) hcl
                rw [hR] at CP hc
                obtain ⟨L', er⟩ := R
                simp only at hc
                simp only [Gr.val] at CP
                have HCs := Lib.hid hc
                have HCP := Lib.hid CP
                have y0 := Y3.out.cell 0 _ rfl
                have y1 := Y3.out.cell 1 _ rfl
                have y2 := Y3.out.cell 2 _ rfl
                have y3 := Y3.out.cell 3 _ rfl
                have y4 := Y3.out.cell 4 _ rfl
                have y5 := Y3.out.cell 5 _ rfl
                clear CP hc hR hcl
                by_cases h0 : er = 0
                · subst h0
                  obtain ⟨hL1, hL2⟩ : L' = L ++ [(⟨1 + (a : Int), true, ep, sq, ak, bd⟩ : Gr)] ∧ Inv3 (L ++ [(⟨1 + (a : Int), true, ep, sq, ak, bd⟩ : Gr)]) := by
                    rcases HCs.out with ⟨_, h, g⟩ | ⟨h, _⟩
                    · exact ⟨h, g⟩
                    · exact absurd rfl h
                  have HL1 := Lib.hid hL1
                  have HL2 := Lib.hid hL2
                  clear hL1 hL2
                  go_wp2_with fail
                  refine (HCP.out _ H3.out).mono ?_
                  rintro e w4 ⟨rfl, h4, k4⟩
                  rw [HL1.out] at h4
                  have Y4 := Lib.hid (Y3.out.keptF k4 (.inr rfl))
                  have H4 := Lib.hid (h4.less (G := F) (fun j hj => .inl hj))
                  have C4 := Lib.hid (C3.out.keptF k4 (.inl HFC.out))
                  have B4 := Lib.hid (B3.out.trans (k4.belowB HFB2.out B3.out.size))
                  clear h4 k4 y0 y1 y2 y3 y4 y5
                  have y0 := Y4.out.cell 0 _ rfl
                  obtain ⟨v, hv⟩ : ∃ v, cI L ((1 + a) * 2 + 1) = v := ⟨_, rfl⟩
                  obtain ⟨hv0, hv64⟩ : 0 ≤ v ∧ v ≤ 64 := by rw [← hv]; exact cI_bound HV.out _
                  have cc : w4.cell? ⟨w0.heap.size + 1, (1 + a) * 2 + 1, none⟩ = some (.int .i64 v) := by rw [← hv]; exact C4.out.cell _ _ (cCells_at _ _ (by omega))
                  have cf := C4.out.free ((1 + a) * 2 + 1)
                  have hcm : Has (w4.setCell ⟨w0.heap.size + 1, (1 + a) * 2 + 1, none⟩ (.int .i64 (cI L ((1 + a) * 2 + 1) + 1))) (w0.heap.size + 1) (.cells (cCells (cI (L ++ [(⟨1 + (a : Int), true, ep, sq, ak, bd⟩ : Gr)]))) 42) := count_more (x := (⟨1 + (a : Int), true, ep, sq, ak, bd⟩ : Gr)) C4.out ha rfl
                  rw [hv] at hcm
                  have HCM := Lib.hid hcm
                  clear hv hcm
                  go_wp2_with fail
                  go_still_tail 9, (by kernel_rfl)
                  change wpList _ _ _ _ _ w4.drew
                  go_wp2_with fail
                  go_meet
                  exact ⟨L ++ [(⟨1 + (a : Int), true, ep, sq, ak, bd⟩ : Gr)], Lib.hid (by have := HL.out; rw [List.length_append]; simp only [List.length_cons, List.length_nil]; omega), HL2, Lib.hid ((H4.out.but (gdA.out _) (But.set (w0.heap.size + 1) ((1 + a) * 2 + 1) w4 _) HFC.out).below (gdA.out _) ((Below.refl _ _).drew)), Lib.hid HCM.out.drew, Lib.hid ((B4.out.setCell (p := ⟨w0.heap.size + 1, (1 + a) * 2 + 1, none⟩) (by simp) _).drew)⟩
                · have hb : (er == 0) = false := by simpa using h0
                  have HL1 : Hid (L' = L) := Lib.hid (by
                    rcases HCs.out with ⟨h, _⟩ | ⟨_, h⟩
                    · exact absurd h h0
                    · exact h)
                  clear h0
                  go_wp2_with fail
                  refine (HCP.out _ H3.out).mono ?_
                  rintro e w4 ⟨rfl, h4, k4⟩
                  rw [HL1.out] at h4
                  have H4 := Lib.hid (h4.less (G := F) (fun j hj => .inl hj))
                  have C4 := Lib.hid (C3.out.keptF k4 (.inl HFC.out))
                  have B4 := Lib.hid (B3.out.trans (k4.belowB HFB2.out B3.out.size))
                  clear h4 k4 y0 y1 y2 y3 y4 y5
                  go_wp2_with fail
                  go_meet
                  exact ⟨L, Lib.hid (by have := HL.out; omega), HV, H4, C4, B4⟩
            · have h1' : (kd == 1) = false := by simpa using h1
              clear h1
              by_cases h2 : (kd == 2) = true
              · as_aux_lemma =>
                  have hG3 := HG.out _ B3.out
                  have da := hG3.at_
                  simp only at da
                  have y0 := Y3.out.cell 0 _ rfl
                  have y1 := Y3.out.cell 1 _ rfl
                  have CP := fun (F' : Nat → Prop) w h => pickH (F := F') Emp.good w0.heap.size L (1 + (a : Int)) true at1 w HA.out.1 HA.out.2 h
                  rcases pick_cases L (1 + (a : Int)) true at1 with ⟨i, x, hxi, e1, e2, e3⟩ | e3
                  · obtain ⟨xc, xu, xe, xs, xk, xb⟩ := x
                    simp only at e1 e2
                    subst e1 e2
                    rw [e3] at CP
                    simp only [Gr.val] at CP
                    have HXi := Lib.hid hxi
                    clear hxi e3 hcl hG3
                    have HCa := Lib.hid (CP (fun k => F k ∨ k = wr.heap.size))
                    have HCb := Lib.hid (CP (fun k => (F k ∨ k = wr.heap.size) ∨ k = w3.heap.size))
                    clear CP
                    go_upto_region 20 with (fail)
                    go_cut [9] (fun v9 wx => v9 = .bool true ∧ Hid (Held F (Star (NetR 53 w0.heap.size (L.eraseIdx i)) Emp) wx) ∧ Hid (Has wx wr.heap.size (.cells #[.int .i64 (1 + (a : Int)), .bool true, .int .i64 ep, .int .i64 sq, .int .i64 ak, .string bd] 27)) ∧ Hid (Has wx (w0.heap.size + 1) (.cells (cCells (cI L)) 42)) ∧ Hid (Below w0.heap.size w0 wx))
                    case first =>
                      have hlt3 : ¬ (fun k => F k ∨ k = wr.heap.size) w3.heap.size := fun h => by have := H3.out.lt h; omega
                      have HK : Hid (∀ w', KeptF (fun k => F k ∨ k = wr.heap.size) w3 w' → (fun w' => w'.cell? ⟨wr.heap.size, 0, none⟩ = some (.int .i64 (1 + (a : Int))) ∧ w'.cell? ⟨wr.heap.size, 1, none⟩ = some (.bool true) ∧ w'.cell? ⟨b, off + k * 8 + 7, none⟩ = some (.int .i64 at1)) w') := Lib.hid (fun w' kk => ⟨(Y3.out.keptF kk (.inr rfl)).cell 0 _ rfl, (Y3.out.keptF kk (.inr rfl)).cell 1 _ rfl, kk.cell da (fun e => e (.inl (HFB.out b hbw)))⟩)
                      have HL3 : Hid ((fun k => ¬ (fun k => F k ∨ k = wr.heap.size) k) w3.heap.size) := Lib.hid hlt3
                      have HDa := Lib.hid (H3.out.below (gdA.out _) ((Below.refl _ w3).drew))
                      have HDb : Hid (Held (fun k => (F k ∨ k = wr.heap.size) ∨ k = w3.heap.size) (Star (NetR 53 w0.heap.size L) Emp) (w3.alloc (.cells #[.int .i64 0, .bool false, .int .i64 0, .int .i64 0, .int .i64 0, .string ⟨#[]⟩] 27)).drew) := Lib.hid ((H3.out.more (gdA.out _) (bnew w3 _) (fun j hj => hj.imp id (fun e => by subst e; simp))).below (gdA.out _) ((Below.refl _ _).drew))
                      have DBa : Hid (Below w3.heap.size w3 w3.drew) := Lib.hid ((Below.refl _ _).drew)
                      have DBb : Hid (Below w3.heap.size w3 (w3.alloc (.cells #[.int .i64 0, .bool false, .int .i64 0, .int .i64 0, .int .i64 0, .string ⟨#[]⟩] 27)).drew) := Lib.hid ((bnew w3 _).drew)
                      clear hlt3 y0 y1 da
                      go_region_held3? (fun w' => w'.cell? ⟨wr.heap.size, 0, none⟩ = some (.int .i64 (1 + (a : Int))) ∧ w'.cell? ⟨wr.heap.size, 1, none⟩ = some (.bool true) ∧ w'.cell? ⟨b, off + k * 8 + 7, none⟩ = some (.int .i64 at1)) ((refine HK.out _ ?_; first | with_reducible exact Kept.of DBa.out | with_reducible exact Kept.of DBb.out | with_reducible exact s4 | with_reducible exact s4.trans (Kept.of (bnew w4 _)) | with_reducible exact s4.trans (Kept.but (but6 w4 w3.heap.size _ _ _ _ _ _) HL3.out)))
                        (first
                        | (go_at_call 11; ((with_reducible refine (HCa.out _ HDa.out).mono ?_)); rintro e w4 ⟨rfl, h4, k4⟩; have s4 : KeptF (fun k => F k ∨ k = wr.heap.size) w3 w4 := (Kept.of DBa.out).trans k4; have H4 := Lib.hid h4; clear h4 k4)
                        | (go_at_call 11; ((with_reducible refine (HCb.out _ HDb.out).mono ?_)); rintro e w4 ⟨rfl, h4, k4⟩; have s4 : KeptF (fun k => F k ∨ k = wr.heap.size) w3 w4 := (Kept.of DBb.out).trans (k4.mono (fun j hj h => hj (.inl h))); have Z4 := Lib.hid (((Has.new w3 (.cells #[.int .i64 0, .bool false, .int .i64 0, .int .i64 0, .int .i64 0, .string ⟨#[]⟩] 27)).drew).keptF k4 (.inr rfl)); have H4 := Lib.hid h4; clear h4 k4; have z0 := Z4.out.cell 0 _ rfl; have z1 := Z4.out.cell 1 _ rfl; have z2 := Z4.out.cell 2 _ rfl; have z3 := Z4.out.cell 3 _ rfl; have z4 := Z4.out.cell 4 _ rfl; have z5 := Z4.out.cell 5 _ rfl; have zf0 := Z4.out.free 0; have zf1 := Z4.out.free 1; have zf2 := Z4.out.free 2; have zf3 := Z4.out.free 3; have zf4 := Z4.out.free 4; have zf5 := Z4.out.free 5))
                      all_goals
                        go_wp2_with fail
                        go_meet
                        first
                        | (have _z := Z4; clear _z; have t4 : KeptF (fun k => F k ∨ k = wr.heap.size) w3 ((((((w4.setCell ⟨w3.heap.size, 0, none⟩ (.int .i64 (1 + (a : Int)))).setCell ⟨w3.heap.size, 1, none⟩ (.bool true)).setCell ⟨w3.heap.size, 2, none⟩ (.int .i64 xe)).setCell ⟨w3.heap.size, 3, none⟩ (.int .i64 xs)).setCell ⟨w3.heap.size, 4, none⟩ (.int .i64 xk)).setCell ⟨w3.heap.size, 5, none⟩ (.string xb)) := s4.trans (Kept.but (but6 w4 w3.heap.size _ _ _ _ _ _) HL3.out); exact ⟨rfl, Lib.hid ((H4.out.but (gdA.out _) (but6 w4 w3.heap.size _ _ _ _ _ _) (.inr rfl)).less (fun j hj => .inl (.inl hj))), Lib.hid (Y3.out.keptF t4 (.inr rfl)), Lib.hid (C3.out.keptF t4 (.inl HFC.out)), Lib.hid (B3.out.trans (t4.belowB HFB2.out B3.out.size))⟩)
                        | (have t4 : KeptF (fun k => F k ∨ k = wr.heap.size) w3 (w4.alloc (.cells #[.int .i64 (1 + (a : Int)), .bool true, .int .i64 xe, .int .i64 xs, .int .i64 xk, .string xb] 27)) := s4.trans (Kept.of (bnew w4 _)); exact ⟨rfl, Lib.hid ((H4.out.below (gdA.out _) (bnew w4 _)).less (fun j hj => .inl hj)), Lib.hid (Y3.out.keptF t4 (.inr rfl)), Lib.hid (C3.out.keptF t4 (.inl HFC.out)), Lib.hid (B3.out.trans (t4.belowB HFB2.out B3.out.size))⟩)
                    case rest =>
                      obtain ⟨rfl, H4, Y4, C4, B4⟩ := hcut
                      clear y0 y1 da
                      have y0 := Y4.out.cell 0 _ rfl
                      obtain ⟨v, hv⟩ : ∃ v, cI L ((1 + a) * 2 + 1) = v := ⟨_, rfl⟩
                      obtain ⟨hv0, hv64⟩ : 0 ≤ v ∧ v ≤ 64 := by rw [← hv]; exact cI_bound HV.out _
                      have cc : wc.cell? ⟨w0.heap.size + 1, (1 + a) * 2 + 1, none⟩ = some (.int .i64 v) := by rw [← hv]; exact C4.out.cell _ _ (cCells_at _ _ (by omega))
                      have cf := C4.out.free ((1 + a) * 2 + 1)
                      have hcm : Has (wc.setCell ⟨w0.heap.size + 1, (1 + a) * 2 + 1, none⟩ (.int .i64 (cI L ((1 + a) * 2 + 1) - 1))) (w0.heap.size + 1) (.cells (cCells (cI (L.eraseIdx i))) 42) := count_less (x := ⟨1 + (a : Int), true, xe, xs, xk, xb⟩) C4.out ha HXi.out rfl
                      rw [hv] at hcm
                      have HCM := Lib.hid hcm
                      clear hv hcm
                      go_wp2_with fail
                      go_still_tail 9, (by kernel_rfl)
                      change wpList _ _ _ _ _ wc.drew
                      go_wp2_with fail
                      go_meet
                      exact ⟨L.eraseIdx i, Lib.hid (by have := HL.out; have := List.length_eraseIdx_le L i; omega), Lib.hid (HV.out.erase i), Lib.hid ((H4.out.but (gdA.out _) (But.set (w0.heap.size + 1) ((1 + a) * 2 + 1) wc _) HFC.out).below (gdA.out _) ((Below.refl _ _).drew)), Lib.hid HCM.out.drew, Lib.hid ((B4.out.setCell (p := ⟨w0.heap.size + 1, (1 + a) * 2 + 1, none⟩) (by simp) _).drew)⟩
                  · rw [e3] at CP
                    simp only [Gr.val, Gr.none] at CP
                    clear e3 hcl hG3
                    have HCa := Lib.hid (CP (fun k => F k ∨ k = wr.heap.size))
                    have HCb := Lib.hid (CP (fun k => (F k ∨ k = wr.heap.size) ∨ k = w3.heap.size))
                    clear CP
                    go_upto_region 20 with (fail)
                    go_cut [9] (fun v9 wx => v9 = .bool false ∧ Hid (Held F (Star (NetR 53 w0.heap.size L) Emp) wx) ∧ Hid (Has wx wr.heap.size (.cells #[.int .i64 (1 + (a : Int)), .bool true, .int .i64 ep, .int .i64 sq, .int .i64 ak, .string bd] 27)) ∧ Hid (Has wx (w0.heap.size + 1) (.cells (cCells (cI L)) 42)) ∧ Hid (Below w0.heap.size w0 wx))
                    case first =>
                      have hlt3 : ¬ (fun k => F k ∨ k = wr.heap.size) w3.heap.size := fun h => by have := H3.out.lt h; omega
                      have HK : Hid (∀ w', KeptF (fun k => F k ∨ k = wr.heap.size) w3 w' → (fun w' => w'.cell? ⟨wr.heap.size, 0, none⟩ = some (.int .i64 (1 + (a : Int))) ∧ w'.cell? ⟨wr.heap.size, 1, none⟩ = some (.bool true) ∧ w'.cell? ⟨b, off + k * 8 + 7, none⟩ = some (.int .i64 at1)) w') := Lib.hid (fun w' kk => ⟨(Y3.out.keptF kk (.inr rfl)).cell 0 _ rfl, (Y3.out.keptF kk (.inr rfl)).cell 1 _ rfl, kk.cell da (fun e => e (.inl (HFB.out b hbw)))⟩)
                      have HL3 : Hid ((fun k => ¬ (fun k => F k ∨ k = wr.heap.size) k) w3.heap.size) := Lib.hid hlt3
                      have HDa := Lib.hid (H3.out.below (gdA.out _) ((Below.refl _ w3).drew))
                      have HDb : Hid (Held (fun k => (F k ∨ k = wr.heap.size) ∨ k = w3.heap.size) (Star (NetR 53 w0.heap.size L) Emp) (w3.alloc (.cells #[.int .i64 0, .bool false, .int .i64 0, .int .i64 0, .int .i64 0, .string ⟨#[]⟩] 27)).drew) := Lib.hid ((H3.out.more (gdA.out _) (bnew w3 _) (fun j hj => hj.imp id (fun e => by subst e; simp))).below (gdA.out _) ((Below.refl _ _).drew))
                      have DBa : Hid (Below w3.heap.size w3 w3.drew) := Lib.hid ((Below.refl _ _).drew)
                      have DBb : Hid (Below w3.heap.size w3 (w3.alloc (.cells #[.int .i64 0, .bool false, .int .i64 0, .int .i64 0, .int .i64 0, .string ⟨#[]⟩] 27)).drew) := Lib.hid ((bnew w3 _).drew)
                      clear hlt3 y0 y1 da
                      go_region_held3? (fun w' => w'.cell? ⟨wr.heap.size, 0, none⟩ = some (.int .i64 (1 + (a : Int))) ∧ w'.cell? ⟨wr.heap.size, 1, none⟩ = some (.bool true) ∧ w'.cell? ⟨b, off + k * 8 + 7, none⟩ = some (.int .i64 at1)) ((refine HK.out _ ?_; first | with_reducible exact Kept.of DBa.out | with_reducible exact Kept.of DBb.out | with_reducible exact s4 | with_reducible exact s4.trans (Kept.of (bnew w4 _)) | with_reducible exact s4.trans (Kept.but (but6 w4 w3.heap.size _ _ _ _ _ _) HL3.out)))
                        (first
                        | (go_at_call 11; ((with_reducible refine (HCa.out _ HDa.out).mono ?_)); rintro e w4 ⟨rfl, h4, k4⟩; have s4 : KeptF (fun k => F k ∨ k = wr.heap.size) w3 w4 := (Kept.of DBa.out).trans k4; have H4 := Lib.hid h4; clear h4 k4)
                        | (go_at_call 11; ((with_reducible refine (HCb.out _ HDb.out).mono ?_)); rintro e w4 ⟨rfl, h4, k4⟩; have s4 : KeptF (fun k => F k ∨ k = wr.heap.size) w3 w4 := (Kept.of DBb.out).trans (k4.mono (fun j hj h => hj (.inl h))); have Z4 := Lib.hid (((Has.new w3 (.cells #[.int .i64 0, .bool false, .int .i64 0, .int .i64 0, .int .i64 0, .string ⟨#[]⟩] 27)).drew).keptF k4 (.inr rfl)); have H4 := Lib.hid h4; clear h4 k4; have z0 := Z4.out.cell 0 _ rfl; have z1 := Z4.out.cell 1 _ rfl; have z2 := Z4.out.cell 2 _ rfl; have z3 := Z4.out.cell 3 _ rfl; have z4 := Z4.out.cell 4 _ rfl; have z5 := Z4.out.cell 5 _ rfl; have zf0 := Z4.out.free 0; have zf1 := Z4.out.free 1; have zf2 := Z4.out.free 2; have zf3 := Z4.out.free 3; have zf4 := Z4.out.free 4; have zf5 := Z4.out.free 5))
                      all_goals
                        go_wp2_with fail
                        go_meet
                        first
                        | (have _z := Z4; clear _z; have t4 : KeptF (fun k => F k ∨ k = wr.heap.size) w3 ((((((w4.setCell ⟨w3.heap.size, 0, none⟩ (.int .i64 0)).setCell ⟨w3.heap.size, 1, none⟩ (.bool false)).setCell ⟨w3.heap.size, 2, none⟩ (.int .i64 0)).setCell ⟨w3.heap.size, 3, none⟩ (.int .i64 0)).setCell ⟨w3.heap.size, 4, none⟩ (.int .i64 0)).setCell ⟨w3.heap.size, 5, none⟩ (.string ⟨#[]⟩)) := s4.trans (Kept.but (but6 w4 w3.heap.size _ _ _ _ _ _) HL3.out); exact ⟨rfl, Lib.hid ((H4.out.but (gdA.out _) (but6 w4 w3.heap.size _ _ _ _ _ _) (.inr rfl)).less (fun j hj => .inl (.inl hj))), Lib.hid (Y3.out.keptF t4 (.inr rfl)), Lib.hid (C3.out.keptF t4 (.inl HFC.out)), Lib.hid (B3.out.trans (t4.belowB HFB2.out B3.out.size))⟩)
                        | (have t4 : KeptF (fun k => F k ∨ k = wr.heap.size) w3 (w4.alloc (.cells #[.int .i64 0, .bool false, .int .i64 0, .int .i64 0, .int .i64 0, .string ⟨#[]⟩] 27)) := s4.trans (Kept.of (bnew w4 _)); exact ⟨rfl, Lib.hid ((H4.out.below (gdA.out _) (bnew w4 _)).less (fun j hj => .inl hj)), Lib.hid (Y3.out.keptF t4 (.inr rfl)), Lib.hid (C3.out.keptF t4 (.inl HFC.out)), Lib.hid (B3.out.trans (t4.belowB HFB2.out B3.out.size))⟩)
                    case rest =>
                      obtain ⟨rfl, H4, Y4, C4, B4⟩ := hcut
                      clear y0 y1 da
                      go_wp2_with fail
                      go_meet
                      exact ⟨L, Lib.hid (by have := HL.out; omega), HV, H4, C4, B4⟩
              · have h2' : (kd == 2) = false := by simpa using h2
                clear h2
                by_cases h3 : (kd == 3) = true
                · as_aux_lemma =>
                    have hG3 := HG.out _ B3.out
                    have da := hG3.at_
                    simp only at da
                    have y0 := Y3.out.cell 0 _ rfl
                    have y1 := Y3.out.cell 1 _ rfl
                    have CP := fun w h => copyH (F := (fun k => F k ∨ k = wr.heap.size)) Emp.good w0.heap.size L (1 + (a : Int)) true at1 w h200 HA.out.1 HA.out.2 h
                    have hc := copy_cases L (1 + (a : Int)) true at1
                    obtain ⟨R, hR⟩ : ∃ R, copyG L (1 + (a : Int)) true at1 = R := ⟨_, rfl⟩
                    rw [hR] at CP hc
                    obtain ⟨L', tt⟩ := R
                    simp only at CP
                    have hcs : (tt = true ∧ ∃ x : Gr, x.cl = 1 + (a : Int) ∧ x.up = true ∧ L' = L ++ [x] ∧ Inv3 (L ++ [x])) ∨ (tt = false ∧ L' = L) := by
                      rcases hc with ⟨x, hx, e1, e2, e3⟩ | e3
                      · obtain ⟨rfl, rfl⟩ : L' = (putG L x).1 ∧ tt = ((putG L x).2 == 0) := by cases e3; exact ⟨rfl, rfl⟩
                        rcases HV.out.put (x := x) (by rw [e1]; exact hcl) with ⟨q1, q2, q3⟩ | ⟨q1, q2⟩
                        · exact .inl ⟨by rw [q1]; rfl, x, e1, e2, q2, q3⟩
                        · exact .inr ⟨by simpa using q1, q2⟩
                      · cases e3; exact .inr ⟨rfl, rfl⟩
                    have HCP := Lib.hid CP
                    have HCs := Lib.hid hcs
                    clear CP hc hR hcl hcs hG3
                    cases tt with
                    | true =>
                      obtain ⟨x, hx⟩ : ∃ x : Gr, x.cl = 1 + (a : Int) ∧ x.up = true ∧ L' = L ++ [x] ∧ Inv3 (L ++ [x]) := by
                        rcases HCs.out with ⟨_, h⟩ | ⟨h, _⟩
                        · exact h
                        · cases h
                      have HX := Lib.hid hx
                      clear hx
                      go_wp2_with fail
                      go_still_tail 10, (by kernel_rfl)
                      change wpList _ _ _ _ _ w3.drew
                      have D3 : Below w3.heap.size w3 w3.drew := (Below.refl _ _).drew
                      have H3' := Lib.hid (H3.out.below (gdA.out _) D3)
                      have DD := Lib.hid D3
                      clear D3
                      go_wp2_with fail
                      refine (HCP.out _ H3'.out).mono ?_
                      rintro e w4 ⟨rfl, h4, k4⟩
                      rw [HX.out.2.2.1] at h4
                      have Y4 := Lib.hid ((Y3.out.below DD.out).keptF k4 (.inr rfl))
                      have H4 := Lib.hid (h4.less (G := F) (fun j hj => .inl hj))
                      have C4 := Lib.hid ((C3.out.below DD.out).keptF k4 (.inl HFC.out))
                      have B4 := Lib.hid ((bup B3.out DD.out).trans (k4.belowB HFB2.out (bup B3.out DD.out).size))
                      clear h4 k4 y0 y1 da
                      have y0 := Y4.out.cell 0 _ rfl
                      obtain ⟨v, hv⟩ : ∃ v, cI L ((1 + a) * 2 + 1) = v := ⟨_, rfl⟩
                      obtain ⟨hv0, hv64⟩ : 0 ≤ v ∧ v ≤ 64 := by rw [← hv]; exact cI_bound HV.out _
                      have cc : w4.cell? ⟨w0.heap.size + 1, (1 + a) * 2 + 1, none⟩ = some (.int .i64 v) := by rw [← hv]; exact C4.out.cell _ _ (cCells_at _ _ (by omega))
                      have cf := C4.out.free ((1 + a) * 2 + 1)
                      have hcm : Has (w4.setCell ⟨w0.heap.size + 1, (1 + a) * 2 + 1, none⟩ (.int .i64 (cI L ((1 + a) * 2 + 1) + 1))) (w0.heap.size + 1) (.cells (cCells (cI (L ++ [x]))) 42) := (by have q := count_more (x := x) C4.out ha HX.out.1; rw [HX.out.2.1] at q; exact q)
                      rw [hv] at hcm
                      have HCM := Lib.hid hcm
                      clear hv hcm
                      go_wp2_with fail
                      go_still_tail 9, (by kernel_rfl)
                      change wpList _ _ _ _ _ w4.drew
                      go_wp2_with fail
                      go_meet
                      exact ⟨L ++ [x], Lib.hid (by have := HL.out; rw [List.length_append]; simp only [List.length_cons, List.length_nil]; omega), Lib.hid HX.out.2.2.2, Lib.hid ((H4.out.but (gdA.out _) (But.set (w0.heap.size + 1) ((1 + a) * 2 + 1) w4 _) HFC.out).below (gdA.out _) ((Below.refl _ _).drew)), Lib.hid HCM.out.drew, Lib.hid ((B4.out.setCell (p := ⟨w0.heap.size + 1, (1 + a) * 2 + 1, none⟩) (by simp) _).drew)⟩
                    | false =>
                      have HX : Hid (L' = L) := Lib.hid (by
                        rcases HCs.out with ⟨h, _⟩ | ⟨_, h⟩
                        · cases h
                        · exact h)
                      go_wp2_with fail
                      go_still_tail 10, (by kernel_rfl)
                      change wpList _ _ _ _ _ w3.drew
                      have D3 : Below w3.heap.size w3 w3.drew := (Below.refl _ _).drew
                      have H3' := Lib.hid (H3.out.below (gdA.out _) D3)
                      have DD := Lib.hid D3
                      clear D3
                      go_wp2_with fail
                      refine (HCP.out _ H3'.out).mono ?_
                      rintro e w4 ⟨rfl, h4, k4⟩
                      rw [HX.out] at h4
                      have H4 := Lib.hid (h4.less (G := F) (fun j hj => .inl hj))
                      have C4 := Lib.hid ((C3.out.below DD.out).keptF k4 (.inl HFC.out))
                      have B4 := Lib.hid ((bup B3.out DD.out).trans (k4.belowB HFB2.out (bup B3.out DD.out).size))
                      clear h4 k4 y0 y1 da
                      go_wp2_with fail
                      go_meet
                      exact ⟨L, Lib.hid (by have := HL.out; omega), HV, H4, C4, B4⟩
                · have h3' : (kd == 3) = false := by simpa using h3
                  clear h3
                  by_cases h4k : (kd == 4) = true
                  · as_aux_lemma =>
                      have CP := fun w h => eldestH (F := (fun k => F k ∨ k = wr.heap.size)) Emp.good w0.heap.size L w h
                      have ec := eldest_cases L
                      obtain ⟨R, hR⟩ : ∃ R, pullG L 0 = R := ⟨_, rfl⟩
                      rw [hR] at CP ec
                      clear hcl hR
                      rcases ec with ⟨x, r, hxr, rfl⟩ | ⟨hxr, rfl⟩
                      · obtain ⟨xc, xu, xe, xs, xk, xb⟩ := x
                        have hin := HV.out.1 ⟨xc, xu, xe, xs, xk, xb⟩ (by rw [hxr]; simp)
                        simp only at hin
                        obtain ⟨a4, ha4, rfl⟩ : ∃ a4 : Nat, a4 < 3 ∧ xc = 1 + (a4 : Int) := ⟨(xc - 1).toNat, by omega, by omega⟩
                        simp only [Gr.val] at CP
                        have HXi : Hid (L[0]? = some ⟨1 + (a4 : Int), xu, xe, xs, xk, xb⟩) := Lib.hid (by rw [hxr]; rfl)
                        have ht4 : ((1 : Int) + (a4 : Int)).toNat = 1 + a4 := by omega
                        have hi44 : (1 : Int) + (a4 : Int) < 4 := by omega
                        have hi04 : (0 : Int) ≤ 1 + (a4 : Int) := by omega
                        have hi14 : ¬ ((1 : Int) + (a4 : Int) < 1) := by omega
                        have hi34 : ¬ (3 < (1 : Int) + (a4 : Int)) := by omega
                        have HCP := Lib.hid CP
                        clear CP hin hxr ht hi4 hi0
                        cases xu with
                          | false =>
                            go_wp2_with fail
                            refine (HCP.out _ H3.out).mono ?_
                            rintro e w4 ⟨rfl, h4, k4⟩
                            have H4 := Lib.hid (h4.less (G := F) (fun j hj => .inl hj))
                            have C4 := Lib.hid (C3.out.keptF k4 (.inl HFC.out))
                            have B4 := Lib.hid (B3.out.trans (k4.belowB HFB2.out B3.out.size))
                            clear h4 k4
                            go_upto_region 28 with (fail)
                            have Y5 := Lib.hid (Has.new w4 (.cells (⟨1 + (a4 : Int), false, xe, xs, xk, xb⟩ : Gr).row 27))
                            have H5 := Lib.hid (H4.out.below (gdA.out _) (bnew w4 (.cells (⟨1 + (a4 : Int), false, xe, xs, xk, xb⟩ : Gr).row 27)))
                            have C5 := Lib.hid (C4.out.alloc (.cells (⟨1 + (a4 : Int), false, xe, xs, xk, xb⟩ : Gr).row 27))
                            have B5 := Lib.hid (bup B4.out (bnew w4 (.cells (⟨1 + (a4 : Int), false, xe, xs, xk, xb⟩ : Gr).row 27)))
                            simp only [Gr.row] at Y5 H5 C5 B5
                            generalize hw5 : World.alloc w4 _ = w5
                            rw [hw5] at Y5 H5 C5 B5
                            clear hw5 C4
                            have C4 := C5
                            have y0 := Y5.out.cell 0 _ rfl
                            have y1 := Y5.out.cell 1 _ rfl
                            obtain ⟨v, hv⟩ : ∃ v, cI L ((1 + a4) * 2) = v := ⟨_, rfl⟩
                            obtain ⟨hv0, hv64⟩ : 0 ≤ v ∧ v ≤ 64 := by rw [← hv]; exact cI_bound HV.out _
                            have cc : w5.cell? ⟨w0.heap.size + 1, (1 + a4) * 2, none⟩ = some (.int .i64 v) := by rw [← hv]; exact C4.out.cell _ _ (cCells_at _ _ (by omega))
                            have cf := C4.out.free ((1 + a4) * 2)
                            have hcm : Has (w5.setCell ⟨w0.heap.size + 1, (1 + a4) * 2, none⟩ (.int .i64 (cI L ((1 + a4) * 2) - 1))) (w0.heap.size + 1) (.cells (cCells (cI (L.eraseIdx 0))) 42) := count_less (x := (⟨1 + (a4 : Int), false, xe, xs, xk, xb⟩ : Gr)) C4.out ha4 HXi.out rfl
                            rw [hv] at hcm
                            have HCM := Lib.hid hcm
                            clear hv hcm
                            go_wp2_with fail
                            go_still_tail 9, (by kernel_rfl)
                            change wpList _ _ _ _ _ w5.drew
                            go_wp2_with fail
                            go_meet
                            exact ⟨L.eraseIdx 0, Lib.hid (by have := HL.out; have := List.length_eraseIdx_le L 0; omega), Lib.hid (HV.out.erase 0), Lib.hid ((H5.out.but (gdA.out _) (But.set (w0.heap.size + 1) ((1 + a4) * 2) w5 _) HFC.out).below (gdA.out _) ((Below.refl _ _).drew)), Lib.hid HCM.out.drew, Lib.hid ((B5.out.setCell (p := ⟨w0.heap.size + 1, (1 + a4) * 2, none⟩) (by simp) _).drew)⟩
                          | true =>
                            go_wp2_with fail
                            refine (HCP.out _ H3.out).mono ?_
                            rintro e w4 ⟨rfl, h4, k4⟩
                            have H4 := Lib.hid (h4.less (G := F) (fun j hj => .inl hj))
                            have C4 := Lib.hid (C3.out.keptF k4 (.inl HFC.out))
                            have B4 := Lib.hid (B3.out.trans (k4.belowB HFB2.out B3.out.size))
                            clear h4 k4
                            go_upto_region 28 with (fail)
                            have Y5 := Lib.hid (Has.new w4 (.cells (⟨1 + (a4 : Int), true, xe, xs, xk, xb⟩ : Gr).row 27))
                            have H5 := Lib.hid (H4.out.below (gdA.out _) (bnew w4 (.cells (⟨1 + (a4 : Int), true, xe, xs, xk, xb⟩ : Gr).row 27)))
                            have C5 := Lib.hid (C4.out.alloc (.cells (⟨1 + (a4 : Int), true, xe, xs, xk, xb⟩ : Gr).row 27))
                            have B5 := Lib.hid (bup B4.out (bnew w4 (.cells (⟨1 + (a4 : Int), true, xe, xs, xk, xb⟩ : Gr).row 27)))
                            simp only [Gr.row] at Y5 H5 C5 B5
                            generalize hw5 : World.alloc w4 _ = w5
                            rw [hw5] at Y5 H5 C5 B5
                            clear hw5 C4
                            have C4 := C5
                            have y0 := Y5.out.cell 0 _ rfl
                            have y1 := Y5.out.cell 1 _ rfl
                            obtain ⟨v, hv⟩ : ∃ v, cI L ((1 + a4) * 2 + 1) = v := ⟨_, rfl⟩
                            obtain ⟨hv0, hv64⟩ : 0 ≤ v ∧ v ≤ 64 := by rw [← hv]; exact cI_bound HV.out _
                            have cc : w5.cell? ⟨w0.heap.size + 1, (1 + a4) * 2 + 1, none⟩ = some (.int .i64 v) := by rw [← hv]; exact C4.out.cell _ _ (cCells_at _ _ (by omega))
                            have cf := C4.out.free ((1 + a4) * 2 + 1)
                            have hcm : Has (w5.setCell ⟨w0.heap.size + 1, (1 + a4) * 2 + 1, none⟩ (.int .i64 (cI L ((1 + a4) * 2 + 1) - 1))) (w0.heap.size + 1) (.cells (cCells (cI (L.eraseIdx 0))) 42) := count_less (x := (⟨1 + (a4 : Int), true, xe, xs, xk, xb⟩ : Gr)) C4.out ha4 HXi.out rfl
                            rw [hv] at hcm
                            have HCM := Lib.hid hcm
                            clear hv hcm
                            go_wp2_with fail
                            go_still_tail 9, (by kernel_rfl)
                            change wpList _ _ _ _ _ w5.drew
                            go_wp2_with fail
                            go_meet
                            exact ⟨L.eraseIdx 0, Lib.hid (by have := HL.out; have := List.length_eraseIdx_le L 0; omega), Lib.hid (HV.out.erase 0), Lib.hid ((H5.out.but (gdA.out _) (But.set (w0.heap.size + 1) ((1 + a4) * 2 + 1) w5 _) HFC.out).below (gdA.out _) ((Below.refl _ _).drew)), Lib.hid HCM.out.drew, Lib.hid ((B5.out.setCell (p := ⟨w0.heap.size + 1, (1 + a4) * 2 + 1, none⟩) (by simp) _).drew)⟩
                      · simp only [Gr.val, Gr.none] at CP
                        have HCP := Lib.hid CP
                        have HXn := Lib.hid hxr
                        clear CP hxr
                        go_wp2_with fail
                        refine (HCP.out _ H3.out).mono ?_
                        rintro e w4 ⟨rfl, h4, k4⟩
                        have H4 := Lib.hid (h4.less (G := F) (fun j hj => .inl hj))
                        have C4 := Lib.hid (C3.out.keptF k4 (.inl HFC.out))
                        have B4 := Lib.hid (B3.out.trans (k4.belowB HFB2.out B3.out.size))
                        clear h4 k4
                        go_wp2_with fail
                        go_meet
                        have HV' : Hid (Inv3 []) := Lib.hid Inv3.nil
                        have C5 : Has w4 (w0.heap.size + 1) (.cells (cCells (cI [])) 42) := by have := C4.out; rw [HXn.out] at this; exact this
                        exact ⟨[], Lib.hid (by simp), HV', Lib.hid (H4.out.below (gdA.out _) (bnew w4 _)), Lib.hid (C5.alloc _), Lib.hid (bup B4.out (bnew w4 _))⟩
                  · have h4' : (kd == 4) = false := by simpa using h4k
                    clear h4k hcl
                    go_wp2_with fail
                    go_meet
                    exact ⟨L, Lib.hid (by have := HL.out; omega), HV, Lib.hid (H3.out.less (fun j hj => .inl hj)), C3, B3⟩
          case rest =>
            as_aux_lemma =>
              obtain ⟨L', HL', HV', HS', HCC', HB'⟩ := hcut
              clear H3 C3 B3 Y3 HL HV HB HA ht hi4 hi0 hcl
              go_wp2_with fail
              go_loopw [13] (fun i wq => ∃ cc : Nat, i = .int .i64 cc ∧ 1 ≤ cc ∧ cc ≤ 4 ∧ Hid (Held F (Star (NetR 53 w0.heap.size L') Emp) wq) ∧ Hid (Has wq (w0.heap.size + 1) (.cells (cCells (cI L')) 42)) ∧ Hid (Below w0.heap.size w0 wq)) (fun i _ => 4 - (intOf i).toNat)
              case atStart => exact ⟨1, rfl, by omega, by omega, HS', HCC', HB'⟩
              case round =>
                obtain ⟨q, rfl, hq1, hq4, HSq, HCq, HBq⟩ := hrel
                clear HS' HCC' HB'
                by_cases hq : q < 4
                · obtain ⟨v0, hv0⟩ : ∃ v, cI L' (q * 2) = v := ⟨_, rfl⟩
                  obtain ⟨v1, hv1⟩ : ∃ v, cI L' (q * 2 + 1) = v := ⟨_, rfl⟩
                  have hc0 : (cnt (q : Int) false L' : Int) = v0 := by rw [← hv0]; exact (cI_at L' q false (by omega)).symm
                  have hc1 : (cnt (q : Int) true L' : Int) = v1 := by rw [← hv1]; exact (cI_at L' q true (by omega)).symm
                  have hb0 : v0 ≤ 64 := by rw [← hv0]; exact (cI_bound HV'.out _).2
                  have hb1 : v1 ≤ 64 := by rw [← hv1]; exact (cI_bound HV'.out _).2
                  have CN0 := fun w h => countH (F := F) Emp.good w0.heap.size L' (q : Int) false w h
                  have CN1 := fun w h => countH (F := F) Emp.good w0.heap.size L' (q : Int) true w h
                  rw [hc0] at CN0
                  rw [hc1] at CN1
                  have n0 := HCq.out.cell (q * 2) _ (cCells_at _ _ (by omega))
                  have n1 := HCq.out.cell (q * 2 + 1) _ (cCells_at _ _ (by omega))
                  rw [hv0] at n0
                  rw [hv1] at n1
                  clear hv0 hv1 hc0 hc1
                  have hqi : (q : Int) < 4 := by omega
                  have hqt : ((q : Int)).toNat = q := by omega
                  have hb0' : ¬ (64 < v0) := by omega
                  have hb1' : ¬ (64 < v1) := by omega
                  have k0 := fun d os => Calls.regrown_of ((CN0 (grow (redrawn wr d) os) (HSq.out.below (gdA.out _) (below_regrown _ _ _))).mono (fun _ _ h => ⟨h.1, h.2.2⟩))
                  have k1 := fun d os => Calls.regrown_of ((CN1 (grow (redrawn wr d) os) (HSq.out.below (gdA.out _) (below_regrown _ _ _))).mono (fun _ _ h => ⟨h.1, h.2.2⟩))
                  clear CN0 CN1
                  go_upto_region 38 with (fail)
                  have n0 := cell_regrown n0
                  have n1 := cell_regrown n1
                  refine wp_region_quiet_below (by kernel_rfl) (by kernel_rfl) ?_
                  repeat (quiet_step (first | with_reducible exact k0 _ _ | with_reducible exact k1 _ _))
                  refine wpQuiet_nil ?_
                  intro _ hw7
                  obtain ⟨⟨dq, osq⟩, hw8⟩ := hw7
                  subst hw8
                  go_wp2_with fail
                  go_roundw
                  case rel => exact ⟨q + 1, by go_num, by omega, by omega, Lib.hid (HSq.out.below (gdA.out _) (below_regrown _ _ _)), Lib.hid (HCq.out.below (below_regrown _ _ _)), Lib.hid (bup HBq.out (below_regrown _ _ _))⟩
                  case measure => simp [intOf]; omega
                · obtain rfl : q = 4 := by omega
                  go_wp2_with fail
                  go_roundw
                  case rel => exact ⟨k + 1, L', by omega, by omega, by go_num, HL', HV', HSq, HCq, HBq⟩
                  case measure => simp [intOf]; omega
    · rcases Nat.lt_or_ge k n with hkn | hkn
      · obtain rfl : k = 200 := by omega
        go_wp2_with fail
        go_ret
        exact ⟨rfl, B0.out.trans (HB.out.mono B0.out.size)⟩
      · obtain rfl : k = n := by omega
        go_wp2_with fail
        go_ret
        exact ⟨rfl, B0.out.trans (HB.out.mono B0.out.size)⟩
end Go.Proofs.Ytkdopflnaeejeaa
