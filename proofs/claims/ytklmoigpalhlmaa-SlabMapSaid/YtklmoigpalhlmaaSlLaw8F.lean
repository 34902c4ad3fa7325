/-
  Layer 3: a put's slots lie in new memory; a place is opened; a plain list of slots.
-/
import Derived.Test.YtklmoigpalhlmaaSlF
import Derived.Test.YtklmoigpalhlmaaRows2
namespace Go.Proofs.Ytklmoigpalhlmaa
open Go.RowKit Go.ChangeShapes Go.WideShapes Go.Deep Go.Joins
set_option linter.unusedVariables false
set_option linter.unusedSimpArgs false

/-- An image and an error come out; where there is no error the slots are new. -/
def PageOutF (R : Int × List Sl × Int) (w : World) (e : Ending) (w' : World) : Prop :=
  ∃ A n c, e = .returned (.tuple #[.agg #[.int .i64 R.1, .slice A n c], .int .i64 R.2.2]) ∧ IsSlots w' A n c R.2.1 ∧ Below w.heap.size w w' ∧ (R.2.2 = 0 → ∀ a, A = some a → w.heap.size ≤ a.block)
theorem PageOut.fails {R : Int × List Sl × Int} {w w' : World} {e : Ending} (h : PageOut R w e w') (hr : R.2.2 ≠ 0) : PageOutF R w e w' := by
  obtain ⟨A, n, c, h1, h2, h3⟩ := h
  exact ⟨A, n, c, h1, h2, h3, fun e => absurd e hr⟩
set_option maxRecDepth 100000 in
set_option maxHeartbeats 8000000 in
/-- A put that may be: it is made, and is looked at. -/
theorem pput_inF (lsn : Int) (A : Option Addr) (n c : Nat) (l : List Sl) (k M : Nat) (X : Int) (u : Bool) (d : ByteArray) (w : World) (h : IsSlots w A n c l) (hg : slGood lsn l = true) (hk : k < 32) (hu : u = true ∨ (u = false ∧ d.toList.isEmpty = true)) (hl : d.size ≤ 200)
    (hM : max l.length (k + 1) = M) (hX : X = (M : Int)) (hw : (X = (n : Int) ∧ k + 1 ≤ n) ∨ (X = (k : Int) + 1 ∧ n ≤ k)) (L : List Sl) (hL : (slPad l (k + 1)).set k ⟨u, d⟩ = L) :
    Calls Try.prog 20 #[.agg #[.int .i64 lsn, .slice A n c], .int .i64 k, .agg #[.bool u, .string d]] w (PageOutF (if 240 < slSize (slTrim L) then (0, [], 22) else (lsn, slTrim L, 0)) w) := by
  have CG := Lib.hid (fun w h => pgood_any lsn A n c l w h)
  rw [hg] at CG
  obtain ⟨hg1, hg2, hg3, hg4, hg5⟩ := (slGood_iff lsn l).1 hg
  have hlen := h.len
  have hcap := h.cap
  have hmost := h.most
  obtain ⟨fs, hpu⟩ := pageUnd
  have Hu := Lib.hid hpu
  have H := Lib.hid h
  have hLM : L.length = M := by rw [← hL, List.length_set, slPad_len, hM]
  have hM1 : k < M := by omega
  have hM2 : n ≤ M := by omega
  have hM3 : M ≤ 32 := by omega
  have hLs : ∀ y ∈ L, y.d.size ≤ 200 := by rw [← hL]; exact putL_sizes (any_odd_sizes hg3) k hl
  have HP := Lib.hid (pad_made l k M hM)
  have HS : Hid (((flat (slPad l (k + 1))).set (k * 2) (.bool u)).set (k * 2 + 1) (.string d) = flat L) := Lib.hid (by rw [← hL]; exact flat_set _ k ⟨u, d⟩)
  have hpl : (flat (slPad l (k + 1))).length = M * 2 := by rw [flat_len, slPad_len, hM]
  have hpk : k < (slPad l (k + 1)).length := by rw [slPad_len, hM]; exact hM1
  obtain ⟨i0, hi0, hz0, hz1, hz2⟩ := info_parts infoSlot
  have HI := Lib.hid hi0
  have HI2 := Lib.hid hz1
  have hmk := fun w => makeSlots M (by omega) w
  rw [← hX] at hmk
  obtain ⟨F0, hF0⟩ : ∃ F, (flat (List.replicate M Sl.none)).toArray = F := ⟨_, rfl⟩
  rw [hF0] at hmk
  have HE : Hid (flat l ++ F0.toList.drop (flat l).length = flat (slPad l (k + 1))) := Lib.hid (by rw [← hF0]; exact HP.out)
  have HF : (flat l).length ≤ F0.size := by rw [← hF0, List.size_toArray, flat_len, flat_len, List.length_replicate]; omega
  obtain ⟨q, hq⟩ : ∃ q, (slPad l (k + 1))[k]? = some q := ⟨_, List.getElem?_eq_getElem hpk⟩
  have hq2 := flat_get _ k q hq
  obtain ⟨PD, hPD⟩ : ∃ PD, flat (slPad l (k + 1)) = PD := ⟨_, rfl⟩
  rw [hPD] at HE HS hpl hq2
  obtain ⟨FL, hFL⟩ : ∃ FL, flat l = FL := ⟨_, rfl⟩
  have hfl1 : FL.length = n * 2 := by rw [← hFL, flat_len, hlen]
  have hfl2 : ∀ v ∈ FL, v.oneCell' = true := by rw [← hFL]; exact flat_one l
  have HSRC := Lib.hid (fun w (h : IsSlots w A n c l) hn => h.src hn)
  rw [hFL] at HE HF HSRC
  obtain ⟨R, hR⟩ : ∃ R : Int × List Sl × Int, (if 240 < slSize (slTrim L) then (0, [], 22) else (lsn, slTrim L, 0)) = R := ⟨_, rfl⟩
  rw [hR]
  have HR := Lib.hid hR
  have Hlen := Lib.hid hlen
  have HLM := Lib.hid hLM
  have HLs := Lib.hid hLs
  have Hfl1 := Lib.hid hfl1
  have Hfl2 := Lib.hid hfl2
  have HQ := Lib.hid hq2
  have Hpl := Lib.hid hpl
  have HFF := Lib.hid HF
  clear h hpu hg hg1 hg2 hg3 hg4 hg5 hL hM hlen hi0 hz0 hz1 hz2 hF0 hLM HP hR hX hPD hFL hLs hfl1 hfl2 hq hq2 hpl hpk HF
  rcases hw with ⟨rfl, hnk⟩ | ⟨rfl, hnk⟩ <;> rcases hu with rfl | ⟨rfl, hd⟩ <;>
  · go_enter Try.func20, Try.ntmps20
    go_wp2_with fail
    refine (CG.out _ (((H.out.alloc _).alloc _).alloc _)).mono ?_
    rintro e w1 ⟨rfl, b1⟩
    have Z := Lib.hid ((Has.new2 w _ _ _).below b1)
    have P := Lib.hid ((((Has.new w _).alloc _).alloc _).below b1)
    have XX := (((Has.new1 w _ _).alloc _).below b1)
    have x0 := XX.cell 0 _ rfl
    have x1 := XX.cell 1 _ rfl
    have p1 := P.out.cell 1 _ rfl
    have B := Lib.hid (bup (bup (bup (bnew w _) (bnew _ _)) (bnew _ _)) b1)
    have hh : w.heap.size + 1 + 1 < w1.heap.size := Z.out.lt
    clear b1
    replace XX := Lib.hid XX
    go_upto_region 6 with (fail)
    generalize hw2 : World.alloc w1 _ = w2
    have hb2 : Below w1.heap.size w1 w2 := by rw [← hw2]; exact bnew _ _
    have G := Lib.hid (by rw [← hw2]; exact Has.new _ _ : Has w2 w1.heap.size (.cells F0 33))
    replace Z := Lib.hid (Z.out.below hb2)
    replace P := Lib.hid (P.out.below hb2)
    replace XX := Lib.hid (XX.out.below hb2)
    replace B := Lib.hid (bup B.out hb2)
    clear hw2 x0 x1 p1 hb2
    have p1 := P.out.cell 1 _ rfl
    go_upto_region 7 with ((refine wpList_copy_wide rfl (.tmp 45) (.tmp 47) 22 rfl 33 i0 Try.underlying22 HI.out w1.heap.size M M A n c rfl rfl F0 33 G.out FL (by rw [Hfl1.out, HI2.out]) (by omega) (fun hn => HSRC.out _ (H.out.below B.out) hn) HFF.out Hfl2.out ?_); intro w3 G3 B3)
    rw [HE.out] at G3
    have q0 := G3.cell (k * 2) _ (by simpa using HQ.out.1)
    have q1 := G3.cell (k * 2 + 1) _ (by simpa using HQ.out.2)
    have f0 := G3.free (k * 2)
    have f1 := G3.free (k * 2 + 1)
    replace Z := Lib.hid (Z.out.but B3 (by omega))
    replace P := Lib.hid (P.out.but B3 (by omega))
    have XX3 := XX.out.but B3 (by omega)
    replace B := Lib.hid (B.out.trans (B3.below (by omega) B.out.size))
    clear p1 XX B3 G
    have x0 := XX3.cell 0 _ rfl
    have x1 := XX3.cell 1 _ rfl
    replace XX3 := Lib.hid XX3
    replace G3 := Lib.hid G3
    go_upto_region 8 with (fail)
    generalize hw4 : World.setCell _ _ _ = w4
    have G : Hid (Has w4 w1.heap.size (.cells (flat L).toArray 33)) := Lib.hid (by rw [← hw4]; exact Has.set2 G3.out HS.out)
    have Z4 : Hid (Has w4 (w.heap.size + 1 + 1) (.cells #[.int .i64 0, .slice none 0 0] 24)) := Lib.hid (by rw [← hw4]; exact (Z.out.setOther (by omega) _ _).setOther (by omega) _ _)
    have P4 : Hid (Has w4 w.heap.size (.cells #[.int .i64 lsn, .slice A n c] 24)) := Lib.hid (by rw [← hw4]; exact (P.out.setOther (by omega) _ _).setOther (by omega) _ _)
    have B4 : Hid (Below w.heap.size w w4) := Lib.hid (by rw [← hw4]; exact (B.out.setCell (p := ⟨w1.heap.size, k * 2, none⟩) (by show w.heap.size ≤ w1.heap.size; omega) _).setCell (p := ⟨w1.heap.size, k * 2 + 1, none⟩) (by show w.heap.size ≤ w1.heap.size; omega) _)
    clear hw4 G3 q0 q1 f0 f1 x0 x1 XX3 Z P B hmk HSRC HE HS CG HI HI2 Hfl1 Hfl2 HQ Hpl HFF
    go_loop [8] (fun v => ∃ m : Nat, m ≤ M ∧ v = .slice (some ⟨w1.heap.size, 0, none⟩) m M ∧ Hid (slTrim (L.take m) = slTrim L)) (fun v => sliceLen v)
    case atStart => exact ⟨M, by omega, rfl, Lib.hid (by rw [List.take_of_length_le (by rw [HLM.out]; omega)])⟩
    case round =>
      obtain ⟨m, hm, rfl, Ht⟩ := hrel
      have fin : ∀ m, m ≤ M → slTrim (L.take m) = L.take m → slTrim (L.take m) = slTrim L → (L.take m = slTrim L ∧ IsSlots w4 (some ⟨w1.heap.size, 0, none⟩) m M (slTrim L) ∧ slSize (slTrim L) ≤ 4611686018427387904) := by
        intro m hm h1 h2
        have e : L.take m = slTrim L := h1.symm.trans h2
        have hI : IsSlots w4 (some ⟨w1.heap.size, 0, none⟩) m M (L.take m) := by
          refine IsSlots.of_has (rest := []) G.out ?_ (by simp [HLM.out]; omega) hm (by omega) (fun x hx => by have := HLs.out x (List.mem_of_mem_take hx); omega)
          rw [flat_take]
        rw [e] at hI
        exact ⟨e, hI, slots_small hI (by omega)⟩
      have Fin := Lib.hid fin
      clear fin
      have out : (m = 0 ∨ ∃ j y, m = j + 1 ∧ L[j]? = some y ∧ y.u = true) ∨ (∃ j y, m = j + 1 ∧ L[j]? = some y ∧ y.u = false) := by
        rcases Nat.eq_zero_or_pos m with h0 | h0
        · exact .inl (.inl h0)
        · obtain ⟨j, rfl⟩ : ∃ j, m = j + 1 := ⟨m - 1, by omega⟩
          have hj : j < L.length := by rw [HLM.out]; omega
          cases hy : (L[j]).u with
          | true => exact .inl (.inr ⟨j, L[j], rfl, List.getElem?_eq_getElem hj, hy⟩)
          | false => exact .inr ⟨j, L[j], rfl, List.getElem?_eq_getElem hj, hy⟩
      have z0 := P4.out.cell 0 _ rfl
      rcases out with out | ⟨j, y, rfl, hj, hy⟩
      · have ht : slTrim (L.take m) = L.take m := by
          rcases out with rfl | ⟨j, y, rfl, hj, hy⟩
          · rfl
          · exact slTrim_take_used hj hy
        obtain ⟨e1, e2, e3⟩ := Fin.out m hm ht Ht.out
        have CS := Lib.hid (fun v h => size_any (some ⟨w1.heap.size, 0, none⟩) m M (slTrim L) v h e3)
        obtain ⟨S, hS⟩ : ∃ S, slSize (slTrim L) = S := ⟨_, rfl⟩
        obtain ⟨T, hT⟩ : ∃ T, slTrim L = T := ⟨_, rfl⟩
        rw [hS] at CS e3
        have HR2 := HR.out
        rw [hS, hT] at HR2
        rw [hT] at CS e2
        have E2 := Lib.hid e2
        have HRR := Lib.hid HR2
        have hS2 : S ≤ 4611686018427387904 := e3
        clear e1 e2 e3 hS hT ht Ht Fin HR2
        rcases out with rfl | ⟨j, y, rfl, hj, hy⟩
        · go_wp2_with fail
          refine (CS.out _ E2.out).mono ?_
          rintro e w5 ⟨rfl, b5⟩
          have Z5 := Lib.hid (Z4.out.below b5)
          have P5 := (P4.out.below b5).cell 0 _ rfl
          have B5 := Lib.hid (bup B4.out b5)
          have I5 := Lib.hid (E2.out.below b5)
          by_cases hS : 240 < S
          · have hS' : (240 : Int) < (S : Int) := by omega
            have HR3 : Hid (R = (0, [], 22)) := Lib.hid (by rw [← HRR.out, if_pos hS])
            clear b5 z0 hS
            go_wp2_with ((with_reducible refine at_store rfl ?_); refine wpList_put_row rfl _ _ _ rfl rfl (w.heap.size + 1 + 1) _ rfl rfl _ _ Z5.out (by kernel_rfl) rfl (by first | kernel_rfl | simp [Value.oneCell']) ?_; intro w8 Z8 B8)
            (try simp only [Exit.inBlock, Exit.then])
            refine bodyPost_ret (v := .tuple #[.agg #[.int .i64 0, .slice none 0 0], .int .i64 22]) ?_ rfl ⟨none, 0, 0, by rw [HR3.out], by rw [HR3.out]; exact IsSlots.nil _, ?_, fun _ a e => by cases e⟩
            · refine Eq.trans (results_cell_one (p := 6) (u := 7) ?_ _ _ (w.heap.size + 1 + 1) _ _ _ fs ?_ Z8 Hu.out (by kernel_rfl)) ?_
              all_goals rfl
            · exact B5.out.trans (B8.below (by omega) B5.out.size)
          · have hS' : (S : Int) ≤ 240 := by omega
            have HR3 : Hid (R = (lsn, T, 0)) := Lib.hid (by rw [← HRR.out, if_neg hS])
            have hz5 : w.heap.size + 1 + 1 ≠ w1.heap.size := by omega
            clear b5 z0 hS
            go_wp2_with ((with_reducible refine at_store rfl ?_); refine wpList_put_row rfl _ _ _ rfl rfl (w.heap.size + 1 + 1) _ rfl rfl _ _ Z5.out (by kernel_rfl) rfl (by first | kernel_rfl | simp [Value.oneCell']) ?_; intro w8 Z8 B8)
            (try simp only [Exit.inBlock, Exit.then])
            refine bodyPost_ret (v := .tuple #[.agg #[.int .i64 lsn, .slice (some ⟨w1.heap.size, 0, none⟩) 0 M], .int .i64 0]) ?_ rfl ⟨some ⟨w1.heap.size, 0, none⟩, 0, M, by rw [HR3.out], by rw [HR3.out]; exact IsSlots.but I5.out B8 (fun b off e => by cases e; omega), ?_, fun _ a e => by cases e; show w.heap.size ≤ w1.heap.size; omega⟩
            · refine Eq.trans (results_cell_one (p := 6) (u := 7) ?_ _ _ (w.heap.size + 1 + 1) _ _ _ fs ?_ Z8 Hu.out (by kernel_rfl)) ?_
              all_goals rfl
            · exact B5.out.trans (B8.below (by omega) B5.out.size)
        · have hc := flat_get L j y hj
          have c0 : w4.cell? ⟨w1.heap.size, j * 2, none⟩ = some (.bool true) := G.out.cell _ _ (by rw [← hy]; simpa using hc.1)
          clear hc hj hy
          go_wp2_with fail
          refine (CS.out _ E2.out).mono ?_
          rintro e w5 ⟨rfl, b5⟩
          have Z5 := Lib.hid (Z4.out.below b5)
          have P5 := (P4.out.below b5).cell 0 _ rfl
          have B5 := Lib.hid (bup B4.out b5)
          have I5 := Lib.hid (E2.out.below b5)
          by_cases hS : 240 < S
          · have hS' : (240 : Int) < (S : Int) := by omega
            have HR3 : Hid (R = (0, [], 22)) := Lib.hid (by rw [← HRR.out, if_pos hS])
            clear b5 z0 hS
            go_wp2_with ((with_reducible refine at_store rfl ?_); refine wpList_put_row rfl _ _ _ rfl rfl (w.heap.size + 1 + 1) _ rfl rfl _ _ Z5.out (by kernel_rfl) rfl (by first | kernel_rfl | simp [Value.oneCell']) ?_; intro w8 Z8 B8)
            (try simp only [Exit.inBlock, Exit.then])
            refine bodyPost_ret (v := .tuple #[.agg #[.int .i64 0, .slice none 0 0], .int .i64 22]) ?_ rfl ⟨none, 0, 0, by rw [HR3.out], by rw [HR3.out]; exact IsSlots.nil _, ?_, fun _ a e => by cases e⟩
            · refine Eq.trans (results_cell_one (p := 6) (u := 7) ?_ _ _ (w.heap.size + 1 + 1) _ _ _ fs ?_ Z8 Hu.out (by kernel_rfl)) ?_
              all_goals rfl
            · exact B5.out.trans (B8.below (by omega) B5.out.size)
          · have hS' : (S : Int) ≤ 240 := by omega
            have HR3 : Hid (R = (lsn, T, 0)) := Lib.hid (by rw [← HRR.out, if_neg hS])
            have hz5 : w.heap.size + 1 + 1 ≠ w1.heap.size := by omega
            clear b5 z0 hS
            go_wp2_with ((with_reducible refine at_store rfl ?_); refine wpList_put_row rfl _ _ _ rfl rfl (w.heap.size + 1 + 1) _ rfl rfl _ _ Z5.out (by kernel_rfl) rfl (by first | kernel_rfl | simp [Value.oneCell']) ?_; intro w8 Z8 B8)
            (try simp only [Exit.inBlock, Exit.then])
            refine bodyPost_ret (v := .tuple #[.agg #[.int .i64 lsn, .slice (some ⟨w1.heap.size, 0, none⟩) (j + 1) M], .int .i64 0]) ?_ rfl ⟨some ⟨w1.heap.size, 0, none⟩, (j + 1), M, by rw [HR3.out], by rw [HR3.out]; exact IsSlots.but I5.out B8 (fun b off e => by cases e; omega), ?_, fun _ a e => by cases e; show w.heap.size ≤ w1.heap.size; omega⟩
            · refine Eq.trans (results_cell_one (p := 6) (u := 7) ?_ _ _ (w.heap.size + 1 + 1) _ _ _ fs ?_ Z8 Hu.out (by kernel_rfl)) ?_
              all_goals rfl
            · exact B5.out.trans (B8.below (by omega) B5.out.size)
      · have HT := Lib.hid ((slTrim_take_free hj hy).symm.trans Ht.out)
        have hc := flat_get L j y hj
        have c0 : w4.cell? ⟨w1.heap.size, j * 2, none⟩ = some (.bool false) := G.out.cell _ _ (by rw [← hy]; simpa using hc.1)
        clear hc hj hy Ht Fin
        go_wp2_with fail
        go_round
        case rel => exact ⟨j, by omega, rfl, HT⟩
        case measure => simp [sliceLen]
theorem pput_anyF (lsn : Int) (A : Option Addr) (n c : Nat) (l : List Sl) (k : Int) (x : Sl) (w : World) (h : IsSlots w A n c l) (hx : x.d.size ≤ 140737488351232) :
    Calls Try.prog 20 #[.agg #[.int .i64 lsn, .slice A n c], .int .i64 k, .agg #[.bool x.u, .string x.d]] w (PageOutF (putRes lsn l k x) w) := by
  unfold putRes
  cases hb : putBad lsn l k x with
  | true => rw [if_pos rfl]; exact (pput_bad lsn A n c l k x w h hb).mono (fun _ _ h => h.fails (by decide))
  | false =>
    rw [if_neg (by simp)]
    by_cases hl : 200 < x.d.size
    · rw [if_pos hl]; exact (pput_long lsn A n c l k x w h hb hx hl).mono (fun _ _ h => h.fails (by decide))
    · rw [if_neg hl]
      obtain ⟨h1, h2, h3, h4⟩ := putBad_not hb
      obtain ⟨j, rfl⟩ : ∃ j : Nat, k = j := ⟨k.toNat, by omega⟩
      have hlen := h.len
      obtain ⟨u, d⟩ := x
      simp only at hl
      refine pput_inF lsn A n c l j _ (max l.length (j + 1) : Nat) u d w h h1 (by omega) ?_ (by omega) rfl rfl ?_ _ rfl
      · cases u with
        | true => exact .inl rfl
        | false => exact .inr ⟨rfl, by rcases h4 with h | h <;> simp_all⟩
      · by_cases hn : j + 1 ≤ n
        · exact .inl ⟨by omega, hn⟩
        · exact .inr ⟨by omega, by omega⟩
def Sl.row (x : Sl) : Array Value := #[.bool x.u, .string x.d]
theorem Sl.row_size (x : Sl) : x.row.size = 2 := rfl
def Sl.dat {H : Type} (x : Sl) : DataW H := .agg [.lit (.bool x.u), .lit (.string x.d.data.toList)]
def Sl.ok (x : Sl) : Prop := x.d.size ≤ 140737488351232
section
variable {H : Type} {enc : TypeId × Value → H} {w : World} {base : Nat} {spare : Nat → Bool} {held : Bool}
theorem Sl_parts {P : Program} {t : TypeId} {f0 f1 : Field} {fuel : Nat} {cs : List Value} {x : DataW H × List MemPlace} (ht : P.underlying t = some (.struct #[f0, f1])) (hof : [f0, f1].map (fun f => (f.offset, P.cellsOf f.type)) = [(0, 1), (1, 1)]) (hC : P.cellsOf t = 2) (h : DataW.trod enc P w base spare held fuel t cs = some x) :
    ∃ c0 c1 y0 y1 n, cs = [c0, c1] ∧ x.1 = .agg [y0.1, y1.1] ∧ DataW.trod enc P w base spare held n f0.type [c0] = some y0 ∧ DataW.trod enc P w base spare held n f1.type [c1] = some y1 := by
  obtain ⟨xs, n, _, hx, hcl, hlen, hf⟩ := DataW.trod_struct ht h
  rw [hC] at hcl
  simp only [List.map_cons, List.map_nil, List.cons.injEq, Prod.mk.injEq, and_true] at hof
  obtain ⟨⟨o0, k0⟩, ⟨o1, k1⟩⟩ := hof
  match cs, hcl with
  | [c0, c1], _ =>
    match xs, hlen with
    | [y0, y1], _ =>
      have h0 := hf 0 f0 rfl
      rw [o0, k0] at h0
      simp only [List.drop_succ_cons, List.drop_zero, List.take_succ_cons, List.take_zero] at h0
      have h1 := hf 1 f1 rfl
      rw [o1, k1] at h1
      simp only [List.drop_succ_cons, List.drop_zero, List.take_succ_cons, List.take_zero] at h1
      exact ⟨c0, c1, y0, y1, n, rfl, by rw [hx]; rfl, h0, h1⟩
theorem Sl_cells {fuel : Nat} {cs : List Value} {x : DataW H × List MemPlace} (h : DataW.trod enc Try.prog w base spare held fuel 33 cs = some x) (hw : ∀ n ∈ x.1.weights Try.prog 33, n ≤ reachBytes) : ∃ e : Sl, cs = e.row.toList ∧ x.1 = e.dat ∧ e.ok := by
  obtain ⟨c0, c1, y0, y1, n, rfl, hx, h0, h1⟩ := Sl_parts Try.underlying33 (by kernel_rfl) (by kernel_rfl) h
  rw [hx] at hw
  simp only [DataW.weights, Try.underlying33, DataW.weightsEach, List.map_cons, List.map_nil, List.toList_toArray, List.mem_append] at hw
  obtain ⟨a0, q0, e0⟩ := DataW.trod_bool Try.underlying4 h0
  obtain ⟨a1, q1, e1, _⟩ := DataW.trod_string Try.underlying9 h1
  simp only [List.cons.injEq, and_true] at q0
  subst q0
  simp only [List.cons.injEq, and_true] at q1
  subst q1
  have g1 : a1.size ≤ 140737488351232 := by
    have := hw a1.data.toList.length (.inr (.inl (by rw [e1]; simp [DataW.weights])))
    have e1 : a1.data.toList.length = a1.size := Array.length_toList
    unfold reachBytes at this
    omega
  refine ⟨⟨a0, a1⟩, rfl, ?_, g1⟩
  rw [hx, e0, e1]; rfl
end
structure Plc where
  sl : Int
  x : Sl
def Plc.val (x : Plc) : Value := .agg #[.int .i64 x.sl, .agg #[.bool x.x.u, .string x.x.d]]
def Plc.row (x : Plc) : Array Value := #[.int .i64 x.sl, .bool x.x.u, .string x.x.d]
theorem Plc.row_size (x : Plc) : x.row.size = 3 := rfl
def Plc.dat {H : Type} (x : Plc) : DataW H := .agg [.lit (.int .i64 x.sl), x.x.dat]
def Plc.ok (x : Plc) : Prop := (Lit.int .i64 x.sl).wf = true ∧ x.x.ok
section
variable {H : Type} {enc : TypeId × Value → H} {w : World} {base : Nat} {spare : Nat → Bool} {held : Bool}
theorem Plc_parts {P : Program} {t : TypeId} {f0 f1 : Field} {fuel : Nat} {cs : List Value} {x : DataW H × List MemPlace} (ht : P.underlying t = some (.struct #[f0, f1])) (hof : [f0, f1].map (fun f => (f.offset, P.cellsOf f.type)) = [(0, 1), (1, 2)]) (hC : P.cellsOf t = 3) (h : DataW.trod enc P w base spare held fuel t cs = some x) :
    ∃ c0 c1 c2 y0 y1 n, cs = [c0, c1, c2] ∧ x.1 = .agg [y0.1, y1.1] ∧ DataW.trod enc P w base spare held n f0.type [c0] = some y0 ∧ DataW.trod enc P w base spare held n f1.type [c1, c2] = some y1 := by
  obtain ⟨xs, n, _, hx, hcl, hlen, hf⟩ := DataW.trod_struct ht h
  rw [hC] at hcl
  simp only [List.map_cons, List.map_nil, List.cons.injEq, Prod.mk.injEq, and_true] at hof
  obtain ⟨⟨o0, k0⟩, ⟨o1, k1⟩⟩ := hof
  match cs, hcl with
  | [c0, c1, c2], _ =>
    match xs, hlen with
    | [y0, y1], _ =>
      have h0 := hf 0 f0 rfl
      rw [o0, k0] at h0
      simp only [List.drop_succ_cons, List.drop_zero, List.take_succ_cons, List.take_zero] at h0
      have h1 := hf 1 f1 rfl
      rw [o1, k1] at h1
      simp only [List.drop_succ_cons, List.drop_zero, List.take_succ_cons, List.take_zero] at h1
      exact ⟨c0, c1, c2, y0, y1, n, rfl, by rw [hx]; rfl, h0, h1⟩
theorem Plc_cells {fuel : Nat} {cs : List Value} {x : DataW H × List MemPlace} (h : DataW.trod enc Try.prog w base spare held fuel 47 cs = some x) (hw : ∀ n ∈ x.1.weights Try.prog 47, n ≤ reachBytes) : ∃ e : Plc, cs = e.row.toList ∧ x.1 = e.dat ∧ e.ok := by
  obtain ⟨c0, c1, c2, y0, y1, n, rfl, hx, h0, h1⟩ := Plc_parts Try.underlying47 (by kernel_rfl) (by kernel_rfl) h
  rw [hx] at hw
  simp only [DataW.weights, Try.underlying47, DataW.weightsEach, List.map_cons, List.map_nil, List.toList_toArray, List.mem_append] at hw
  obtain ⟨a0, q0, e0, wf0⟩ := DataW.trod_int Try.underlying3 h0
  obtain ⟨a1, q1, e1, g1⟩ := Sl_cells h1 (fun m hm => hw m (.inr (.inl hm)))
  simp only [List.cons.injEq, and_true] at q0
  subst q0
  simp only [Sl.row, List.cons.injEq, and_true] at q1
  obtain ⟨rfl, rfl⟩ := q1
  refine ⟨⟨a0, a1⟩, rfl, ?_, wf0, g1⟩
  rw [hx, e0, e1]; rfl
end
theorem open_places {H : Type} {enc : TypeId × Value → H} {w : World} {base : Nat} {spare : Nat → Bool} {held : Bool} {r : Reach} {b0 : Nat} {v : Value} {d : DataW H} {p : List MemPlace} (hv : Value.okWide Try.prog w r b0 44 v) (h : DataW.Trod enc Try.prog w base spare held 44 v d p) (hw : ∀ n ∈ d.weights Try.prog 44, n ≤ reachBytes) :
    ∃ A n c l, v = .slice A n c ∧ IsRow 3 Plc.row Plc.ok w A n c l :=
  open_rowArg Try.underlying44 (by kernel_rfl) Plc.row_size (by omega) (fun f cs y h hw => by obtain ⟨e, h1, _, h3⟩ := Plc_cells h hw; exact ⟨e, h1, h3⟩) hv h hw
/-- The cells of a place. -/
structure PlcIn (w : World) (b o : Nat) (x : Plc) : Prop where
  k : w.cell? ⟨b, o, none⟩ = some (.int .i64 x.sl)
  u : w.cell? ⟨b, o + 1, none⟩ = some (.bool x.x.u)
  d : w.cell? ⟨b, o + 2, none⟩ = some (.string x.x.d)
theorem PlcIn.below {w w' : World} {b o : Nat} {x : Plc} (h : PlcIn w b o x) (hb : Below w.heap.size w w') : PlcIn w' b o x :=
  have hlt : b < w.heap.size := block_lt_of_cell h.k
  ⟨(hb.cell (p := ⟨b, o, none⟩) hlt).trans h.k, (hb.cell (p := ⟨b, o + 1, none⟩) hlt).trans h.u, (hb.cell (p := ⟨b, o + 2, none⟩) hlt).trans h.d⟩
theorem places_at {w : World} {A : Option Addr} {n c : Nat} {l : List Plc} (h : IsRow 3 Plc.row Plc.ok w A n c l) {i : Nat} (hi : i < n) : ∃ b off x, A = some ⟨b, off, none⟩ ∧ l[i]? = some x ∧ x.ok ∧ PlcIn w b (off + i * 3) x := by
  obtain ⟨b, off, x, e, _, hx, hok, hc⟩ := h.here hi
  exact ⟨b, off, x, e, hx, hok, ⟨hc 0 _ rfl, hc 1 _ rfl, hc 2 _ rfl⟩⟩
end Go.Proofs.Ytklmoigpalhlmaa
