/-
  slab.Put.
-/
import Derived.Test.YtklmoigpalhlmaaSlE
namespace Go.Proofs.Ytklmoigpalhlmaa
open Go.RowKit
set_option linter.unusedVariables false

theorem putBad_cases {lsn : Int} {l : List Sl} {k : Int} {x : Sl} (h : putBad lsn l k x = true) :
    slGood lsn l = false ∨ (slGood lsn l = true ∧ k < 0) ∨ (slGood lsn l = true ∧ ¬ k < 0 ∧ 32 ≤ k) ∨ (slGood lsn l = true ∧ ¬ k < 0 ∧ ¬ 32 ≤ k ∧ x.u = false ∧ x.d.toList.isEmpty = false) := by
  unfold putBad at h
  cases hg : slGood lsn l with
  | false => exact .inl rfl
  | true =>
    by_cases h1 : k < 0
    · exact .inr (.inl ⟨rfl, h1⟩)
    · by_cases h2 : 32 ≤ k
      · exact .inr (.inr (.inl ⟨rfl, h1, h2⟩))
      · simp [hg, h1, h2] at h
        exact .inr (.inr (.inr ⟨rfl, h1, h2, h.1, by simpa using h.2⟩))
theorem putBad_not {lsn : Int} {l : List Sl} {k : Int} {x : Sl} (h : putBad lsn l k x = false) : slGood lsn l = true ∧ ¬ k < 0 ∧ ¬ 32 ≤ k ∧ (x.u = true ∨ x.d.toList = []) := by
  unfold putBad at h
  simp at h
  obtain ⟨h1, h2, h3, h4⟩ := h
  refine ⟨h1, by omega, by omega, ?_⟩
  cases hu : x.u with
  | true => exact .inl rfl
  | false => exact .inr (h4 hu)
set_option maxRecDepth 100000 in
set_option maxHeartbeats 4000000 in
/-- A put that is refused ahead of all. -/
theorem pput_bad (lsn : Int) (A : Option Addr) (n c : Nat) (l : List Sl) (k : Int) (x : Sl) (w : World) (h : IsSlots w A n c l) (hb : putBad lsn l k x = true) :
    Calls Try.prog 20 #[.agg #[.int .i64 lsn, .slice A n c], .int .i64 k, .agg #[.bool x.u, .string x.d]] w (PageOut (0, [], 1) w) := by
  have CG := Lib.hid (fun w h => pgood_any lsn A n c l w h)
  have hc := putBad_cases hb
  obtain ⟨fs, hu⟩ := pageUnd
  have Hu := Lib.hid hu
  have H := Lib.hid h
  obtain ⟨g, hg⟩ : ∃ g, slGood lsn l = g := ⟨_, rfl⟩
  rw [hg] at CG hc
  obtain ⟨u, d⟩ := x
  simp only at hc
  clear h hu hg hb
  rcases hc with rfl | ⟨rfl, hk⟩ | ⟨rfl, hk, hk2⟩ | ⟨rfl, hk, hk2, rfl, hd⟩ <;>
  · go_enter Try.func20, Try.ntmps20
    go_wp2_with fail
    refine (CG.out _ (((H.out.alloc _).alloc _).alloc _)).mono ?_
    rintro e w1 ⟨rfl, b1⟩
    have Z := Lib.hid ((Has.new2 w _ _ _).below b1)
    have X := (((Has.new1 w _ _).alloc _).below b1)
    have x0 := X.cell 0 _ rfl
    have x1 := X.cell 1 _ rfl
    have B := Lib.hid (bup (bup (bup (bnew w _) (bnew _ _)) (bnew _ _)) b1)
    clear b1 X
    go_wp2_with ((with_reducible refine at_store rfl ?_); refine wpList_put_row rfl _ _ _ rfl rfl (w.heap.size + 1 + 1) _ rfl rfl _ _ Z.out (by kernel_rfl) rfl (by first | kernel_rfl | simp [Value.oneCell']) ?_; intro w8 Z8 B8)
    (try simp only [Exit.inBlock, Exit.then])
    refine bodyPost_ret (v := .tuple #[.agg #[.int .i64 0, .slice none 0 0], .int .i64 1]) ?_ rfl ⟨none, 0, 0, rfl, IsSlots.nil _, ?_⟩
    · refine Eq.trans (results_cell_one (p := 6) (u := 7) ?_ _ _ (w.heap.size + 1 + 1) _ _ _ fs ?_ Z8 Hu.out (by kernel_rfl)) ?_
      all_goals rfl
    · exact B.out.trans (B8.below (by omega) B.out.size)
set_option maxRecDepth 100000 in
set_option maxHeartbeats 4000000 in
/-- A record that is too long. -/
theorem pput_long (lsn : Int) (A : Option Addr) (n c : Nat) (l : List Sl) (k : Int) (x : Sl) (w : World) (h : IsSlots w A n c l) (hb : putBad lsn l k x = false) (hx : x.d.size ≤ 140737488351232) (hl : 200 < x.d.size) :
    Calls Try.prog 20 #[.agg #[.int .i64 lsn, .slice A n c], .int .i64 k, .agg #[.bool x.u, .string x.d]] w (PageOut (0, [], 5) w) := by
  have CG := Lib.hid (fun w h => pgood_any lsn A n c l w h)
  have hc := putBad_not hb
  obtain ⟨fs, hu⟩ := pageUnd
  have Hu := Lib.hid hu
  have H := Lib.hid h
  obtain ⟨g, hg⟩ : ∃ g, slGood lsn l = g := ⟨_, rfl⟩
  rw [hg] at CG hc
  obtain ⟨u, d⟩ := x
  simp only at hc hx hl
  clear h hu hg hb
  obtain ⟨rfl, hk, hk2, hd⟩ := hc
  have hd : u = true := by
    rcases hd with hd | hd
    · exact hd
    · have e : d.data.toList.length = d.size := Array.length_toList
      rw [ByteArray.toList_eq] at hd
      rw [hd] at e; simp at e; omega
  subst hd
  · go_enter Try.func20, Try.ntmps20
    go_wp2_with fail
    refine (CG.out _ (((H.out.alloc _).alloc _).alloc _)).mono ?_
    rintro e w1 ⟨rfl, b1⟩
    have Z := Lib.hid ((Has.new2 w _ _ _).below b1)
    have X := (((Has.new1 w _ _).alloc _).below b1)
    have x0 := X.cell 0 _ rfl
    have x1 := X.cell 1 _ rfl
    have B := Lib.hid (bup (bup (bup (bnew w _) (bnew _ _)) (bnew _ _)) b1)
    clear b1 X
    go_wp2_with ((with_reducible refine at_store rfl ?_); refine wpList_put_row rfl _ _ _ rfl rfl (w.heap.size + 1 + 1) _ rfl rfl _ _ Z.out (by kernel_rfl) rfl (by first | kernel_rfl | simp [Value.oneCell']) ?_; intro w8 Z8 B8)
    (try simp only [Exit.inBlock, Exit.then])
    refine bodyPost_ret (v := .tuple #[.agg #[.int .i64 0, .slice none 0 0], .int .i64 5]) ?_ rfl ⟨none, 0, 0, rfl, IsSlots.nil _, ?_⟩
    · refine Eq.trans (results_cell_one (p := 6) (u := 7) ?_ _ _ (w.heap.size + 1 + 1) _ _ _ fs ?_ Z8 Hu.out (by kernel_rfl)) ?_
      all_goals rfl
    · exact B.out.trans (B8.below (by omega) B.out.size)
theorem pad_made (l : List Sl) (k M : Nat) (hM : max l.length (k + 1) = M) : flat l ++ (flat (List.replicate M Sl.none)).drop (flat l).length = flat (slPad l (k + 1)) := by
  rw [slPad, flat_append]
  congr 1
  rw [flat_len]
  have e : M = l.length + (k + 1 - l.length) := by omega
  rw [e, ← List.replicate_append_replicate, flat_append, List.drop_append_of_le_length (by rw [flat_len]; simp), List.drop_eq_nil_of_le (by rw [flat_len]; simp)]
  congr 2
theorem IsSlots.src {w : World} {A : Option Addr} {n c : Nat} {l : List Sl} (h : IsSlots w A n c l) (hn : 0 < n) : ∃ ad, A = some ad ∧ ∀ j v, (Go.Proofs.Ytklmoigpalhlmaa.flat l)[j]? = some v → w.cell? (ad.add j) = some v := by
  obtain ⟨b, off, rfl, _, _⟩ := h.row hn
  exact ⟨_, rfl, h.flat hn⟩
theorem IsSlots.but {w w' : World} {A : Option Addr} {n c b : Nat} {l : List Sl} (h : IsSlots w A n c l) (hb : But b w w') (hne : ∀ g off, A = some ⟨g, off, none⟩ → g ≠ b) : IsSlots w' A n c l := by
  refine ⟨h.len, h.cap, h.most, h.size, fun hn => ?_⟩
  obtain ⟨g, off, rfl, hlt, hc⟩ := h.row hn
  have hk := hb.block g hlt (hne g off rfl)
  refine ⟨g, off, rfl, Nat.lt_of_lt_of_le hlt hb.size, fun i x hx => ?_⟩
  obtain ⟨h1, h2⟩ := hc i x hx
  exact ⟨(World.cell?_of_block (a := ⟨g, off + i * 2, none⟩) hk).trans h1, (World.cell?_of_block (a := ⟨g, off + i * 2 + 1, none⟩) hk).trans h2⟩
def sliceLen : Value → Nat
  | .slice _ n _ => n
  | _ => 0
theorem Has.set2 {w : World} {g i : Nat} {PD FL : List Value} {t : TypeId} {fr : Nat × Nat} {v1 v2 : Value} (h : Has w g (.cells PD.toArray t fr)) (e : (PD.set i v1).set (i + 1) v2 = FL) :
    Has ((w.setCell ⟨g, i, none⟩ v1).setCell ⟨g, i + 1, none⟩ v2) g (.cells FL.toArray t fr) := by
  have := (h.set i v1).set (i + 1) v2
  rw [← e]
  simpa using this
set_option maxRecDepth 100000 in
set_option maxHeartbeats 8000000 in
/-- A put that may be: it is made, and is looked at. -/
theorem pput_in (lsn : Int) (A : Option Addr) (n c : Nat) (l : List Sl) (k M : Nat) (X : Int) (u : Bool) (d : ByteArray) (w : World) (h : IsSlots w A n c l) (hg : slGood lsn l = true) (hk : k < 32) (hu : u = true ∨ (u = false ∧ d.toList.isEmpty = true)) (hl : d.size ≤ 200)
    (hM : max l.length (k + 1) = M) (hX : X = (M : Int)) (hw : (X = (n : Int) ∧ k + 1 ≤ n) ∨ (X = (k : Int) + 1 ∧ n ≤ k)) (L : List Sl) (hL : (slPad l (k + 1)).set k ⟨u, d⟩ = L) :
    Calls Try.prog 20 #[.agg #[.int .i64 lsn, .slice A n c], .int .i64 k, .agg #[.bool u, .string d]] w (PageOut (if 240 < slSize (slTrim L) then (0, [], 22) else (lsn, slTrim L, 0)) w) := by
  have CG := Lib.hid (fun w h => pgood_any lsn A n c l w h)
  rw [hg] at CG
  obtain ⟨hg1, hg2, hg3, hg4, hg5⟩ := (slGood_iff lsn l).1 hg
  have hlen := h.len
  have hcap := h.cap
  have hmost := h.most
  obtain ⟨fs, hpu⟩ := pageUnd
  have Hu := Lib.hid hpu
  have H := Lib.hid h
  have hLM : L.length = M := by rw [← hL, List.length_set, slPad_len, hM]
  have hM1 : k < M := by omega
  have hM2 : n ≤ M := by omega
  have hM3 : M ≤ 32 := by omega
  have hLs : ∀ y ∈ L, y.d.size ≤ 200 := by rw [← hL]; exact putL_sizes (any_odd_sizes hg3) k hl
  have HP := Lib.hid (pad_made l k M hM)
  have HS : Hid (((flat (slPad l (k + 1))).set (k * 2) (.bool u)).set (k * 2 + 1) (.string d) = flat L) := Lib.hid (by rw [← hL]; exact flat_set _ k ⟨u, d⟩)
  have hpl : (flat (slPad l (k + 1))).length = M * 2 := by rw [flat_len, slPad_len, hM]
  have hpk : k < (slPad l (k + 1)).length := by rw [slPad_len, hM]; exact hM1
  obtain ⟨i0, hi0, hz0, hz1, hz2⟩ := info_parts infoSlot
  have HI := Lib.hid hi0
  have HI2 := Lib.hid hz1
  have hmk := fun w => makeSlots M (by omega) w
  rw [← hX] at hmk
  obtain ⟨F0, hF0⟩ : ∃ F, (flat (List.replicate M Sl.none)).toArray = F := ⟨_, rfl⟩
  rw [hF0] at hmk
  have HE : Hid (flat l ++ F0.toList.drop (flat l).length = flat (slPad l (k + 1))) := Lib.hid (by rw [← hF0]; exact HP.out)
  have HF : (flat l).length ≤ F0.size := by rw [← hF0, List.size_toArray, flat_len, flat_len, List.length_replicate]; omega
  obtain ⟨q, hq⟩ : ∃ q, (slPad l (k + 1))[k]? = some q := ⟨_, List.getElem?_eq_getElem hpk⟩
  have hq2 := flat_get _ k q hq
  obtain ⟨PD, hPD⟩ : ∃ PD, flat (slPad l (k + 1)) = PD := ⟨_, rfl⟩
  rw [hPD] at HE HS hpl hq2
  obtain ⟨FL, hFL⟩ : ∃ FL, flat l = FL := ⟨_, rfl⟩
  have hfl1 : FL.length = n * 2 := by rw [← hFL, flat_len, hlen]
  have hfl2 : ∀ v ∈ FL, v.oneCell' = true := by rw [← hFL]; exact flat_one l
  have HSRC := Lib.hid (fun w (h : IsSlots w A n c l) hn => h.src hn)
  rw [hFL] at HE HF HSRC
  obtain ⟨R, hR⟩ : ∃ R : Int × List Sl × Int, (if 240 < slSize (slTrim L) then (0, [], 22) else (lsn, slTrim L, 0)) = R := ⟨_, rfl⟩
  rw [hR]
  have HR := Lib.hid hR
  have Hlen := Lib.hid hlen
  have HLM := Lib.hid hLM
  have HLs := Lib.hid hLs
  have Hfl1 := Lib.hid hfl1
  have Hfl2 := Lib.hid hfl2
  have HQ := Lib.hid hq2
  have Hpl := Lib.hid hpl
  have HFF := Lib.hid HF
  clear h hpu hg hg1 hg2 hg3 hg4 hg5 hL hM hlen hi0 hz0 hz1 hz2 hF0 hLM HP hR hX hPD hFL hLs hfl1 hfl2 hq hq2 hpl hpk HF
  rcases hw with ⟨rfl, hnk⟩ | ⟨rfl, hnk⟩ <;> rcases hu with rfl | ⟨rfl, hd⟩ <;>
  · go_enter Try.func20, Try.ntmps20
    go_wp2_with fail
    refine (CG.out _ (((H.out.alloc _).alloc _).alloc _)).mono ?_
    rintro e w1 ⟨rfl, b1⟩
    have Z := Lib.hid ((Has.new2 w _ _ _).below b1)
    have P := Lib.hid ((((Has.new w _).alloc _).alloc _).below b1)
    have XX := (((Has.new1 w _ _).alloc _).below b1)
    have x0 := XX.cell 0 _ rfl
    have x1 := XX.cell 1 _ rfl
    have p1 := P.out.cell 1 _ rfl
    have B := Lib.hid (bup (bup (bup (bnew w _) (bnew _ _)) (bnew _ _)) b1)
    have hh : w.heap.size + 1 + 1 < w1.heap.size := Z.out.lt
    clear b1
    replace XX := Lib.hid XX
    go_upto_region 6 with (fail)
    generalize hw2 : World.alloc w1 _ = w2
    have hb2 : Below w1.heap.size w1 w2 := by rw [← hw2]; exact bnew _ _
    have G := Lib.hid (by rw [← hw2]; exact Has.new _ _ : Has w2 w1.heap.size (.cells F0 33))
    replace Z := Lib.hid (Z.out.below hb2)
    replace P := Lib.hid (P.out.below hb2)
    replace XX := Lib.hid (XX.out.below hb2)
    replace B := Lib.hid (bup B.out hb2)
    clear hw2 x0 x1 p1 hb2
    have p1 := P.out.cell 1 _ rfl
    go_upto_region 7 with ((refine wpList_copy_wide rfl (.tmp 45) (.tmp 47) 22 rfl 33 i0 Try.underlying22 HI.out w1.heap.size M M A n c rfl rfl F0 33 G.out FL (by rw [Hfl1.out, HI2.out]) (by omega) (fun hn => HSRC.out _ (H.out.below B.out) hn) HFF.out Hfl2.out ?_); intro w3 G3 B3)
    rw [HE.out] at G3
    have q0 := G3.cell (k * 2) _ (by simpa using HQ.out.1)
    have q1 := G3.cell (k * 2 + 1) _ (by simpa using HQ.out.2)
    have f0 := G3.free (k * 2)
    have f1 := G3.free (k * 2 + 1)
    replace Z := Lib.hid (Z.out.but B3 (by omega))
    replace P := Lib.hid (P.out.but B3 (by omega))
    have XX3 := XX.out.but B3 (by omega)
    replace B := Lib.hid (B.out.trans (B3.below (by omega) B.out.size))
    clear p1 XX B3 G
    have x0 := XX3.cell 0 _ rfl
    have x1 := XX3.cell 1 _ rfl
    replace XX3 := Lib.hid XX3
    replace G3 := Lib.hid G3
    go_upto_region 8 with (fail)
    generalize hw4 : World.setCell _ _ _ = w4
    have G : Hid (Has w4 w1.heap.size (.cells (flat L).toArray 33)) := Lib.hid (by rw [← hw4]; exact Has.set2 G3.out HS.out)
    have Z4 : Hid (Has w4 (w.heap.size + 1 + 1) (.cells #[.int .i64 0, .slice none 0 0] 24)) := Lib.hid (by rw [← hw4]; exact (Z.out.setOther (by omega) _ _).setOther (by omega) _ _)
    have P4 : Hid (Has w4 w.heap.size (.cells #[.int .i64 lsn, .slice A n c] 24)) := Lib.hid (by rw [← hw4]; exact (P.out.setOther (by omega) _ _).setOther (by omega) _ _)
    have B4 : Hid (Below w.heap.size w w4) := Lib.hid (by rw [← hw4]; exact (B.out.setCell (p := ⟨w1.heap.size, k * 2, none⟩) (by show w.heap.size ≤ w1.heap.size; omega) _).setCell (p := ⟨w1.heap.size, k * 2 + 1, none⟩) (by show w.heap.size ≤ w1.heap.size; omega) _)
    clear hw4 G3 q0 q1 f0 f1 x0 x1 XX3 Z P B hmk HSRC HE HS CG HI HI2 Hfl1 Hfl2 HQ Hpl HFF
    go_loop [8] (fun v => ∃ m : Nat, m ≤ M ∧ v = .slice (some ⟨w1.heap.size, 0, none⟩) m M ∧ Hid (slTrim (L.take m) = slTrim L)) (fun v => sliceLen v)
    case atStart => exact ⟨M, by omega, rfl, Lib.hid (by rw [List.take_of_length_le (by rw [HLM.out]; omega)])⟩
    case round =>
      obtain ⟨m, hm, rfl, Ht⟩ := hrel
      have fin : ∀ m, m ≤ M → slTrim (L.take m) = L.take m → slTrim (L.take m) = slTrim L → (L.take m = slTrim L ∧ IsSlots w4 (some ⟨w1.heap.size, 0, none⟩) m M (slTrim L) ∧ slSize (slTrim L) ≤ 4611686018427387904) := by
        intro m hm h1 h2
        have e : L.take m = slTrim L := h1.symm.trans h2
        have hI : IsSlots w4 (some ⟨w1.heap.size, 0, none⟩) m M (L.take m) := by
          refine IsSlots.of_has (rest := []) G.out ?_ (by simp [HLM.out]; omega) hm (by omega) (fun x hx => by have := HLs.out x (List.mem_of_mem_take hx); omega)
          rw [flat_take]
        rw [e] at hI
        exact ⟨e, hI, slots_small hI (by omega)⟩
      have Fin := Lib.hid fin
      clear fin
      have out : (m = 0 ∨ ∃ j y, m = j + 1 ∧ L[j]? = some y ∧ y.u = true) ∨ (∃ j y, m = j + 1 ∧ L[j]? = some y ∧ y.u = false) := by
        rcases Nat.eq_zero_or_pos m with h0 | h0
        · exact .inl (.inl h0)
        · obtain ⟨j, rfl⟩ : ∃ j, m = j + 1 := ⟨m - 1, by omega⟩
          have hj : j < L.length := by rw [HLM.out]; omega
          cases hy : (L[j]).u with
          | true => exact .inl (.inr ⟨j, L[j], rfl, List.getElem?_eq_getElem hj, hy⟩)
          | false => exact .inr ⟨j, L[j], rfl, List.getElem?_eq_getElem hj, hy⟩
      have z0 := P4.out.cell 0 _ rfl
      rcases out with out | ⟨j, y, rfl, hj, hy⟩
      · have ht : slTrim (L.take m) = L.take m := by
          rcases out with rfl | ⟨j, y, rfl, hj, hy⟩
          · rfl
          · exact slTrim_take_used hj hy
        obtain ⟨e1, e2, e3⟩ := Fin.out m hm ht Ht.out
        have CS := Lib.hid (fun v h => size_any (some ⟨w1.heap.size, 0, none⟩) m M (slTrim L) v h e3)
        obtain ⟨S, hS⟩ : ∃ S, slSize (slTrim L) = S := ⟨_, rfl⟩
        obtain ⟨T, hT⟩ : ∃ T, slTrim L = T := ⟨_, rfl⟩
        rw [hS] at CS e3
        have HR2 := HR.out
        rw [hS, hT] at HR2
        rw [hT] at CS e2
        have E2 := Lib.hid e2
        have HRR := Lib.hid HR2
        have hS2 : S ≤ 4611686018427387904 := e3
        clear e1 e2 e3 hS hT ht Ht Fin HR2
        rcases out with rfl | ⟨j, y, rfl, hj, hy⟩
        · go_wp2_with fail
          refine (CS.out _ E2.out).mono ?_
          rintro e w5 ⟨rfl, b5⟩
          have Z5 := Lib.hid (Z4.out.below b5)
          have P5 := (P4.out.below b5).cell 0 _ rfl
          have B5 := Lib.hid (bup B4.out b5)
          have I5 := Lib.hid (E2.out.below b5)
          by_cases hS : 240 < S
          · have hS' : (240 : Int) < (S : Int) := by omega
            have HR3 : Hid (R = (0, [], 22)) := Lib.hid (by rw [← HRR.out, if_pos hS])
            clear b5 z0 hS
            go_wp2_with ((with_reducible refine at_store rfl ?_); refine wpList_put_row rfl _ _ _ rfl rfl (w.heap.size + 1 + 1) _ rfl rfl _ _ Z5.out (by kernel_rfl) rfl (by first | kernel_rfl | simp [Value.oneCell']) ?_; intro w8 Z8 B8)
            (try simp only [Exit.inBlock, Exit.then])
            refine bodyPost_ret (v := .tuple #[.agg #[.int .i64 0, .slice none 0 0], .int .i64 22]) ?_ rfl ⟨none, 0, 0, by rw [HR3.out], by rw [HR3.out]; exact IsSlots.nil _, ?_⟩
            · refine Eq.trans (results_cell_one (p := 6) (u := 7) ?_ _ _ (w.heap.size + 1 + 1) _ _ _ fs ?_ Z8 Hu.out (by kernel_rfl)) ?_
              all_goals rfl
            · exact B5.out.trans (B8.below (by omega) B5.out.size)
          · have hS' : (S : Int) ≤ 240 := by omega
            have HR3 : Hid (R = (lsn, T, 0)) := Lib.hid (by rw [← HRR.out, if_neg hS])
            have hz5 : w.heap.size + 1 + 1 ≠ w1.heap.size := by omega
            clear b5 z0 hS
            go_wp2_with ((with_reducible refine at_store rfl ?_); refine wpList_put_row rfl _ _ _ rfl rfl (w.heap.size + 1 + 1) _ rfl rfl _ _ Z5.out (by kernel_rfl) rfl (by first | kernel_rfl | simp [Value.oneCell']) ?_; intro w8 Z8 B8)
            (try simp only [Exit.inBlock, Exit.then])
            refine bodyPost_ret (v := .tuple #[.agg #[.int .i64 lsn, .slice (some ⟨w1.heap.size, 0, none⟩) 0 M], .int .i64 0]) ?_ rfl ⟨some ⟨w1.heap.size, 0, none⟩, 0, M, by rw [HR3.out], by rw [HR3.out]; exact IsSlots.but I5.out B8 (fun b off e => by cases e; omega), ?_⟩
            · refine Eq.trans (results_cell_one (p := 6) (u := 7) ?_ _ _ (w.heap.size + 1 + 1) _ _ _ fs ?_ Z8 Hu.out (by kernel_rfl)) ?_
              all_goals rfl
            · exact B5.out.trans (B8.below (by omega) B5.out.size)
        · have hc := flat_get L j y hj
          have c0 : w4.cell? ⟨w1.heap.size, j * 2, none⟩ = some (.bool true) := G.out.cell _ _ (by rw [← hy]; simpa using hc.1)
          clear hc hj hy
          go_wp2_with fail
          refine (CS.out _ E2.out).mono ?_
          rintro e w5 ⟨rfl, b5⟩
          have Z5 := Lib.hid (Z4.out.below b5)
          have P5 := (P4.out.below b5).cell 0 _ rfl
          have B5 := Lib.hid (bup B4.out b5)
          have I5 := Lib.hid (E2.out.below b5)
          by_cases hS : 240 < S
          · have hS' : (240 : Int) < (S : Int) := by omega
            have HR3 : Hid (R = (0, [], 22)) := Lib.hid (by rw [← HRR.out, if_pos hS])
            clear b5 z0 hS
            go_wp2_with ((with_reducible refine at_store rfl ?_); refine wpList_put_row rfl _ _ _ rfl rfl (w.heap.size + 1 + 1) _ rfl rfl _ _ Z5.out (by kernel_rfl) rfl (by first | kernel_rfl | simp [Value.oneCell']) ?_; intro w8 Z8 B8)
            (try simp only [Exit.inBlock, Exit.then])
            refine bodyPost_ret (v := .tuple #[.agg #[.int .i64 0, .slice none 0 0], .int .i64 22]) ?_ rfl ⟨none, 0, 0, by rw [HR3.out], by rw [HR3.out]; exact IsSlots.nil _, ?_⟩
            · refine Eq.trans (results_cell_one (p := 6) (u := 7) ?_ _ _ (w.heap.size + 1 + 1) _ _ _ fs ?_ Z8 Hu.out (by kernel_rfl)) ?_
              all_goals rfl
            · exact B5.out.trans (B8.below (by omega) B5.out.size)
          · have hS' : (S : Int) ≤ 240 := by omega
            have HR3 : Hid (R = (lsn, T, 0)) := Lib.hid (by rw [← HRR.out, if_neg hS])
            have hz5 : w.heap.size + 1 + 1 ≠ w1.heap.size := by omega
            clear b5 z0 hS
            go_wp2_with ((with_reducible refine at_store rfl ?_); refine wpList_put_row rfl _ _ _ rfl rfl (w.heap.size + 1 + 1) _ rfl rfl _ _ Z5.out (by kernel_rfl) rfl (by first | kernel_rfl | simp [Value.oneCell']) ?_; intro w8 Z8 B8)
            (try simp only [Exit.inBlock, Exit.then])
            refine bodyPost_ret (v := .tuple #[.agg #[.int .i64 lsn, .slice (some ⟨w1.heap.size, 0, none⟩) (j + 1) M], .int .i64 0]) ?_ rfl ⟨some ⟨w1.heap.size, 0, none⟩, (j + 1), M, by rw [HR3.out], by rw [HR3.out]; exact IsSlots.but I5.out B8 (fun b off e => by cases e; omega), ?_⟩
            · refine Eq.trans (results_cell_one (p := 6) (u := 7) ?_ _ _ (w.heap.size + 1 + 1) _ _ _ fs ?_ Z8 Hu.out (by kernel_rfl)) ?_
              all_goals rfl
            · exact B5.out.trans (B8.below (by omega) B5.out.size)
      · have HT := Lib.hid ((slTrim_take_free hj hy).symm.trans Ht.out)
        have hc := flat_get L j y hj
        have c0 : w4.cell? ⟨w1.heap.size, j * 2, none⟩ = some (.bool false) := G.out.cell _ _ (by rw [← hy]; simpa using hc.1)
        clear hc hj hy Ht Fin
        go_wp2_with fail
        go_round
        case rel => exact ⟨j, by omega, rfl, HT⟩
        case measure => simp [sliceLen]
theorem pput_any (lsn : Int) (A : Option Addr) (n c : Nat) (l : List Sl) (k : Int) (x : Sl) (w : World) (h : IsSlots w A n c l) (hx : x.d.size ≤ 140737488351232) :
    Calls Try.prog 20 #[.agg #[.int .i64 lsn, .slice A n c], .int .i64 k, .agg #[.bool x.u, .string x.d]] w (PageOut (putRes lsn l k x) w) := by
  unfold putRes
  cases hb : putBad lsn l k x with
  | true => rw [if_pos rfl]; exact pput_bad lsn A n c l k x w h hb
  | false =>
    rw [if_neg (by simp)]
    by_cases hl : 200 < x.d.size
    · rw [if_pos hl]; exact pput_long lsn A n c l k x w h hb hx hl
    · rw [if_neg hl]
      obtain ⟨h1, h2, h3, h4⟩ := putBad_not hb
      obtain ⟨j, rfl⟩ : ∃ j : Nat, k = j := ⟨k.toNat, by omega⟩
      have hlen := h.len
      obtain ⟨u, d⟩ := x
      simp only at hl
      refine pput_in lsn A n c l j _ (max l.length (j + 1) : Nat) u d w h h1 (by omega) ?_ (by omega) rfl rfl ?_ _ rfl
      · cases u with
        | true => exact .inl rfl
        | false => exact .inr ⟨rfl, by rcases h4 with h | h <;> simp_all⟩
      · by_cases hn : j + 1 ≤ n
        · exact .inl ⟨by omega, hn⟩
        · exact .inr ⟨by omega, by omega⟩
end Go.Proofs.Ytklmoigpalhlmaa
