/-
  The reference's Put.
-/
import Derived.Test.YtpgeiopknjfdmaaSlF
import Derived.Test.YtpgeiopknjfdmaaGrow
import Derived.Outline
namespace Go.Proofs.Ytpgeiopknjfdmaa
open Go.RowKit
set_option linter.unusedVariables false
set_option linter.unusedSimpArgs false

set_option maxRecDepth 100000 in
set_option maxHeartbeats 4000000 in
/-- A put that is refused ahead of all. -/
theorem rput_bad (lsn : Int) (A : Option Addr) (n c : Nat) (l : List Sl) (k : Int) (x : Sl) (w : World) (h : IsSlots w A n c l) (hb : putBad lsn l k x = true) :
    Calls Try.prog 28 #[.agg #[.int .i64 lsn, .slice A n c], .int .i64 k, .agg #[.bool x.u, .string x.d]] w (PageOut (0, [], 1) w) := by
  have CG := Lib.hid (fun w h => rgood_any lsn A n c l w h)
  have hc := putBad_cases hb
  obtain ⟨fs, hu⟩ := pageUnd
  have Hu := Lib.hid hu
  have H := Lib.hid h
  obtain ⟨g, hg⟩ : ∃ g, slGood lsn l = g := ⟨_, rfl⟩
  rw [hg] at CG hc
  obtain ⟨u, d⟩ := x
  simp only at hc
  clear h hu hg hb
  rcases hc with rfl | ⟨rfl, hk⟩ | ⟨rfl, hk, hk2⟩ | ⟨rfl, hk, hk2, rfl, hd⟩ <;>
  · go_enter Try.func28, Try.ntmps28
    go_wp2_with fail
    refine (CG.out _ (((H.out.alloc _).alloc _).alloc _)).mono ?_
    rintro e w1 ⟨rfl, b1⟩
    have Z := Lib.hid ((Has.new2 w _ _ _).below b1)
    have X := (((Has.new1 w _ _).alloc _).below b1)
    have x0 := X.cell 0 _ rfl
    have x1 := X.cell 1 _ rfl
    have B := Lib.hid (bup (bup (bup (bnew w _) (bnew _ _)) (bnew _ _)) b1)
    clear b1 X
    go_wp2_with ((with_reducible refine at_store rfl ?_); refine wpList_put_row rfl _ _ _ rfl rfl (w.heap.size + 1 + 1) _ rfl rfl _ _ Z.out (by kernel_rfl) rfl (by first | kernel_rfl | simp [Value.oneCell']) ?_; intro w8 Z8 B8)
    (try simp only [Exit.inBlock, Exit.then])
    refine bodyPost_ret (v := .tuple #[.agg #[.int .i64 0, .slice none 0 0], .int .i64 1]) ?_ rfl ⟨none, 0, 0, rfl, IsSlots.nil _, ?_⟩
    · refine Eq.trans (results_cell_one (p := 6) (u := 7) ?_ _ _ (w.heap.size + 1 + 1) _ _ _ fs ?_ Z8 Hu.out (by kernel_rfl)) ?_
      all_goals rfl
    · exact B.out.trans (B8.below (by omega) B.out.size)
set_option maxRecDepth 100000 in
set_option maxHeartbeats 4000000 in
/-- A record that is too long. -/
theorem rput_long (lsn : Int) (A : Option Addr) (n c : Nat) (l : List Sl) (k : Int) (x : Sl) (w : World) (h : IsSlots w A n c l) (hb : putBad lsn l k x = false) (hx : x.d.size ≤ 140737488351232) (hl : 200 < x.d.size) :
    Calls Try.prog 28 #[.agg #[.int .i64 lsn, .slice A n c], .int .i64 k, .agg #[.bool x.u, .string x.d]] w (PageOut (0, [], 5) w) := by
  have CG := Lib.hid (fun w h => rgood_any lsn A n c l w h)
  have hc := putBad_not hb
  obtain ⟨fs, hu⟩ := pageUnd
  have Hu := Lib.hid hu
  have H := Lib.hid h
  obtain ⟨g, hg⟩ : ∃ g, slGood lsn l = g := ⟨_, rfl⟩
  rw [hg] at CG hc
  obtain ⟨u, d⟩ := x
  simp only at hc hx hl
  clear h hu hg hb
  obtain ⟨rfl, hk, hk2, hd⟩ := hc
  have hd : u = true := by
    rcases hd with hd | hd
    · exact hd
    · have e : d.data.toList.length = d.size := Array.length_toList
      rw [ByteArray.toList_eq] at hd
      rw [hd] at e; simp at e; omega
  subst hd
  · go_enter Try.func28, Try.ntmps28
    go_wp2_with fail
    refine (CG.out _ (((H.out.alloc _).alloc _).alloc _)).mono ?_
    rintro e w1 ⟨rfl, b1⟩
    have Z := Lib.hid ((Has.new2 w _ _ _).below b1)
    have X := (((Has.new1 w _ _).alloc _).below b1)
    have x0 := X.cell 0 _ rfl
    have x1 := X.cell 1 _ rfl
    have B := Lib.hid (bup (bup (bup (bnew w _) (bnew _ _)) (bnew _ _)) b1)
    clear b1 X
    go_wp2_with ((with_reducible refine at_store rfl ?_); refine wpList_put_row rfl _ _ _ rfl rfl (w.heap.size + 1 + 1) _ rfl rfl _ _ Z.out (by kernel_rfl) rfl (by first | kernel_rfl | simp [Value.oneCell']) ?_; intro w8 Z8 B8)
    (try simp only [Exit.inBlock, Exit.then])
    refine bodyPost_ret (v := .tuple #[.agg #[.int .i64 0, .slice none 0 0], .int .i64 5]) ?_ rfl ⟨none, 0, 0, rfl, IsSlots.nil _, ?_⟩
    · refine Eq.trans (results_cell_one (p := 6) (u := 7) ?_ _ _ (w.heap.size + 1 + 1) _ _ _ fs ?_ Z8 Hu.out (by kernel_rfl)) ?_
      all_goals rfl
    · exact B.out.trans (B8.below (by omega) B.out.size)

theorem slotElem : Elem Try.prog 22 28 2 24 (.agg #[.bool false, .string ⟨#[]⟩]) := ⟨Try.underlying22, infoSlot, rfl, by omega⟩
/-- The slice value v is the call's own row of these slots. -/
def RowS (base : Nat) (w : World) (v : Value) (q : List Sl) : Prop := w.ownsRow base 28 2 v q.length (flat q)
theorem RowS.empty (base : Nat) (w : World) (hb : base ≤ w.heap.size) : RowS base (w.alloc (.cells #[] 28)) (.slice (some ⟨w.heap.size, 0, none⟩) 0 0) [] :=
  World.ownsRow_lit w #[] 0 hb (by unfold maxLen; omega) rfl
theorem RowS.form {base : Nat} {w : World} {v : Value} {q : List Sl} (h : RowS base w v q) : ∃ A cap, v = .slice A q.length cap ∧ q.length ≤ cap ∧ cap ≤ 9223372036854775807 := ownsRow_form h
theorem IsSlots.cells {w : World} {A : Option Addr} {n c : Nat} {l : List Sl} (h : IsSlots w A n c l) : (A = none ∧ n = 0) ∨ ∃ ad, A = some ad ∧ ∀ j u, (Go.Proofs.Ytpgeiopknjfdmaa.flat l)[j]? = some u → w.cell? (ad.add j) = some u := by
  by_cases hn : 0 < n
  · exact .inr (h.src hn)
  · have h0 : n = 0 := by omega
    subst h0
    have hl : l = [] := List.eq_nil_of_length_eq_zero h.len
    subst hl
    cases A with
    | none => exact .inl ⟨rfl, rfl⟩
    | some ad => exact .inr ⟨ad, rfl, by intro j u hu; simp [Go.Proofs.Ytpgeiopknjfdmaa.flat] at hu⟩
theorem Has.low {w w' : World} {b B : Nat} {o : Obj} (h : Has w b o) (hb : Below B w w') (hB : b < B) : Has w' b o := by
  unfold Has at *
  rw [hb.block b hB]; exact h
theorem take_at {cur : Array Value} {q : List Sl} {M k : Nat} {y : Sl} (h : cur.toList.take (M * 2) = flat q) (hk : k < M) (hy : q[k]? = some y) : cur[k * 2]? = some (.bool y.u) ∧ cur[k * 2 + 1]? = some (.string y.d) := by
  have hf := flat_get q k y hy
  rw [← h, List.getElem?_take_of_lt (by omega), List.getElem?_take_of_lt (by omega)] at hf
  simpa using hf
theorem take_set2 {cur : Array Value} {q : List Sl} {M k : Nat} {x : Sl} (h : cur.toList.take (M * 2) = flat q) : ((cur.setIfInBounds (k * 2) (.bool x.u)).setIfInBounds (k * 2 + 1) (.string x.d)).toList.take (M * 2) = flat (q.set k x) := by
  rw [Array.toList_setIfInBounds, Array.toList_setIfInBounds, List.take_set, List.take_set, h, flat_set]
set_option maxRecDepth 100000 in
set_option maxHeartbeats 16000000 in
theorem rput_in (lsn : Int) (A : Option Addr) (n c : Nat) (l : List Sl) (k M : Nat) (u : Bool) (d : ByteArray) (w : World) (h : IsSlots w A n c l) (hg : slGood lsn l = true) (hk : k < 32) (hu : u = true ∨ (u = false ∧ d.toList.isEmpty = true)) (hl : d.size ≤ 200)
    (hM : max l.length (k + 1) = M) (L : List Sl) (hL : (slPad l (k + 1)).set k ⟨u, d⟩ = L) :
    Calls Try.prog 28 #[.agg #[.int .i64 lsn, .slice A n c], .int .i64 k, .agg #[.bool u, .string d]] w (PageOut (if 240 < slSize (slTrim L) then (0, [], 22) else (lsn, slTrim L, 0)) w) := by
  have CG := Lib.hid (fun w h => rgood_any lsn A n c l w h)
  rw [hg] at CG
  obtain ⟨hg1, hg2, hg3, hg4, hg5⟩ := (slGood_iff lsn l).1 hg
  have hlen := h.len
  have hcap := h.cap
  have hmost := h.most
  obtain ⟨fs, hpu⟩ := pageUnd
  have Hu := Lib.hid hpu
  have H := Lib.hid h
  have hLM : L.length = M := by rw [← hL, List.length_set, slPad_len, hM]
  have hM1 : k < M := by omega
  have hM2 : n ≤ M := by omega
  have hM3 : M ≤ 32 := by omega
  have hLs : ∀ y ∈ L, y.d.size ≤ 200 := by rw [← hL]; exact putL_sizes (any_odd_sizes hg3) k hl
  have HF1 : Hid ((flat l).length = n * 2) := Lib.hid (by rw [flat_len, hlen])
  have Hlen := Lib.hid hlen
  have HLM := Lib.hid hLM
  have HLs := Lib.hid hLs
  have HMe := Lib.hid hM
  have HL := Lib.hid hL
  clear h hpu hg hg1 hg2 hg3 hg4 hg5 hL hM hlen hLM hLs
  obtain ⟨R, hR⟩ : ∃ R : Int × List Sl × Int, (if 240 < slSize (slTrim L) then (0, [], 22) else (lsn, slTrim L, 0)) = R := ⟨_, rfl⟩
  rw [hR]
  have HR := Lib.hid hR
  clear hR
  rcases hu with rfl | ⟨rfl, hd⟩ <;>
  · go_enter Try.func28, Try.ntmps28
    go_wp2_with fail
    refine (CG.out _ (((H.out.alloc _).alloc _).alloc _)).mono ?_
    rintro e w1 ⟨rfl, b1⟩
    have Z := Lib.hid ((Has.new2 w _ _ _).below b1)
    have P := Lib.hid ((((Has.new w _).alloc _).alloc _).below b1)
    have XX := (((Has.new1 w _ _).alloc _).below b1)
    have x0 := XX.cell 0 _ rfl
    have x1 := XX.cell 1 _ rfl
    have p1 := P.out.cell 1 _ rfl
    have B := Lib.hid (bup (bup (bup (bnew w _) (bnew _ _)) (bnew _ _)) b1)
    have hh : w.heap.size + 1 + 1 < w1.heap.size := Z.out.lt
    have hh0 : w.heap.size < w1.heap.size := by omega
    have hh1 : w.heap.size + 1 < w1.heap.size := by omega
    have H1 := Lib.hid ((((H.out.alloc _).alloc _).alloc _).below b1)
    clear b1
    replace XX := Lib.hid XX
    go_upto_region 6 with (at_builtin; refine grow_old slotElem rfl (.tmp 37) (.tmp 39) rfl w1.heap.size _ _ 0 (flat []) rfl (RowS.empty w1.heap.size w1 (Nat.le_refl _)) A n c (flat l) rfl HF1.out (H1.out.alloc _).cells (flat_one l) (by omega) (by omega) (by simp) ?_; intro v2 w2 R2 g2 b2)
    rw [Nat.zero_add] at R2
    have hb2 : Below w1.heap.size w1 w2 := (bnew w1 _).trans b2
    replace Z := Lib.hid (Z.out.below hb2)
    replace P := Lib.hid (P.out.below hb2)
    replace XX := Lib.hid (XX.out.below hb2)
    replace B := Lib.hid (bup B.out hb2)
    have R3 : Hid (RowS w1.heap.size w2 v2 (l ++ List.replicate 0 Sl.none)) := Lib.hid (by
      show World.ownsRow _ _ _ _ _ _ _
      rw [List.replicate_zero, List.append_nil, Hlen.out]; exact R2)
    have hz2 := hb2.size
    have B20 := Lib.hid (Below.refl w1.heap.size w2)
    clear g2 b2 R2 x0 x1 p1 hb2 H1
    go_wp2_with fail
    go_loopw [8] (fun v wr => ∃ m : Nat, n + m ≤ M ∧ Hid (RowS w1.heap.size wr v (l ++ List.replicate m Sl.none)) ∧ Hid (Below w1.heap.size w2 wr)) (fun v _ => M - sliceLen v)
    case atStart => exact ⟨0, by omega, R3, B20⟩
    case round =>
      obtain ⟨m, hm, RR, BR⟩ := hrel
      obtain ⟨A', cap, rfl, hc1, hc2⟩ := RR.out.form
      have hlq : (l ++ List.replicate m Sl.none).length = n + m := by simp [Hlen.out]
      rw [hlq] at hc1 RR ⊢
      clear hlq
      have ZR := Lib.hid (Z.out.low BR.out hh)
      have PR := Lib.hid (P.out.low BR.out hh0)
      have XR := Lib.hid (XX.out.low BR.out hh1)
      by_cases hlt : n + m ≤ k
      · clear R3 B20
        have HS : Hid (flat (l ++ List.replicate m Sl.none) ++ [.bool false, .string ⟨#[]⟩] = flat (l ++ List.replicate (m + 1) Sl.none)) := Lib.hid (by
          rw [List.replicate_succ', ← List.append_assoc, flat_append (l ++ List.replicate m Sl.none) [Sl.none]]; rfl)
        have HL6 : Hid ((l ++ List.replicate m Sl.none).length = n + m) := Lib.hid (by simp [Hlen.out])
        go_wp2_with (at_builtin; refine grow_new slotElem rfl (.tmp 45) (.tmp 47) rfl w1.heap.size _ _ (n + m) (flat (l ++ List.replicate m Sl.none)) rfl (by have := RR.out; unfold RowS at this; rw [HL6.out] at this; exact this) 1 #[.bool false, .string ⟨#[]⟩] rfl rfl (by simp [Value.oneCell']) (by omega) (by omega) (by have := BR.out.size; omega) ?_; intro v6 w6 R6 g6 b6)
        go_roundw
        case rel =>
          refine ⟨m + 1, by omega, Lib.hid ?_, Lib.hid (BR.out.trans b6)⟩
          have hl7 : (l ++ List.replicate (m + 1) Sl.none).length = n + m + 1 := by simp [Hlen.out]; omega
          unfold RowS
          rw [hl7, ← HS.out]; exact R6
        case measure =>
          obtain ⟨A7, c7, rfl, _, _⟩ := ownsRow_form R6
          simp only [sliceLen]; omega
      · have hnm : n + m = M := by have := HMe.out; have := Hlen.out; omega
        have hpad : l ++ List.replicate m Sl.none = slPad l (k + 1) := by
          unfold slPad
          congr 2
          have := HMe.out; have := Hlen.out; omega
        have hRR := RR.out
        unfold RowS at hRR
        rw [hnm] at hRR hc1 ⊢
        rw [hpad, slPad_len, HMe.out] at hRR
        obtain ⟨g, cap2, cur, hv, hg1, hg2, G, hc3, hc4, hcs, htk⟩ := ownsRow_at hRR (by omega)
        obtain ⟨y, hy⟩ : ∃ y, (slPad l (k + 1))[k]? = some y := ⟨_, List.getElem?_eq_getElem (by rw [slPad_len, HMe.out]; exact hM1)⟩
        obtain ⟨q0, q1⟩ := take_at htk hM1 hy
        have HT := Lib.hid (fun u => take_set2 (k := k) (x := ⟨u, d⟩) htk)
        obtain ⟨rfl, rfl⟩ : A' = some ⟨g, 0, none⟩ ∧ cap = cap2 := by cases hv; exact ⟨rfl, rfl⟩
        have c0 := G.cell (k * 2) _ q0
        have c1 := G.cell (k * 2 + 1) _ q1
        have f0 := G.free (k * 2)
        have f1 := G.free (k * 2 + 1)
        have x0 := XR.out.cell 0 _ rfl
        have x1 := XR.out.cell 1 _ rfl
        have HG := Lib.hid G
        have B6 := Lib.hid (B.out.trans (BR.out.mono (by omega)))
        clear RR hRR hpad hy q0 q1 htk hnm hlt hv R3 B20 G hm
        go_upto_region 9 with (fail)
        generalize hw4 : World.setCell _ _ _ = w4
        obtain ⟨cur2, hcur2⟩ : ∃ cur2, Has w4 g (.cells cur2 28) ∧ cur2.toList.take (M * 2) = flat L := by
          refine ⟨_, ?_, (HT.out _).trans (by rw [HL.out])⟩
          rw [← hw4]; exact (HG.out.set _ _).set _ _
        have G := Lib.hid hcur2
        have hgz : g ≠ w.heap.size + 1 + 1 := by omega
        have hgp : g ≠ w.heap.size := by omega
        have Z4 : Hid (Has w4 (w.heap.size + 1 + 1) (.cells #[.int .i64 0, .slice none 0 0] 24)) := Lib.hid (by rw [← hw4]; exact (ZR.out.setOther hgz.symm _ _).setOther hgz.symm _ _)
        have P4 : Hid (Has w4 w.heap.size (.cells #[.int .i64 lsn, .slice A n c] 24)) := Lib.hid (by rw [← hw4]; exact (PR.out.setOther hgp.symm _ _).setOther hgp.symm _ _)
        have B4 : Hid (Below w.heap.size w w4) := Lib.hid (by rw [← hw4]; exact (B6.out.setCell (p := ⟨g, k * 2, none⟩) (by show w.heap.size ≤ g; omega) _).setCell (p := ⟨g, k * 2 + 1, none⟩) (by show w.heap.size ≤ g; omega) _)
        clear hw4 hcur2 HG HT HL ZR PR XR B6 BR c0 c1 f0 f1 x0 x1 Z P XX B HF1 CG
        have hz4 : w.heap.size + 1 + 1 < w4.heap.size := Z4.out.lt
        go_loop [8] (fun v => ∃ m : Nat, m ≤ M ∧ v = .slice (some ⟨g, 0, none⟩) m cap ∧ Hid (slTrim (L.take m) = slTrim L)) (fun v => sliceLen v)
        case atStart => exact ⟨M, by omega, rfl, Lib.hid (by rw [List.take_of_length_le (by rw [HLM.out]; omega)])⟩
        case round =>
          obtain ⟨m, hm, rfl, Ht⟩ := hrel
          have fin : slTrim (L.take m) = L.take m → L.take m = slTrim L ∧ IsSlots w4 (some ⟨g, 0, none⟩) m cap (slTrim L) ∧ rfSize (slTrim L) = slSize (slTrim L) := by
            intro h1
            have e : L.take m = slTrim L := h1.symm.trans Ht.out
            have hI : IsSlots w4 (some ⟨g, 0, none⟩) m cap (L.take m) := by
              refine IsSlots.of_has (rest := []) G.out.1 ?_ (by simp [HLM.out]; omega) (by omega) (by omega) (fun x hx => by have := HLs.out x (List.mem_of_mem_take hx); omega)
              rw [flat_take, ← G.out.2, List.take_take, Nat.min_eq_left (by omega)]
            rw [e] at hI
            refine ⟨e, hI, rfSize_eq _ (fun x hx => HLs.out x (slTrim_sub L x hx)) ?_⟩
            have := slTrim_le L
            have := HLM.out
            omega
          have Fin := Lib.hid fin
          clear fin
          have out : (m = 0 ∨ ∃ j y, m = j + 1 ∧ L[j]? = some y ∧ y.u = true) ∨ (∃ j y, m = j + 1 ∧ L[j]? = some y ∧ y.u = false) := by
            rcases Nat.eq_zero_or_pos m with h0 | h0
            · exact .inl (.inl h0)
            · obtain ⟨j, rfl⟩ : ∃ j, m = j + 1 := ⟨m - 1, by omega⟩
              have hj : j < L.length := by rw [HLM.out]; omega
              cases hy : (L[j]).u with
              | true => exact .inl (.inr ⟨j, L[j], rfl, List.getElem?_eq_getElem hj, hy⟩)
              | false => exact .inr ⟨j, L[j], rfl, List.getElem?_eq_getElem hj, hy⟩
          have z0 := P4.out.cell 0 _ rfl
          rcases out with out | ⟨j, y, rfl, hj, hy⟩
          · have ht : slTrim (L.take m) = L.take m := by
              rcases out with rfl | ⟨j, y, rfl, hj, hy⟩
              · rfl
              · exact slTrim_take_used hj hy
            obtain ⟨e1, e2, e3⟩ := Fin.out ht
            have CS := fun v h => refSize_any lsn (some ⟨g, 0, none⟩) m cap (slTrim L) v h
            rw [e3] at CS
            obtain ⟨S, hS⟩ : ∃ S, slSize (slTrim L) = S := ⟨_, rfl⟩
            obtain ⟨T, hT⟩ : ∃ T, slTrim L = T := ⟨_, rfl⟩
            have HR2 := HR.out
            rw [hS, hT] at HR2
            rw [hS, hT] at CS
            rw [hT] at e2
            replace CS := Lib.hid CS
            have E2 := Lib.hid e2
            have HRR := Lib.hid HR2
            have hc0 : m = 0 ∨ ∃ j, m = j + 1 ∧ w4.cell? ⟨g, j * 2, none⟩ = some (.bool true) := by
              rcases out with rfl | ⟨j, y, rfl, hj, hy⟩
              · exact .inl rfl
              · have := (take_at G.out.2 (by omega) hj).1
                rw [hy] at this
                exact .inr ⟨j, rfl, G.out.1.cell _ _ this⟩
            clear e1 e2 e3 hS hT ht Ht Fin HR2 out
            rcases hc0 with rfl | ⟨j, rfl, c0⟩ <;>
            · go_upto_region 12 with (fail)
              generalize hw5 : World.alloc w4 _ = w5
              have Q5 : Hid (Has w5 w4.heap.size (.cells #[.int .i64 lsn, .slice (some ⟨g, 0, none⟩) _ cap] 24)) := Lib.hid (by rw [← hw5]; exact Has.new _ _)
              have Z5 := Lib.hid (by rw [← hw5]; exact Z4.out.alloc _ : Has w5 (w.heap.size + 1 + 1) (.cells #[.int .i64 0, .slice none 0 0] 24))
              have B5 := Lib.hid (by rw [← hw5]; exact bup B4.out (bnew _ _) : Below w.heap.size w w5)
              have E5 := Lib.hid (by rw [← hw5]; exact E2.out.alloc _ : IsSlots w5 (some ⟨g, 0, none⟩) _ cap T)
              have q0 := Q5.out.cell 0 _ rfl
              have q1 := Q5.out.cell 1 _ rfl
              clear hw5 z0
              go_wp2_with fail
              refine (CS.out _ E5.out).mono ?_
              rintro e w6 ⟨rfl, b6⟩
              have Z6 := Lib.hid (Z5.out.below b6)
              have q0 := (Q5.out.below b6).cell 0 _ rfl
              have q1 := (Q5.out.below b6).cell 1 _ rfl
              have B6 := Lib.hid (bup B5.out b6)
              have E6 := Lib.hid (E5.out.below b6)
              have hz6 : w4.heap.size < w6.heap.size := by have := Q5.out.lt; have := b6.size; omega
              by_cases hS : 240 < S
              · have hS' : (240 : Int) < (S : Int) := by omega
                have HR3 : Hid (R = (0, [], 22)) := Lib.hid (by rw [← HRR.out, if_pos hS])
                clear b6 hS
                go_wp2_with ((with_reducible refine at_store rfl ?_); refine wpList_put_row rfl _ _ _ rfl rfl (w.heap.size + 1 + 1) _ rfl rfl _ _ Z6.out (by kernel_rfl) rfl (by first | kernel_rfl | simp [Value.oneCell']) ?_; intro w8 Z8 B8)
                (try simp only [Exit.inBlock, Exit.then])
                refine bodyPost_ret (v := .tuple #[.agg #[.int .i64 0, .slice none 0 0], .int .i64 22]) ?_ rfl ⟨none, 0, 0, by rw [HR3.out], by rw [HR3.out]; exact IsSlots.nil _, ?_⟩
                · refine Eq.trans (results_cell_one (p := 6) (u := 7) ?_ _ _ (w.heap.size + 1 + 1) _ _ _ fs ?_ Z8 Hu.out (by kernel_rfl)) ?_
                  all_goals rfl
                · exact B6.out.trans (B8.below (by omega) B6.out.size)
              · have hS' : (S : Int) ≤ 240 := by omega
                have HR3 : Hid (R = (lsn, T, 0)) := Lib.hid (by rw [← HRR.out, if_neg hS])
                clear b6 hS
                go_wp2_with ((with_reducible refine at_store rfl ?_); refine wpList_put_row rfl _ _ _ rfl rfl (w.heap.size + 1 + 1) _ rfl rfl _ _ Z6.out (by kernel_rfl) rfl (by first | kernel_rfl | simp [Value.oneCell']) ?_; intro w8 Z8 B8)
                (try simp only [Exit.inBlock, Exit.then])
                first
                | (refine bodyPost_ret (v := .tuple #[.agg #[.int .i64 lsn, .slice (some ⟨g, 0, none⟩) 0 cap], .int .i64 0]) ?_ rfl ⟨some ⟨g, 0, none⟩, 0, cap, by rw [HR3.out], by rw [HR3.out]; exact IsSlots.but E6.out B8 (fun b off e => by cases e; omega), ?_⟩
                   · refine Eq.trans (results_cell_one (p := 6) (u := 7) ?_ _ _ (w.heap.size + 1 + 1) _ _ _ fs ?_ Z8 Hu.out (by kernel_rfl)) ?_
                     all_goals rfl
                   · exact B6.out.trans (B8.below (by omega) B6.out.size))
                | (refine bodyPost_ret (v := .tuple #[.agg #[.int .i64 lsn, .slice (some ⟨g, 0, none⟩) (j + 1) cap], .int .i64 0]) ?_ rfl ⟨some ⟨g, 0, none⟩, (j + 1), cap, by rw [HR3.out], by rw [HR3.out]; exact IsSlots.but E6.out B8 (fun b off e => by cases e; omega), ?_⟩
                   · refine Eq.trans (results_cell_one (p := 6) (u := 7) ?_ _ _ (w.heap.size + 1 + 1) _ _ _ fs ?_ Z8 Hu.out (by kernel_rfl)) ?_
                     all_goals rfl
                   · exact B6.out.trans (B8.below (by omega) B6.out.size))
          · have HT := Lib.hid ((slTrim_take_free hj hy).symm.trans Ht.out)
            have c0 := G.out.1.cell _ _ (take_at G.out.2 (by omega) hj).1
            rw [hy] at c0
            clear hj hy Ht Fin
            go_wp2_with fail
            go_round
            case rel => exact ⟨j, by omega, rfl, HT⟩
            case measure => simp [sliceLen]
theorem rput_any (lsn : Int) (A : Option Addr) (n c : Nat) (l : List Sl) (k : Int) (x : Sl) (w : World) (h : IsSlots w A n c l) (hx : x.d.size ≤ 140737488351232) :
    Calls Try.prog 28 #[.agg #[.int .i64 lsn, .slice A n c], .int .i64 k, .agg #[.bool x.u, .string x.d]] w (PageOut (putRes lsn l k x) w) := by
  unfold putRes
  cases hb : putBad lsn l k x with
  | true => rw [if_pos rfl]; exact rput_bad lsn A n c l k x w h hb
  | false =>
    rw [if_neg (by simp)]
    by_cases hl : 200 < x.d.size
    · rw [if_pos hl]; exact rput_long lsn A n c l k x w h hb hx hl
    · rw [if_neg hl]
      obtain ⟨h1, h2, h3, h4⟩ := putBad_not hb
      obtain ⟨j, rfl⟩ : ∃ j : Nat, k = j := ⟨k.toNat, by omega⟩
      obtain ⟨u, d⟩ := x
      simp only at hl
      refine rput_in lsn A n c l j _ u d w h h1 (by omega) ?_ (by omega) rfl _ rfl
      cases u with
      | true => exact .inl rfl
      | false => exact .inr ⟨rfl, by rcases h4 with h | h <;> simp_all⟩
end Go.Proofs.Ytpgeiopknjfdmaa
