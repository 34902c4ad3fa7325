/-
  All of a client's datagrams taken out of a net.
-/
import Derived.Test.YtkdopflnaeejeaaMiPick
namespace Go.Proofs.Ytkdopflnaeejeaa
open Go.RowKit
set_option linter.unusedVariables false
set_option linter.unusedSimpArgs false

/-- Whether a datagram is another client's. -/
def keepG (c : Int) (x : Gr) : Bool := !(x.cl == c)
set_option maxRecDepth 100000 in
theorem isHis_any (x : Gr) (b : Nat) (c : Int) (w : World) (hb : w.cell? ⟨b, 0, none⟩ = some (.int .i64 c)) :
    Calls Try.prog 27 #[x.val, .pointer (some ⟨b, 0, none⟩)] w fun e w' => e = .returned (.bool (x.cl == c)) ∧ Below w.heap.size w w' := by
  obtain ⟨c', u, ep, sq, ak, bd⟩ := x
  have hlt : b < w.heap.size := block_lt_of_cell hb
  simp only [Gr.val]
  go_enter Try.func27, Try.ntmps27
  go_wp2
  go_ret
  exact ⟨rfl, bnew w _⟩
/-- Datagrams in memory, nil let in. -/
def IsGrams (w : World) (A : Option Addr) (n c : Nat) (l : List Gr) : Prop := l.length = n ∧ n ≤ c ∧ c ≤ 9223372036854775807 ∧ ∀ i x, l[i]? = some x → ∃ b o, A = some ⟨b, o, none⟩ ∧ GrIn w b (o + i * 6) x
theorem IsGrams.of_row {w : World} {A : Option Addr} {cap : Nat} {l : List Gr} (h : RowG 0 w (.slice A l.length cap) l) : IsGrams w A l.length cap l := by
  obtain ⟨A', cap', e, h1, h2⟩ := h.form
  cases e
  refine ⟨rfl, h1, h2, fun i x hx => ?_⟩
  obtain ⟨g, cap', cur, e, _, _, _, _, _, _⟩ := ownsRow_at h (by have := (List.getElem?_eq_some_iff.1 hx).1; omega)
  cases e
  exact ⟨g, 0, rfl, by have := h.at rfl hx; rwa [Nat.zero_add]⟩
theorem IsGrams.below {w w' : World} {A : Option Addr} {n c : Nat} {l : List Gr} (h : IsGrams w A n c l) (hb : Below w.heap.size w w') : IsGrams w' A n c l :=
  ⟨h.1, h.2.1, h.2.2.1, fun i x hx => by obtain ⟨b, o, e, hG⟩ := h.2.2.2 i x hx; exact ⟨b, o, e, hG.below hG.lt hb⟩⟩
/-- Where the first one of a kind stands; -1: there is none. -/
def grIdx (p : Gr → Bool) (l : List Gr) : Int := if l.any p then (l.findIdx p : Int) else -1
theorem grIdx_none {p : Gr → Bool} {l : List Gr} (h : l.any p = false) : grIdx p l = -1 := by simp [grIdx, h]
theorem gr_any_snoc {p : Gr → Bool} {l : List Gr} {k : Nat} {x : Gr} (hx : l[k]? = some x) (h : (l.take k).any p = false) (hp : p x = false) : (l.take (k + 1)).any p = false := by
  rw [List.take_add_one, hx, List.any_append, h]; simp [hp]
theorem grIdx_here {p : Gr → Bool} {l : List Gr} {k : Nat} {x : Gr} (hx : l[k]? = some x) (h : (l.take k).any p = false) (hp : p x = true) : grIdx p l = (k : Int) := by
  have hk : k < l.length := (List.getElem?_eq_some_iff.1 hx).1
  have hl : l.any p = true := List.any_eq_true.2 ⟨x, List.mem_of_getElem? hx, hp⟩
  have hf : l.findIdx p = k := by
    rw [List.findIdx_eq hk]
    have hxx : l[k] = x := (List.getElem?_eq_some_iff.1 hx).2
    refine ⟨by rw [hxx]; exact hp, fun j hj => ?_⟩
    have := List.any_eq_false.1 h (l[j]'(by omega)) (by rw [List.mem_take_iff_getElem]; exact ⟨j, by omega, rfl⟩)
    simpa using this
  simp [grIdx, hl, hf]
set_option maxRecDepth 100000 in
set_option maxHeartbeats 1000000 in
theorem idxHis_any (b : Nat) (c : Int) (A : Option Addr) (n cap : Nat) (l : List Gr) (w : World) (h : IsGrams w A n cap l) (hb : w.cell? ⟨b, 0, none⟩ = some (.int .i64 c)) :
    Calls Try.prog 35 #[.slice A n cap, .func (.func 27) #[] #[.pointer (some ⟨b, 0, none⟩)]] w fun e w' => e = .returned (.int .i64 (grIdx (fun x => x.cl == c) l)) ∧ Below w.heap.size w w' := by
  have hcap := h.2.1
  have hmost := h.2.2.1
  have hlen := h.1
  have H := Lib.hid h
  have hbl : b < w.heap.size := block_lt_of_cell hb
  have Hb := Lib.hid hb
  have Hlen := Lib.hid hlen
  clear h hb hlen
  go_enter Try.func35, Try.ntmps35
  go_wp2_with fail
  go_loopw [8] (fun i wr => ∃ k : Nat, k ≤ n ∧ i = .int .i64 k ∧ Hid ((l.take k).any (fun x => x.cl == c) = false) ∧ Hid (Below w.heap.size w wr)) (fun i _ => n - (intOf i).toNat)
  case atStart => exact ⟨0, by omega, rfl, Lib.hid rfl, Lib.hid (Below.refl _ _)⟩
  case round =>
    obtain ⟨k, hk, rfl, Hn, HB⟩ := hrel
    by_cases hlt : k < n
    · obtain ⟨x, hx⟩ : ∃ x, l[k]? = some x := ⟨_, List.getElem?_eq_getElem (by rw [Hlen.out]; exact hlt)⟩
      obtain ⟨g, o, rfl, hG⟩ := H.out.2.2.2 k x hx
      have hG' := hG.below hG.lt HB.out
      have CI := Lib.hid (fun w h => isHis_any x b c w h)
      obtain ⟨t, ht⟩ : ∃ t, (x.cl == c) = t := ⟨_, rfl⟩
      have HX1 := Lib.hid (grIdx_here (p := fun x => x.cl == c) hx Hn.out)
      have HX2 := Lib.hid (gr_any_snoc (p := fun x => x.cl == c) hx Hn.out)
      rw [ht] at CI HX1 HX2
      have c0 := (HB.out.cell (p := ⟨b, 0, none⟩) hbl).trans Hb.out
      have C0 := Lib.hid c0
      obtain ⟨c', u, ep, sq, ak, bd⟩ := x
      have d0 := hG'.a0
      have d1 := hG'.a1
      have d2 := hG'.a2
      have d3 := hG'.a3
      have d4 := hG'.a4
      have d5 := hG'.a5
      simp only at d0 d1 d2 d3 d4 d5
      simp only [Gr.val] at CI
      clear hG hG' hx c0 ht
      go_wp2_with fail
      refine (CI.out _ C0.out).mono ?_
      rintro e w1 ⟨rfl, b1⟩
      have HB1 := Lib.hid (bup HB.out b1)
      clear b1
      cases t with
      | true =>
        have HX := Lib.hid (HX1.out rfl)
        clear HX1 HX2
        go_wp2
        go_ret
        exact ⟨by rw [HX.out]; rfl, HB1.out⟩
      | false =>
        have HX := Lib.hid (HX2.out rfl)
        clear HX1 HX2
        go_wp2
        go_roundw
        case rel => exact ⟨k + 1, by omega, by go_num, HX, HB1⟩
        case measure => simp [intOf]; omega
    · have hkn : l.take k = l := List.take_of_length_le (by rw [Hlen.out]; omega)
      rw [hkn] at Hn
      have HX := Lib.hid (grIdx_none Hn.out)
      clear hkn Hn
      go_wp2
      go_ret
      exact ⟨by rw [HX.out]; rfl, HB.out⟩
theorem But.cell' {b g : Nat} {w w' : World} {o : Nat} {v : Value} (h : But g w w') (hc : w.cell? ⟨b, o, none⟩ = some v) (hne : b ≠ g) : w'.cell? ⟨b, o, none⟩ = some v :=
  (World.cell?_of_block (a := ⟨b, o, none⟩) (h.block b (block_lt_of_cell hc) hne)).trans hc
theorem keep_yes {c : Int} {q : List Gr} {j : Nat} {x : Gr} (hx : q[j]? = some x) (h : (x.cl == c) = false) : (q.take (j + 1)).filter (keepG c) = (q.take j).filter (keepG c) ++ [x] := by
  rw [List.take_add_one, hx]; simp [keepG, h]
theorem keep_no {c : Int} {q : List Gr} {j : Nat} {x : Gr} (hx : q[j]? = some x) (h : (x.cl == c) = true) : (q.take (j + 1)).filter (keepG c) = (q.take j).filter (keepG c) := by
  rw [List.take_add_one, hx]; simp [keepG, h]
theorem keep_all {c : Int} {q : List Gr} (h : q.any (fun x => x.cl == c) = false) : q.filter (keepG c) = q := by
  refine List.filter_eq_self.2 fun x hx => ?_
  have := List.any_eq_false.1 h x hx
  simp [keepG]; simpa using this
theorem keep_first {c : Int} {q : List Gr} (h : q.any (fun x => x.cl == c) = true) : ∃ i : Nat, grIdx (fun x => x.cl == c) q = (i : Int) ∧ i < q.length ∧ (q.take (i + 1)).filter (keepG c) = q.take i := by
  obtain ⟨x, hx, hp⟩ := List.any_eq_true.1 h
  have hlt : q.findIdx (fun x => x.cl == c) < q.length := List.findIdx_lt_length_of_exists ⟨x, hx, hp⟩
  refine ⟨_, by simp [grIdx, h], hlt, ?_⟩
  have hp' : (q[q.findIdx (fun x => x.cl == c)].cl == c) = true := List.findIdx_getElem (p := fun x : Gr => x.cl == c) (w := hlt)
  rw [keep_no (c := c) (List.getElem?_eq_getElem hlt) hp', List.filter_eq_self]
  intro y hy
  obtain ⟨k, hk, rfl⟩ := List.getElem_of_mem hy
  rw [List.getElem_take]
  have hk2 : k < q.findIdx (fun x => x.cl == c) := by rw [List.length_take] at hk; omega
  have := List.not_of_lt_findIdx hk2
  simpa [keepG] using this
/-- What has been done of a row: the first i elements are those kept of the first j, what stands from j on is as it was. -/
structure Part (w wr : World) (g cap : Nat) (cur : Array Value) (c : Int) (q : List Gr) (i j : Nat) : Prop where
  ex : ∃ cs : Array Value, Has wr g (.cells cs 27) ∧ cs.size = cap * 6 ∧ cs.toList.take (i * 6) = flatG ((q.take j).filter (keepG c)) ∧ ∀ o, j * 6 ≤ o → cs.toList[o]? = cur.toList[o]?
  but : But g w wr
theorem Part.step {w wr w2 : World} {g cap : Nat} {cur cs : Array Value} {c : Int} {q : List Gr} {i j : Nat} {x : Gr} (hx : q[j]? = some x) (hc : (x.cl == c) = false) (hij : i < j) (hj : (j + 1) ≤ cap) (h1 : cs.size = cap * 6) (h2 : cs.toList.take (i * 6) = flatG ((q.take j).filter (keepG c)))
    (h3 : ∀ o, j * 6 ≤ o → cs.toList[o]? = cur.toList[o]?) (hw : Has w2 g (.cells (cs.toList.take (i * 6) ++ x.row.toList ++ cs.toList.drop (i * 6 + 6)).toArray 27)) (hb : But g w w2) : Part w w2 g cap cur c q (i + 1) (j + 1) := by
  have hl : cs.toList.length = cap * 6 := by rw [Array.length_toList, h1]
  have h0 : (cs.toList.take (i * 6)).length = i * 6 := by rw [List.length_take, hl]; omega
  have hr : x.row.toList.length = 6 := rfl
  refine ⟨⟨_, hw, ?_, ?_, fun o ho => ?_⟩, hb⟩
  · rw [List.size_toArray, List.length_append, List.length_append, h0, hr, List.length_drop, hl]; omega
  · rw [keep_yes hx hc, flatG_append, ← h2]
    show (cs.toList.take (i * 6) ++ x.row.toList ++ _).take _ = _
    rw [List.take_left' (by rw [List.length_append, h0, hr]; omega)]
    simp [flatG]
  · show (cs.toList.take (i * 6) ++ x.row.toList ++ _)[o]? = _
    rw [List.getElem?_append_right (by rw [List.length_append, h0, hr]; omega), List.length_append, h0, hr, List.getElem?_drop, show i * 6 + 6 + (o - (i * 6 + 6)) = o by omega]
    exact h3 o (by omega)
theorem Part.skip {w wr w2 : World} {g cap : Nat} {cur : Array Value} {c : Int} {q : List Gr} {i j : Nat} {x : Gr} (hx : q[j]? = some x) (hc : (x.cl == c) = true) (h : Part w wr g cap cur c q i j) (hb : Below wr.heap.size wr w2) : Part w w2 g cap cur c q i (j + 1) := by
  obtain ⟨⟨cs, h0, h1, h2, h3⟩, hB⟩ := h
  exact ⟨⟨cs, h0.below hb, h1, by rw [keep_no hx hc]; exact h2, fun o ho => h3 o (by omega)⟩, hB.trans (But.of hb)⟩
set_option maxRecDepth 100000 in
set_option maxHeartbeats 4000000 in
theorem delFunc_any (b : Nat) (c : Int) (A : Option Addr) (cap : Nat) (q : List Gr) (w : World) (h : RowG 0 w (.slice A q.length cap) q) (hb : w.cell? ⟨b, 0, none⟩ = some (.int .i64 c)) (hne : (Value.slice A q.length cap).ownBlock ≠ some b) :
    Calls Try.prog 26 #[.slice A q.length cap, .func (.func 27) #[] #[.pointer (some ⟨b, 0, none⟩)]] w fun e w' => e = .returned (.slice A (q.filter (keepG c)).length cap) ∧ RowG 0 w' (.slice A (q.filter (keepG c)).length cap) (q.filter (keepG c)) ∧ Kept (fun k => (Value.slice A q.length cap).ownBlock = some k) w w' := by
  have CI := Lib.hid (fun w h1 h2 => idxHis_any b c A q.length cap q w h1 h2)
  have HI := Lib.hid (IsGrams.of_row h)
  have Hb := Lib.hid hb
  cases ha : q.any (fun x => x.cl == c) with
  | false =>
    rw [keep_all ha]
    rw [grIdx_none ha] at CI
    have HR := Lib.hid h
    clear h hb hne ha
    go_enter Try.func26, Try.ntmps26
    go_wp2_with fail
    refine (CI.out _ HI.out Hb.out).mono ?_
    rintro e w1 ⟨rfl, b1⟩
    go_wp2_with fail
    go_ret
    exact ⟨rfl, HR.out.held (S := fun _ => False) (Kept.of b1) (fun _ _ e => e), Kept.of b1⟩
  | true =>
    obtain ⟨i0, hi0, hil, hk0⟩ := keep_first ha
    rw [hi0] at CI
    obtain ⟨g, cap', cur, e, _, hgl, hg, hle, hcap, hcs, ht⟩ := ownsRow_at h (by omega)
    cases e
    have hgb : g ≠ b := fun e => hne (by rw [e]; rfl)
    obtain ⟨n, hn⟩ : ∃ n, q.length = n := ⟨_, rfl⟩
    rw [hn] at CI HI hil hle ht ⊢
    have Hn := Lib.hid hn
    have Hk0 := Lib.hid hk0
    have HG := Lib.hid hg
    have HCS := Lib.hid hcs
    have HT := Lib.hid ht
    have hbl : b < w.heap.size := block_lt_of_cell hb
    have HF : Hid (∃ L, q.filter (keepG c) = L) := Lib.hid ⟨_, rfl⟩
    obtain ⟨L, hL⟩ := HF.out
    rw [hL]
    have HL := Lib.hid hL
    clear h hb hne ha hi0 hk0 hg hcs ht hL HF hn
    go_enter Try.func26, Try.ntmps26
    go_wp2_with fail
    refine (CI.out _ HI.out Hb.out).mono ?_
    rintro e w1 ⟨rfl, b1⟩
    have B1 := Lib.hid b1
    have hi1 : ((i0 : Int) == -1) = false := by first | (simp; done) | (simp; omega)
    clear b1
    go_wp2_with fail
    have P0 : Hid (Part w w1 g cap cur c q i0 (i0 + 1)) := Lib.hid ⟨⟨cur, HG.out.below B1.out, HCS.out, by rw [Hk0.out, flatG_take, ← HT.out, List.take_take, Nat.min_eq_left (by omega)], fun _ _ => rfl⟩, But.of B1.out⟩
    clear hi1 HG
    go_loopw [5, 6] (fun iv jv wr => ∃ i j : Nat, i < j ∧ j ≤ n ∧ iv = .int .i64 i ∧ jv = .int .i64 j ∧ Hid (i = ((q.take j).filter (keepG c)).length) ∧ Hid (Part w wr g cap cur c q i j)) (fun _ jv _ => n - (intOf jv).toNat)
    case atStart => exact ⟨i0, i0 + 1, by omega, by omega, rfl, by go_num, Lib.hid (by rw [Hk0.out, List.length_take, Hn.out]; omega), P0⟩
    case round =>
      obtain ⟨i, j, hij, hj, rfl, rfl, HI1, HP⟩ := hrel
      by_cases hlt : j < n
      · obtain ⟨x, hx⟩ : ∃ x, q[j]? = some x := ⟨_, List.getElem?_eq_getElem (by rw [Hn.out]; exact hlt)⟩
        obtain ⟨⟨cs, h0, h1, h2, h3⟩, hB⟩ := HP.out
        have hrow : ∀ (t : Nat) v, x.row[t]? = some v → wr.cell? ⟨g, j * 6 + t, none⟩ = some v := by
          intro t v hv
          have ht6 : t < 6 := (Array.getElem?_eq_some_iff.1 hv).1
          refine h0.cell _ _ ?_
          rw [← Array.getElem?_toList, h3 _ (by omega)]
          have e1 := flatG_get q j x hx t v hv
          rw [← HT.out, List.getElem?_take, if_pos (by omega)] at e1
          exact e1
        have hG := GrIn.of hrow
        have Cb := Lib.hid ((hB.cell' Hb.out (fun e => hgb e.symm)))
        have HX := Lib.hid hx
        have H0 := Lib.hid h0
        have H1 := Lib.hid h1
        have H2 := Lib.hid h2
        have H3 := Lib.hid h3
        have HB := Lib.hid hB
        have CK := Lib.hid (fun w h => isHis_any x b c w h)
        obtain ⟨t, ht⟩ : ∃ t, (x.cl == c) = t := ⟨_, rfl⟩
        rw [ht] at CK
        have Ht := Lib.hid ht
        have hgl1 := h0.lt
        have HXr := Lib.hid (show x.row = x.row from rfl)
        obtain ⟨c', u, ep, sq, ak, bd⟩ := x
        have d0 := hG.a0
        have d1 := hG.a1
        have d2 := hG.a2
        have d3 := hG.a3
        have d4 := hG.a4
        have d5 := hG.a5
        simp only at d0 d1 d2 d3 d4 d5
        simp only [Gr.val] at CK
        clear hx hG hrow h0 h1 h2 h3 hB ht HXr
        go_wp2_with fail
        refine (CK.out _ (show _ = _ from (World.cell?_of_block (a := ⟨b, 0, none⟩) ((bnew wr _).block b (block_lt_of_cell Cb.out))).trans Cb.out)).mono ?_
        rintro e w2 ⟨rfl, b2⟩
        have Bx := Lib.hid (bup (bnew wr (.cells #[.int .i64 c', .bool u, .int .i64 ep, .int .i64 sq, .int .i64 ak, .string bd] 27)) b2)
        have X2 := Lib.hid ((Has.new wr (.cells #[.int .i64 c', .bool u, .int .i64 ep, .int .i64 sq, .int .i64 ak, .string bd] 27)).below b2)
        have G2 := Lib.hid (H0.out.below Bx.out)
        clear b2 d0 d1 d2 d3 d4 d5
        cases t with
        | true =>
          clear X2 G2
          go_wp2_with fail
          go_roundw
          case rel => exact ⟨i, j + 1, by omega, by omega, rfl, by go_num, Lib.hid (by rw [keep_no HX.out Ht.out]; exact HI1.out), Lib.hid (Part.skip HX.out Ht.out HP.out Bx.out)⟩
          case measure => simp [intOf]; omega
        | false =>
          have x0 := X2.out.cell 0 _ rfl
          have x1 := X2.out.cell 1 _ rfl
          have x2 := X2.out.cell 2 _ rfl
          have x3 := X2.out.cell 3 _ rfl
          have x4 := X2.out.cell 4 _ rfl
          have x5 := X2.out.cell 5 _ rfl
          have hfit : Hid (i * 6 + 6 ≤ cs.size) := Lib.hid (by rw [H1.out]; omega)
          go_wp2_with ((with_reducible refine at_store rfl ?_); refine wpList_store_mid rfl rfl _ _ _ rfl g (i * 6) #[.int .i64 c', .bool u, .int .i64 ep, .int .i64 sq, .int .i64 ak, .string bd] rfl rfl _ cs G2.out (by kernel_rfl) hfit.out (by first | kernel_rfl | simp [Value.oneCell']) ?_; intro w8 Z8 B8)
          go_roundw
          case rel => exact ⟨i + 1, j + 1, by omega, by omega, by go_num, by go_num, Lib.hid (by rw [keep_yes HX.out Ht.out, List.length_append, ← HI1.out]; rfl), Lib.hid (Part.step (wr := wr) HX.out Ht.out hij (by omega) H1.out H2.out H3.out Z8 ((HB.out.trans (But.of Bx.out)).trans B8))⟩
          case measure => simp [intOf]; omega
      · obtain rfl : j = n := by omega
        obtain ⟨⟨cs, h0, h1, h2, h3⟩, hB⟩ := HP.out
        have H0 := Lib.hid h0
        have H1 := Lib.hid h1
        have H2 := Lib.hid h2
        have HB := Lib.hid hB
        have hfit : Hid (i * 6 + (j - i) * 6 ≤ cs.size) := Lib.hid (by rw [H1.out]; omega)
        have hlen : Hid (L.length = i) := Lib.hid (by rw [HI1.out, ← HL.out, List.take_of_length_le (by rw [Hn.out]; exact Nat.le_refl _)])
        have hji : i < j := hij
        clear h0 h1 h2 h3 hB
        go_wp2_with (refine wp_clear_row gramElem gramZero gramOne rfl (.tmp 38) rfl g (i * 6) (j - i) (cap - i) cs rfl H0.out (by omega) hfit.out ?_; intro w2 h2 b2)
        go_ret
        rw [hlen.out]
        refine ⟨rfl, ?_, Kept.but (HB.out.trans b2) rfl⟩
        have e2 : (cs.toList.take (i * 6)).length = i * 6 := by rw [List.length_take, Array.length_toList, H1.out]; omega
        unfold RowG
        rw [hlen.out]
        refine ⟨by rw [flatG_len, hlen.out], .inr ⟨g, cap, _, rfl, by omega, h2, by omega, by unfold maxLen; omega, ?_, ?_⟩⟩
        · rw [List.size_toArray, List.length_append, List.length_append, e2, Array.length_toList, size_zeroCells, List.length_drop, Array.length_toList, H1.out]
          show i * 6 + (j - i) * 6 + _ = _
          omega
        · show (cs.toList.take (i * 6) ++ _ ++ _).take (i * 6) = _
          rw [List.append_assoc, List.take_left' e2, H2.out, ← HL.out, List.take_of_length_le (by rw [Hn.out]; exact Nat.le_refl _)]
set_option maxRecDepth 100000 in
set_option maxHeartbeats 2000000 in
theorem clear_nil (c : Int) (w : World) :
    Calls Try.prog 14 #[.pointer none, .int .i64 c] w fun e w' => e = .returned (.int .i64 0) ∧ Below w.heap.size w w' := by
  go_enter Try.func14, Try.ntmps14
  go_wp2_with fail
  go_ret
  exact ⟨rfl, bnew w _⟩
set_option maxRecDepth 100000 in
set_option maxHeartbeats 2000000 in
theorem clear_some (p : Nat) (r : Option Nat) (q : List Gr) (c : Int) (w : World) (hN : NetAt 53 w p r q) :
    Calls Try.prog 14 #[.pointer (some ⟨p, 0, none⟩), .int .i64 c] w fun e w' => e = .returned (.int .i64 ((clearG q c).2 : Int)) ∧ NetOut 53 p r (clearG q c).1 w w' := by
  obtain ⟨A, cap, hp, hrow, hv, hle, hcap, _⟩ := hN.open
  have CD := fun (w : World) h1 h2 h3 => delFunc_any w.heap.size c A cap q (w.alloc (.cells #[.int .i64 c] 3)) h1 h2 h3
  have hlt := hN.lt
  have hzb : ¬ zone p r w.heap.size := fun h => by have := hlt _ h; omega
  have CD := Lib.hid (CD w ((hrow.held (S := fun _ => False) (Kept.of (bnew w _)) (fun _ _ e => e))) ((Has.new w _).cell 0 _ rfl) (fun e => hzb (.inr (hv.symm.trans e))))
  obtain ⟨n, hn⟩ : ∃ n, q.length = n := ⟨_, rfl⟩
  have hf : q.filter (keepG c) = (clearG q c).1 := rfl
  have hcl : (clearG q c).2 = q.length - (q.filter (keepG c)).length := rfl
  obtain ⟨L, hL⟩ : ∃ L, q.filter (keepG c) = L := ⟨_, rfl⟩
  obtain ⟨m, hm⟩ : ∃ m, L.length = m := ⟨_, rfl⟩
  have hmn : m ≤ n := by rw [← hm, ← hn, ← hL]; exact List.length_filter_le _ _
  rw [← hf, hcl, hL, hm, hn]
  rw [hL, hm, hv, hn] at CD
  rw [hn] at hp hle hrow
  have HP := Lib.hid hp
  have HN := Lib.hid hN
  have HV := Lib.hid hv
  have Hm := Lib.hid hm
  have Hz := Lib.hid hzb
  have hpl := hp.lt
  have p0 := hp.cell 0 _ rfl
  clear hp hrow hv hN hL hm hf hcl hn hlt hzb
  go_enter Try.func14, Try.ntmps14
  go_wp2_with fail
  refine CD.out.mono ?_
  rintro e w1 ⟨rfl, R1, K1⟩
  have P1 := Lib.hid ((HP.out.alloc (.cells #[.int .i64 c] 3)).held K1 (fun e => HN.out.ne e))
  have R1' := Lib.hid R1
  have K1' : Hid (Kept (zone p r) w w1) := Lib.hid ((Kept.of (bnew w _)).trans (K1.mono (fun k e => .inr e)))
  clear R1 K1 p0
  have q0 := P1.out.cell 0 _ rfl
  have qf := P1.out.free 0
  go_upto_region 5 with (fail)
  have P2 : Hid (Has (w1.setCell ⟨p, 0, none⟩ (.slice A m cap)) p (.cells #[.slice A m cap] 53)) := Lib.hid (P1.out.set 0 (.slice A m cap))
  have K2 := Lib.hid (K1'.out.trans (Kept.but (But.set p 0 w1 (.slice A m cap)) (.inl rfl)))
  have hO : (Value.slice A m cap).ownBlock = r := by rw [← HV.out]; cases A <;> rfl
  have R2 := Lib.hid (R1'.out.held (S := fun k => k = p) (Kept.but (But.set p 0 w1 (.slice A m cap)) rfl) (fun j e h => HN.out.ne (by rw [← hO, e, h])))
  have HO := Lib.hid hO
  clear hO
  generalize hw2 : World.setCell w1 _ _ = w2
  rw [hw2] at P2 K2 R2
  clear hw2 P1 K1' R1' q0 qf
  have q0 := P2.out.cell 0 _ rfl
  have hsub : IntKind.i64.wrap ((n : Int) - m) = ((n - m : Nat) : Int) := by rw [IntKind.wrap_i64]; omega
  have Hs : Hid (((n - m : Nat) : Int) = (n : Int) - m) := Lib.hid (by omega)
  clear hsub
  go_wp2_with fail
  go_ret
  refine ⟨by rw [Hs.out]; rfl, r, ⟨⟨_, P2.out, R2.out, HO.out⟩, HN.out.ne⟩, K2.out, fun g e => .inl e⟩
end Go.Proofs.Ytkdopflnaeejeaa
