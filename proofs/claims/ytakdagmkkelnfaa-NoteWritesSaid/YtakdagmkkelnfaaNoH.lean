/-
  Entries off the beginning of bytes, as many as a number tells.
-/
import Derived.Test.YtakdagmkkelnfaaNoG
import Derived.WalkLawsBesides
namespace Go.Proofs.Ytakdagmkkelnfaa
open Go.RowKit Go.Sort NibPure SumPure
set_option linter.unusedVariables false
set_option linter.unusedSimpArgs false
theorem But.grown {b : Nat} {w w' : World} (h : But b w w') : w.grownBy w' (some b) := ⟨h.os, h.tape, h.output, h.size, fun k hk hne => h.block k hk (fun e => hne (by rw [e]))⟩
theorem But.up {b : Nat} {w w1 w2 : World} (h : But b w w1) (k : Below w.heap.size w1 w2) : But b w w2 :=
  ⟨k.os.trans h.os, k.tape.trans h.tape, k.output.trans h.output, Nat.le_trans h.size k.size, fun j hj hb => (k.block j hj).trans (h.block j hj hb)⟩
theorem IsEnts.but {w w' : World} {A : Option Addr} {n c b : Nat} {l : List Ent} (h : IsEnts w A n c l) (hb : But b w w') (hne : 0 < n → ∀ g off, A = some ⟨g, off, none⟩ → g ≠ b) : IsEnts w' A n c l := by
  refine ⟨h.len, h.cap, h.most, h.small, fun hn => ?_⟩
  obtain ⟨g, off, rfl, hlt, hc⟩ := h.row hn
  have hk := hb.block g hlt (hne hn g off rfl)
  exact ⟨g, off, rfl, Nat.lt_of_lt_of_le hlt hb.size, fun i x hx j v hv => (World.cell?_of_block (a := ⟨g, off + i * 13 + j, none⟩) hk).trans (hc i x hx j v hv)⟩
theorem esF_bad : ∀ (f : Nat) (n : Int) (l : List Ent) (r : List UInt8), esF f n l (r, true) = (l, r, true)
  | 0, _, _, _ => rfl
  | f + 1, n, l, r => by rw [esF, if_neg (by simp)]
theorem esF_stop {f : Nat} {n : Int} {l : List Ent} {r : List UInt8} (h : ¬ ((l.length : Int) < n ∧ l.length < 17)) : esF f n l (r, false) = (l, r, false) := by
  cases f with
  | zero => rfl
  | succ f =>
    rw [esF, if_neg]
    rintro ⟨h1, _⟩
    exact h ⟨by omega, by omega⟩
def smallE (x : Ent) : Prop := x.wd.size ≤ 140737488351232 ∧ x.ix.size ≤ 140737488351232
theorem good_small {x : Ent} (h : x.good = true) : smallE x := by
  obtain ⟨_, _, _, h1, h2⟩ := good_facts x h
  exact ⟨by omega, by omega⟩
theorem ents_of {base : Nat} {w : World} {v : Value} {l : List Ent} (h : w.ownsRow base 64 13 v l.length (flatE l)) (hs : ∀ x ∈ l, smallE x) : ∃ A cap, v = .slice A l.length cap ∧ IsEnts w A l.length cap l ∧ (0 < l.length → ∀ g off, A = some ⟨g, off, none⟩ → base ≤ g) := by
  by_cases h0 : 0 < l.length
  · obtain ⟨g, cap, cur, rfl, hb, hl, G, h3, h4, h5, h6⟩ := ownsRow_at h h0
    refine ⟨_, cap, rfl, ⟨rfl, h3, h4, hs, fun _ => ⟨g, 0, rfl, hl, fun i x hx j u hu => ?_⟩⟩, fun _ g' off e => by cases e; exact hb⟩
    have hi := (List.getElem?_eq_some_iff.1 hx).1
    have hj : j < 13 := (Array.getElem?_eq_some_iff.1 hu).1
    rw [Nat.zero_add, World.ownsRow.cellAt h (i * 13 + j) (by omega)]
    exact flatE_get l i x hx j u hu
  · obtain ⟨A, cap, rfl, h1, h2⟩ := ownsRow_form h
    exact ⟨A, cap, rfl, ⟨rfl, h1, h2, hs, fun h => absurd h h0⟩, fun h => absurd h h0⟩
def EntsPost (b : Nat) (R : List Ent × Sc) (w : World) (e : Ending) (w' : World) : Prop :=
  ∃ A n c, e = .returned (.slice A n c) ∧ IsEnts w' A n c R.1 ∧ (0 < n → ∀ g off, A = some ⟨g, off, none⟩ → w.heap.size ≤ g) ∧ Has w' b (.cells #[.string (bs R.2.1), .bool R.2.2] 52) ∧ But b w w'
theorem decE_len {s : List UInt8} {x : Ent} {r : List UInt8} (h : decE s = some (x, r)) : r.length ≤ s.length := by
  have := (bytes_decE h).2
  rw [← this, List.length_append]; omega
/-- One entry more. -/
theorem esF_more {m : Nat} {n : Int} {l : List Ent} {q : List UInt8} {T : List Ent × Sc} (h : esF (18 - m) n l (q, false) = T) (hl : l.length = m) (h1 : (m : Int) < n) (h2 : m < 17) :
    ∃ x q2 er, decERes (decE q) = .tuple #[x.val, .string (bs q2), .int .i64 er] ∧ (er = 0 ∨ er = 4) ∧ esF (18 - (m + 1)) n (l ++ [x]) (q2, (er != 0)) = T ∧ smallE x ∧ q2.length ≤ q.length := by
  rw [show 18 - m = (18 - (m + 1)) + 1 by omega, esF, if_pos ⟨by rw [hl]; show (m : Int) < min n 17; omega, rfl⟩] at h
  cases hd : decE q with
  | none =>
    rw [hd] at h
    exact ⟨Ent.zero, [], 4, rfl, .inr rfl, by rw [show ((4 : Int) != 0) = true from rfl, esF_bad]; exact h, ⟨by decide, by decide⟩, by simp⟩
  | some p =>
    obtain ⟨x, q2⟩ := p
    rw [hd] at h
    exact ⟨x, q2, 0, rfl, .inl rfl, h, good_small (bytes_decE hd).1, decE_len hd⟩
set_option maxRecDepth 100000 in
set_option maxHeartbeats 8000000 in
theorem nscE_any (b : Nat) (r : List UInt8) (bad : Bool) (w : World) (hr : r.length ≤ 9223372036854775807) (h : Has w b (.cells #[.string (bs r), .bool bad] 52)) :
    Calls Try.prog 25 #[.pointer (some ⟨b, 0, none⟩)] w (EntsPost b (scE (r, bad)) w) := by
  have CI := Lib.hid (nscI_any b r bad w hr h)
  have hbl := h.lt
  have hlen : (scI (r, bad)).2.1.length ≤ r.length := takeI_rest r
  obtain ⟨z, hz⟩ : ∃ z, scI (r, bad) = z := ⟨_, rfl⟩
  obtain ⟨R, hR⟩ : ∃ R, scE (r, bad) = R := ⟨_, rfl⟩
  have hR' := hR
  unfold scE at hR'
  rw [hz] at CI hR' hlen
  rw [hR]
  obtain ⟨n, r2, bad2⟩ := z
  simp only at CI hR' hlen
  have hn64 : -9223372036854775808 ≤ n ∧ n ≤ 9223372036854775807 := by
    have : (takeI r).1 = n := by have := congrArg Prod.fst hz; exact this
    rw [← this]
    unfold takeI
    cases hd : dec r with
    | none => simp
    | some p => obtain ⟨m, q⟩ := p; exact (enc_dec hd).2
  obtain ⟨T, hT⟩ : ∃ T, esF 18 n [] (r2, bad2) = T := ⟨_, rfl⟩
  rw [hT] at hR'
  have HT := Lib.hid hT
  have HR := Lib.hid hR'
  have hr2 : r2.length ≤ 9223372036854775807 := by omega
  clear hz hR hR' hT h hlen hr
  go_enter Try.func25, Try.ntmps25
  go_wp2_with fail
  refine CI.out.mono ?_
  rintro e w1 ⟨rfl, h1, k1⟩
  have H1 := Lib.hid h1
  have K1 := Lib.hid k1
  have R0 : Hid (w1.ownsRow w.heap.size 64 13 (.slice none 0 0) 0 (flatE [])) := Lib.hid (World.ownsRow_nil _ _ _ _)
  have K0 : Hid (But b w w1) := K1
  have S0 : Hid (∀ x ∈ ([] : List Ent), smallE x) := Lib.hid (fun x h => by cases h)
  have HN := Lib.hid hn64
  clear h1 k1 CI hn64
  go_wp2_with fail
  go_loopw [3] (fun v wr => ∃ (l : List Ent) (m : Nat) (q : List UInt8) (bd : Bool) (A' : Option Addr) (cap' : Nat), v = .slice A' m cap' ∧ m ≤ 17 ∧ m ≤ cap' ∧ cap' ≤ 9223372036854775807 ∧ Hid (l.length = m) ∧ Hid (q.length ≤ r2.length) ∧ Hid (esF (18 - m) n l (q, bd) = T) ∧ Hid (wr.ownsRow w.heap.size 64 13 (.slice A' m cap') m (flatE l)) ∧ Hid (∀ x ∈ l, smallE x) ∧ Hid (Has wr b (.cells #[.string (bs q), .bool bd] 52)) ∧ Hid (But b w wr)) (fun v _ => 18 - sliceLenN v)
  case atStart => exact ⟨[], 0, r2, bad2, none, 0, rfl, by omega, by omega, by omega, Lib.hid rfl, Lib.hid (Nat.le_refl _), HT, R0, S0, H1, K0⟩
  case round =>
    obtain ⟨l, m, q, bd, A', cap', rfl, hm, hmc, hcm, HL, HQ, HF, HO, HSm, HH, HK⟩ := hrel
    clear R0 S0 H1 K0 K1 HT
    have h0 := HH.out.cell 0 _ rfl
    have h1 := HH.out.cell 1 _ rfl
    have hf0 := HH.out.free 0
    have hf1 := HH.out.free 1
    have hbr := HH.out.lt
    have hn1 := HN.out.1
    have hn2 := HN.out.2
    cases bd with
    | true =>
      by_cases hle : n ≤ 17
      · by_cases hmn : (m : Int) < n
        · skip
          have TT : Hid (T = (l, q, true)) := Lib.hid (by rw [← HF.out]; exact esF_bad _ _ _ _)
          clear HF HQ
          go_wp2_with fail
          go_ret
          obtain ⟨A2, c2, e2, hI, hfr⟩ := ents_of (w := wr) (v := .slice A' m cap') (by rw [HL.out]; exact HO.out) HSm.out
          obtain ⟨rfl, rfl⟩ : A' = A2 ∧ cap' = c2 := by injection e2 with e1 e2 e3; exact ⟨e1, e3⟩
          rw [HL.out] at hI hfr
          have hb1 := But.set b 1 wr (.bool true)
          refine ⟨A', m, cap', rfl, ?_, hfr, ?_, HK.out.trans hb1⟩
          · rw [← HR.out, TT.out]
            exact hI.but hb1 (fun h0 g off e => by have := hfr h0 g off e; omega)
          · rw [← HR.out, TT.out]
            have := HH.out.set 1 (.bool true)
            exact this
        · skip
          have hmn2 : n ≤ (m : Int) := by omega
          have TT : Hid (T = (l, q, true)) := Lib.hid (by rw [← HF.out]; exact esF_bad _ _ _ _)
          clear HF HQ
          go_wp2_with fail
          go_ret
          obtain ⟨A2, c2, e2, hI, hfr⟩ := ents_of (w := wr) (v := .slice A' m cap') (by rw [HL.out]; exact HO.out) HSm.out
          obtain ⟨rfl, rfl⟩ : A' = A2 ∧ cap' = c2 := by injection e2 with e1 e2 e3; exact ⟨e1, e3⟩
          rw [HL.out] at hI hfr
          have hb1 := But.set b 1 wr (.bool true)
          refine ⟨A', m, cap', rfl, ?_, hfr, ?_, HK.out.trans hb1⟩
          · rw [← HR.out, TT.out]
            exact hI.but hb1 (fun h0 g off e => by have := hfr h0 g off e; omega)
          · rw [← HR.out, TT.out]
            have := HH.out.set 1 (.bool true)
            exact this
      · have hle2 : 17 < n := by omega
        by_cases hm17 : m < 17
        · skip
          have hm17i : (m : Int) < 17 := by omega
          have TT : Hid (T = (l, q, true)) := Lib.hid (by rw [← HF.out]; exact esF_bad _ _ _ _)
          clear HF HQ
          go_wp2_with fail
          go_ret
          obtain ⟨A2, c2, e2, hI, hfr⟩ := ents_of (w := wr) (v := .slice A' m cap') (by rw [HL.out]; exact HO.out) HSm.out
          obtain ⟨rfl, rfl⟩ : A' = A2 ∧ cap' = c2 := by injection e2 with e1 e2 e3; exact ⟨e1, e3⟩
          rw [HL.out] at hI hfr
          have hb1 := But.set b 1 wr (.bool true)
          refine ⟨A', m, cap', rfl, ?_, hfr, ?_, HK.out.trans hb1⟩
          · rw [← HR.out, TT.out]
            exact hI.but hb1 (fun h0 g off e => by have := hfr h0 g off e; omega)
          · rw [← HR.out, TT.out]
            have := HH.out.set 1 (.bool true)
            exact this
        · skip
          have hm172 : (17 : Int) ≤ (m : Int) := by omega
          have TT : Hid (T = (l, q, true)) := Lib.hid (by rw [← HF.out]; exact esF_bad _ _ _ _)
          clear HF HQ
          go_wp2_with fail
          go_ret
          obtain ⟨A2, c2, e2, hI, hfr⟩ := ents_of (w := wr) (v := .slice A' m cap') (by rw [HL.out]; exact HO.out) HSm.out
          obtain ⟨rfl, rfl⟩ : A' = A2 ∧ cap' = c2 := by injection e2 with e1 e2 e3; exact ⟨e1, e3⟩
          rw [HL.out] at hI hfr
          have hb1 := But.set b 1 wr (.bool true)
          refine ⟨A', m, cap', rfl, ?_, hfr, ?_, HK.out.trans hb1⟩
          · rw [← HR.out, TT.out]
            exact hI.but hb1 (fun h0 g off e => by have := hfr h0 g off e; omega)
          · rw [← HR.out, TT.out]
            have := HH.out.set 1 (.bool true)
            exact this
    | false =>
      by_cases hle : n ≤ 17
      · by_cases hmn : (m : Int) < n
        · have hm17 : m < 17 := by omega
          have hm17i : (m : Int) < 17 := by omega
          obtain ⟨x, q2, er, hd, her, hF2, hsx, hq2⟩ := esF_more HF.out HL.out hmn hm17
          have CD := fun w => decode_any (bs q) (by rw [bs_size]; have := HQ.out; omega) w
          rw [bs_data, hd] at CD
          have HF2 := Lib.hid hF2
          have HSx := Lib.hid hsx
          have HQ2 : Hid (q2.length ≤ r2.length) := Lib.hid (by have := HQ.out; omega)
          have HX := Lib.hid (rfl : x = x)
          have hrow : Hid (flatE (l ++ [x]) = flatE l ++ x.row.toList) := Lib.hid (by rw [flatE_append]; simp [flatE])
          clear hF2 hsx hq2 hd HF HX
          obtain ⟨X, hXe⟩ : ∃ X, X = x := ⟨_, rfl⟩
          rw [← hXe] at HF2 HSx hrow
          have HXe := Lib.hid hXe
          clear hXe
          obtain ⟨k, c, e, n', lsn, p, pg, sl, wu, wd, iu, ix, nx⟩ := x
          simp only [Ent.val, Ent.row] at CD
          replace CD := Lib.hid CD
          rcases her with rfl | rfl
          · skip
            go_wp2_with fail
            refine (CD.out _).mono ?_
            rintro e' w2 ⟨rfl, b1⟩
            have E3 := Lib.hid (Has.new w2 (.cells #[.int .i64 k, .int .i64 c, .int .i64 e, .int .i64 n', .int .i64 lsn, .int .i64 p, .int .i64 pg, .int .i64 sl, .bool wu, .string wd, .bool iu, .string ix, .int .i64 nx] 64))
            have B3 := Lib.hid (bup b1 (bnew w2 (.cells #[.int .i64 k, .int .i64 c, .int .i64 e, .int .i64 n', .int .i64 lsn, .int .i64 p, .int .i64 pg, .int .i64 sl, .bool wu, .string wd, .bool iu, .string ix, .int .i64 nx] 64)))
            have hne : w2.heap.size ≠ b := by have := b1.size; omega
            clear b1 CD h0 h1 hf0 hf1
            go_upto_region 5 with (fail)
            generalize World.alloc w2 _ = w3 at E3 B3 ⊢
            have H3 := Lib.hid (HH.out.below B3.out)
            have h0 := H3.out.cell 0 _ rfl
            have h1 := H3.out.cell 1 _ rfl
            have hf0 := H3.out.free 0
            have hf1 := H3.out.free 1
            have hb3 := H3.out.lt
            go_upto_region 6 with (fail)
            clear h0 h1 hf0 hf1
            generalize hW : World.setCell (World.setCell w3 _ _) _ _ = w4
            have K4 : Hid (But b w3 w4) := Lib.hid (by rw [← hW]; exact (But.set b 0 w3 _).trans (But.set b 1 _ _))
            have H4 := by
              have := (H3.out.set 0 (.string (bs q2))).set 1 (.bool false)
              exact this
            have H4 : Hid (Has w4 b (.cells #[.string (bs q2), .bool false] 52)) := Lib.hid (by rw [← hW]; exact H4)
            clear hW
            have E4 := Lib.hid (E3.out.but K4.out hne)
            have O4 : Hid (w4.ownsRow w.heap.size 64 13 (.slice A' m cap') m (flatE l)) := Lib.hid (ownsRow_other (ownsRow_below HO.out B3.out) K4.out.grown (fun g hg e => by
              have := (World.ownsRow.lt HO.out g hg).1
              injection e with e; omega))
            have hb4 : w.heap.size ≤ w4.heap.size := Nat.le_trans HK.out.size (Nat.le_trans B3.out.size K4.out.size)
            have KK : Hid (But b w w4) := Lib.hid ((HK.out.after B3.out).trans K4.out)
            obtain ⟨c0, c1, c2, c3, c4, c5, c6, c7, c8, c9, c10, c11, c12⟩ := EntAt.of E4.out
            go_wp2_with (at_builtin; refine grow_new entElem rfl (.tmp 40) (.tmp 42) rfl w.heap.size w4 (.slice A' m cap') m (flatE l) rfl O4.out 1 #[.int .i64 k, .int .i64 c, .int .i64 e, .int .i64 n', .int .i64 lsn, .int .i64 p, .int .i64 pg, .int .i64 sl, .bool wu, .string wd, .bool iu, .string ix, .int .i64 nx] rfl rfl (by simp [Value.oneCell']) (by omega) (by omega) hb4 ?_; intro v7 w7 R7 g7 b7; obtain ⟨A7, cap7, rfl, h71, h72⟩ := ownsRow_form R7; have R7' := Lib.hid R7; have B7 := Lib.hid b7; clear R7 g7 b7)
            clear c0 c1 c2 c3 c4 c5 c6 c7 c8 c9 c10 c11 c12
            have hl2 : Hid ((l ++ [X]).length = m + 1) := Lib.hid (by rw [List.length_append, HL.out]; rfl)
            have hro : Hid (w7.ownsRow w.heap.size 64 13 (.slice A7 (m + 1) cap7) (m + 1) (flatE (l ++ [X]))) := Lib.hid (by rw [hrow.out, HXe.out]; exact R7'.out)
            have hsm : Hid (∀ y ∈ l ++ [X], smallE y) := Lib.hid (fun y hy => by
              rcases List.mem_append.1 hy with h | h
              · exact HSm.out y h
              · simp at h; subst h; exact HSx.out)
            have hh7 := Lib.hid (Has.low H4.out B7.out hbl)
            have hk7 := Lib.hid (KK.out.up B7.out)
            go_roundw
            case rel => exact ⟨l ++ [X], m + 1, q2, _, A7, cap7, rfl, by omega, h71, h72, hl2, HQ2, HF2, hro, hsm, hh7, hk7⟩
            case measure => simp [sliceLenN]; omega
          · skip
            go_wp2_with fail
            refine (CD.out _).mono ?_
            rintro e' w2 ⟨rfl, b1⟩
            have E3 := Lib.hid (Has.new w2 (.cells #[.int .i64 k, .int .i64 c, .int .i64 e, .int .i64 n', .int .i64 lsn, .int .i64 p, .int .i64 pg, .int .i64 sl, .bool wu, .string wd, .bool iu, .string ix, .int .i64 nx] 64))
            have B3 := Lib.hid (bup b1 (bnew w2 (.cells #[.int .i64 k, .int .i64 c, .int .i64 e, .int .i64 n', .int .i64 lsn, .int .i64 p, .int .i64 pg, .int .i64 sl, .bool wu, .string wd, .bool iu, .string ix, .int .i64 nx] 64)))
            have hne : w2.heap.size ≠ b := by have := b1.size; omega
            clear b1 CD h0 h1 hf0 hf1
            go_upto_region 5 with (fail)
            generalize World.alloc w2 _ = w3 at E3 B3 ⊢
            have H3 := Lib.hid (HH.out.below B3.out)
            have h0 := H3.out.cell 0 _ rfl
            have h1 := H3.out.cell 1 _ rfl
            have hf0 := H3.out.free 0
            have hf1 := H3.out.free 1
            have hb3 := H3.out.lt
            go_upto_region 6 with (fail)
            clear h0 h1 hf0 hf1
            generalize hW : World.setCell (World.setCell w3 _ _) _ _ = w4
            have K4 : Hid (But b w3 w4) := Lib.hid (by rw [← hW]; exact (But.set b 0 w3 _).trans (But.set b 1 _ _))
            have H4 := by
              have := (H3.out.set 0 (.string (bs q2))).set 1 (.bool true)
              exact this
            have H4 : Hid (Has w4 b (.cells #[.string (bs q2), .bool true] 52)) := Lib.hid (by rw [← hW]; exact H4)
            clear hW
            have E4 := Lib.hid (E3.out.but K4.out hne)
            have O4 : Hid (w4.ownsRow w.heap.size 64 13 (.slice A' m cap') m (flatE l)) := Lib.hid (ownsRow_other (ownsRow_below HO.out B3.out) K4.out.grown (fun g hg e => by
              have := (World.ownsRow.lt HO.out g hg).1
              injection e with e; omega))
            have hb4 : w.heap.size ≤ w4.heap.size := Nat.le_trans HK.out.size (Nat.le_trans B3.out.size K4.out.size)
            have KK : Hid (But b w w4) := Lib.hid ((HK.out.after B3.out).trans K4.out)
            obtain ⟨c0, c1, c2, c3, c4, c5, c6, c7, c8, c9, c10, c11, c12⟩ := EntAt.of E4.out
            go_wp2_with (at_builtin; refine grow_new entElem rfl (.tmp 40) (.tmp 42) rfl w.heap.size w4 (.slice A' m cap') m (flatE l) rfl O4.out 1 #[.int .i64 k, .int .i64 c, .int .i64 e, .int .i64 n', .int .i64 lsn, .int .i64 p, .int .i64 pg, .int .i64 sl, .bool wu, .string wd, .bool iu, .string ix, .int .i64 nx] rfl rfl (by simp [Value.oneCell']) (by omega) (by omega) hb4 ?_; intro v7 w7 R7 g7 b7; obtain ⟨A7, cap7, rfl, h71, h72⟩ := ownsRow_form R7; have R7' := Lib.hid R7; have B7 := Lib.hid b7; clear R7 g7 b7)
            clear c0 c1 c2 c3 c4 c5 c6 c7 c8 c9 c10 c11 c12
            have hl2 : Hid ((l ++ [X]).length = m + 1) := Lib.hid (by rw [List.length_append, HL.out]; rfl)
            have hro : Hid (w7.ownsRow w.heap.size 64 13 (.slice A7 (m + 1) cap7) (m + 1) (flatE (l ++ [X]))) := Lib.hid (by rw [hrow.out, HXe.out]; exact R7'.out)
            have hsm : Hid (∀ y ∈ l ++ [X], smallE y) := Lib.hid (fun y hy => by
              rcases List.mem_append.1 hy with h | h
              · exact HSm.out y h
              · simp at h; subst h; exact HSx.out)
            have hh7 := Lib.hid (Has.low H4.out B7.out hbl)
            have hk7 := Lib.hid (KK.out.up B7.out)
            go_roundw
            case rel => exact ⟨l ++ [X], m + 1, q2, _, A7, cap7, rfl, by omega, h71, h72, hl2, HQ2, HF2, hro, hsm, hh7, hk7⟩
            case measure => simp [sliceLenN]; omega
        · have hmn2 : n ≤ (m : Int) := by omega
          cases hnm : (n != (m : Int)) with
          | true =>
            have TT : Hid (T = (l, q, false)) := Lib.hid (by rw [← HF.out]; exact esF_stop (by rw [HL.out]; omega))
            clear HF HQ
            go_wp2_with fail
            go_ret
            obtain ⟨A2, c2, e2, hI, hfr⟩ := ents_of (w := wr) (v := .slice A' m cap') (by rw [HL.out]; exact HO.out) HSm.out
            obtain ⟨rfl, rfl⟩ : A' = A2 ∧ cap' = c2 := by injection e2 with e1 e2 e3; exact ⟨e1, e3⟩
            rw [HL.out] at hI hfr
            have hb1 := But.set b 1 wr (.bool true)
            refine ⟨A', m, cap', rfl, ?_, hfr, ?_, HK.out.trans hb1⟩
            · rw [← HR.out, TT.out]
              exact hI.but hb1 (fun h0 g off e => by have := hfr h0 g off e; omega)
            · rw [← HR.out, TT.out]
              have := HH.out.set 1 (.bool true)
              rw [HL.out, hnm]; exact this
          | false =>
            have TT : Hid (T = (l, q, false)) := Lib.hid (by rw [← HF.out]; exact esF_stop (by rw [HL.out]; omega))
            clear HF HQ
            go_wp2_with fail
            go_ret
            obtain ⟨A2, c2, e2, hI, hfr⟩ := ents_of (w := wr) (v := .slice A' m cap') (by rw [HL.out]; exact HO.out) HSm.out
            obtain ⟨rfl, rfl⟩ : A' = A2 ∧ cap' = c2 := by injection e2 with e1 e2 e3; exact ⟨e1, e3⟩
            rw [HL.out] at hI hfr
            have hb1 := But.set b 1 wr (.bool false)
            refine ⟨A', m, cap', rfl, ?_, hfr, ?_, HK.out.trans hb1⟩
            · rw [← HR.out, TT.out]
              exact hI.but hb1 (fun h0 g off e => by have := hfr h0 g off e; omega)
            · rw [← HR.out, TT.out]
              have := HH.out.set 1 (.bool false)
              rw [HL.out, hnm]; exact this
      · have hle2 : 17 < n := by omega
        by_cases hm17 : m < 17
        · have hm17i : (m : Int) < 17 := by omega
          have hmn : (m : Int) < n := by omega
          obtain ⟨x, q2, er, hd, her, hF2, hsx, hq2⟩ := esF_more HF.out HL.out hmn hm17
          have CD := fun w => decode_any (bs q) (by rw [bs_size]; have := HQ.out; omega) w
          rw [bs_data, hd] at CD
          have HF2 := Lib.hid hF2
          have HSx := Lib.hid hsx
          have HQ2 : Hid (q2.length ≤ r2.length) := Lib.hid (by have := HQ.out; omega)
          have HX := Lib.hid (rfl : x = x)
          have hrow : Hid (flatE (l ++ [x]) = flatE l ++ x.row.toList) := Lib.hid (by rw [flatE_append]; simp [flatE])
          clear hF2 hsx hq2 hd HF HX
          obtain ⟨X, hXe⟩ : ∃ X, X = x := ⟨_, rfl⟩
          rw [← hXe] at HF2 HSx hrow
          have HXe := Lib.hid hXe
          clear hXe
          obtain ⟨k, c, e, n', lsn, p, pg, sl, wu, wd, iu, ix, nx⟩ := x
          simp only [Ent.val, Ent.row] at CD
          replace CD := Lib.hid CD
          rcases her with rfl | rfl
          · skip
            go_wp2_with fail
            refine (CD.out _).mono ?_
            rintro e' w2 ⟨rfl, b1⟩
            have E3 := Lib.hid (Has.new w2 (.cells #[.int .i64 k, .int .i64 c, .int .i64 e, .int .i64 n', .int .i64 lsn, .int .i64 p, .int .i64 pg, .int .i64 sl, .bool wu, .string wd, .bool iu, .string ix, .int .i64 nx] 64))
            have B3 := Lib.hid (bup b1 (bnew w2 (.cells #[.int .i64 k, .int .i64 c, .int .i64 e, .int .i64 n', .int .i64 lsn, .int .i64 p, .int .i64 pg, .int .i64 sl, .bool wu, .string wd, .bool iu, .string ix, .int .i64 nx] 64)))
            have hne : w2.heap.size ≠ b := by have := b1.size; omega
            clear b1 CD h0 h1 hf0 hf1
            go_upto_region 5 with (fail)
            generalize World.alloc w2 _ = w3 at E3 B3 ⊢
            have H3 := Lib.hid (HH.out.below B3.out)
            have h0 := H3.out.cell 0 _ rfl
            have h1 := H3.out.cell 1 _ rfl
            have hf0 := H3.out.free 0
            have hf1 := H3.out.free 1
            have hb3 := H3.out.lt
            go_upto_region 6 with (fail)
            clear h0 h1 hf0 hf1
            generalize hW : World.setCell (World.setCell w3 _ _) _ _ = w4
            have K4 : Hid (But b w3 w4) := Lib.hid (by rw [← hW]; exact (But.set b 0 w3 _).trans (But.set b 1 _ _))
            have H4 := by
              have := (H3.out.set 0 (.string (bs q2))).set 1 (.bool false)
              exact this
            have H4 : Hid (Has w4 b (.cells #[.string (bs q2), .bool false] 52)) := Lib.hid (by rw [← hW]; exact H4)
            clear hW
            have E4 := Lib.hid (E3.out.but K4.out hne)
            have O4 : Hid (w4.ownsRow w.heap.size 64 13 (.slice A' m cap') m (flatE l)) := Lib.hid (ownsRow_other (ownsRow_below HO.out B3.out) K4.out.grown (fun g hg e => by
              have := (World.ownsRow.lt HO.out g hg).1
              injection e with e; omega))
            have hb4 : w.heap.size ≤ w4.heap.size := Nat.le_trans HK.out.size (Nat.le_trans B3.out.size K4.out.size)
            have KK : Hid (But b w w4) := Lib.hid ((HK.out.after B3.out).trans K4.out)
            obtain ⟨c0, c1, c2, c3, c4, c5, c6, c7, c8, c9, c10, c11, c12⟩ := EntAt.of E4.out
            go_wp2_with (at_builtin; refine grow_new entElem rfl (.tmp 40) (.tmp 42) rfl w.heap.size w4 (.slice A' m cap') m (flatE l) rfl O4.out 1 #[.int .i64 k, .int .i64 c, .int .i64 e, .int .i64 n', .int .i64 lsn, .int .i64 p, .int .i64 pg, .int .i64 sl, .bool wu, .string wd, .bool iu, .string ix, .int .i64 nx] rfl rfl (by simp [Value.oneCell']) (by omega) (by omega) hb4 ?_; intro v7 w7 R7 g7 b7; obtain ⟨A7, cap7, rfl, h71, h72⟩ := ownsRow_form R7; have R7' := Lib.hid R7; have B7 := Lib.hid b7; clear R7 g7 b7)
            clear c0 c1 c2 c3 c4 c5 c6 c7 c8 c9 c10 c11 c12
            have hl2 : Hid ((l ++ [X]).length = m + 1) := Lib.hid (by rw [List.length_append, HL.out]; rfl)
            have hro : Hid (w7.ownsRow w.heap.size 64 13 (.slice A7 (m + 1) cap7) (m + 1) (flatE (l ++ [X]))) := Lib.hid (by rw [hrow.out, HXe.out]; exact R7'.out)
            have hsm : Hid (∀ y ∈ l ++ [X], smallE y) := Lib.hid (fun y hy => by
              rcases List.mem_append.1 hy with h | h
              · exact HSm.out y h
              · simp at h; subst h; exact HSx.out)
            have hh7 := Lib.hid (Has.low H4.out B7.out hbl)
            have hk7 := Lib.hid (KK.out.up B7.out)
            go_roundw
            case rel => exact ⟨l ++ [X], m + 1, q2, _, A7, cap7, rfl, by omega, h71, h72, hl2, HQ2, HF2, hro, hsm, hh7, hk7⟩
            case measure => simp [sliceLenN]; omega
          · skip
            go_wp2_with fail
            refine (CD.out _).mono ?_
            rintro e' w2 ⟨rfl, b1⟩
            have E3 := Lib.hid (Has.new w2 (.cells #[.int .i64 k, .int .i64 c, .int .i64 e, .int .i64 n', .int .i64 lsn, .int .i64 p, .int .i64 pg, .int .i64 sl, .bool wu, .string wd, .bool iu, .string ix, .int .i64 nx] 64))
            have B3 := Lib.hid (bup b1 (bnew w2 (.cells #[.int .i64 k, .int .i64 c, .int .i64 e, .int .i64 n', .int .i64 lsn, .int .i64 p, .int .i64 pg, .int .i64 sl, .bool wu, .string wd, .bool iu, .string ix, .int .i64 nx] 64)))
            have hne : w2.heap.size ≠ b := by have := b1.size; omega
            clear b1 CD h0 h1 hf0 hf1
            go_upto_region 5 with (fail)
            generalize World.alloc w2 _ = w3 at E3 B3 ⊢
            have H3 := Lib.hid (HH.out.below B3.out)
            have h0 := H3.out.cell 0 _ rfl
            have h1 := H3.out.cell 1 _ rfl
            have hf0 := H3.out.free 0
            have hf1 := H3.out.free 1
            have hb3 := H3.out.lt
            go_upto_region 6 with (fail)
            clear h0 h1 hf0 hf1
            generalize hW : World.setCell (World.setCell w3 _ _) _ _ = w4
            have K4 : Hid (But b w3 w4) := Lib.hid (by rw [← hW]; exact (But.set b 0 w3 _).trans (But.set b 1 _ _))
            have H4 := by
              have := (H3.out.set 0 (.string (bs q2))).set 1 (.bool true)
              exact this
            have H4 : Hid (Has w4 b (.cells #[.string (bs q2), .bool true] 52)) := Lib.hid (by rw [← hW]; exact H4)
            clear hW
            have E4 := Lib.hid (E3.out.but K4.out hne)
            have O4 : Hid (w4.ownsRow w.heap.size 64 13 (.slice A' m cap') m (flatE l)) := Lib.hid (ownsRow_other (ownsRow_below HO.out B3.out) K4.out.grown (fun g hg e => by
              have := (World.ownsRow.lt HO.out g hg).1
              injection e with e; omega))
            have hb4 : w.heap.size ≤ w4.heap.size := Nat.le_trans HK.out.size (Nat.le_trans B3.out.size K4.out.size)
            have KK : Hid (But b w w4) := Lib.hid ((HK.out.after B3.out).trans K4.out)
            obtain ⟨c0, c1, c2, c3, c4, c5, c6, c7, c8, c9, c10, c11, c12⟩ := EntAt.of E4.out
            go_wp2_with (at_builtin; refine grow_new entElem rfl (.tmp 40) (.tmp 42) rfl w.heap.size w4 (.slice A' m cap') m (flatE l) rfl O4.out 1 #[.int .i64 k, .int .i64 c, .int .i64 e, .int .i64 n', .int .i64 lsn, .int .i64 p, .int .i64 pg, .int .i64 sl, .bool wu, .string wd, .bool iu, .string ix, .int .i64 nx] rfl rfl (by simp [Value.oneCell']) (by omega) (by omega) hb4 ?_; intro v7 w7 R7 g7 b7; obtain ⟨A7, cap7, rfl, h71, h72⟩ := ownsRow_form R7; have R7' := Lib.hid R7; have B7 := Lib.hid b7; clear R7 g7 b7)
            clear c0 c1 c2 c3 c4 c5 c6 c7 c8 c9 c10 c11 c12
            have hl2 : Hid ((l ++ [X]).length = m + 1) := Lib.hid (by rw [List.length_append, HL.out]; rfl)
            have hro : Hid (w7.ownsRow w.heap.size 64 13 (.slice A7 (m + 1) cap7) (m + 1) (flatE (l ++ [X]))) := Lib.hid (by rw [hrow.out, HXe.out]; exact R7'.out)
            have hsm : Hid (∀ y ∈ l ++ [X], smallE y) := Lib.hid (fun y hy => by
              rcases List.mem_append.1 hy with h | h
              · exact HSm.out y h
              · simp at h; subst h; exact HSx.out)
            have hh7 := Lib.hid (Has.low H4.out B7.out hbl)
            have hk7 := Lib.hid (KK.out.up B7.out)
            go_roundw
            case rel => exact ⟨l ++ [X], m + 1, q2, _, A7, cap7, rfl, by omega, h71, h72, hl2, HQ2, HF2, hro, hsm, hh7, hk7⟩
            case measure => simp [sliceLenN]; omega
        · skip
          have hm172 : (17 : Int) ≤ (m : Int) := by omega
          have hnm : (n != (m : Int)) = true := by simp [bne]; omega
          have TT : Hid (T = (l, q, false)) := Lib.hid (by rw [← HF.out]; exact esF_stop (by rw [HL.out]; omega))
          clear HF HQ
          go_wp2_with fail
          go_ret
          obtain ⟨A2, c2, e2, hI, hfr⟩ := ents_of (w := wr) (v := .slice A' m cap') (by rw [HL.out]; exact HO.out) HSm.out
          obtain ⟨rfl, rfl⟩ : A' = A2 ∧ cap' = c2 := by injection e2 with e1 e2 e3; exact ⟨e1, e3⟩
          rw [HL.out] at hI hfr
          have hb1 := But.set b 1 wr (.bool true)
          refine ⟨A', m, cap', rfl, ?_, hfr, ?_, HK.out.trans hb1⟩
          · rw [← HR.out, TT.out]
            exact hI.but hb1 (fun h0 g off e => by have := hfr h0 g off e; omega)
          · rw [← HR.out, TT.out]
            have := HH.out.set 1 (.bool true)
            rw [HL.out, hnm]; exact this
end Go.Proofs.Ytakdagmkkelnfaa
