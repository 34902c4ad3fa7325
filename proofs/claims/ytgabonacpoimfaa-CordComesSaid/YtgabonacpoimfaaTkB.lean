/-
  An end of the talk sends.
-/
import Derived.Test.YtgabonacpoimfaaTkA
namespace Go.Proofs.Ytgabonacpoimfaa
open Go.RowKit
set_option linter.unusedVariables false
set_option linter.unusedSimpArgs false
def sndsOf (e : En) (f : Bool) : List Sn := (outG e).map (fun g => ⟨g, f⟩)
def sendsT (x : Tk) (f : Bool) : Tk × List Sn := if f then ({ x with a := outE x.a, pool := x.pool ++ sndsOf x.a true }, sndsOf x.a true) else ({ x with b := outE x.b, pool := x.pool ++ sndsOf x.b false }, sndsOf x.b false)
def SendsPost (F : Nat → Prop) (t : Nat) (r : Tk × List Sn) (w : World) (e : Ending) (w' : World) : Prop :=
  ∃ V' A cap, e = .returned (.slice A r.2.length cap) ∧ RowS w' (.slice A r.2.length cap) r.2 ∧ Held (fun j => F j ∨ (Value.slice A r.2.length cap).ownBlock = some j) (TkR t V' r.1) w' ∧ KeptF F w w'
theorem outG_len {e : En} (h : e.op.length ≤ 32) : (outG e).length ≤ 32 := by
  unfold outG
  split
  · rw [gramsF_len]; exact h
  · split <;> simp
theorem RowS.src {w : World} {A : Option Addr} {n cap : Nat} {q : List Sn} (h : RowS w (.slice A n cap) q) (hn : n = q.length) : (A = none ∧ n = 0) ∨ ∃ ad, A = some ad ∧ ∀ j u, (flatS q)[j]? = some u → w.cell? (ad.add j) = some u := by
  rcases h.2 with ⟨e, hq⟩ | ⟨g, cap', cur, e, _⟩
  · injection e with e1 e2 e3
    exact .inl ⟨e1, e2⟩
  · injection e with e1 e2 e3
    subst e1 e3
    exact .inr ⟨_, rfl, World.ownsRow.cells (g := g) h rfl⟩
set_option maxRecDepth 100000 in
set_option maxHeartbeats 4000000 in
theorem sends_first {F : Nat → Prop} {t : Nat} {V : Tv} {x : Tk} (w : World) (hok : x.a.ok) (hg : x.a.gv ≤ 1000000) (hl : x.pool.length ≤ 1000000) (H : Held F (TkR t V x) w) :
    Calls Try.prog 24 #[.pointer (some ⟨t, 0, none⟩), .bool true] w (SendsPost F t (sendsT x true) w) := by
  obtain ⟨G, hG⟩ : ∃ G, outG x.a = G := ⟨_, rfl⟩
  obtain ⟨S, hS⟩ : ∃ S, sndsOf x.a true = S := ⟨_, rfl⟩
  obtain ⟨n, hn⟩ : ∃ n, G.length = n := ⟨_, rfl⟩
  have hn32 : n ≤ 32 := by rw [← hn, ← hG]; exact outG_len hok.most
  have hSG : S = G.map (fun g => ⟨g, true⟩) := by rw [← hS, ← hG]; rfl
  have hSn : S.length = n := by rw [hSG, List.length_map, hn]
  have hC : sendsT x true = ({ x with a := outE x.a, pool := x.pool ++ S }, S) := by rw [← hS]; rfl
  rw [hC]
  obtain ⟨pn, hpn⟩ : ∃ pn, x.pool.length = pn := ⟨_, rfl⟩
  rw [hpn] at hl
  obtain ⟨pa, pb, v2, v3, v4, v5, v6⟩ := V
  have HH := Lib.hid H
  have HSN := Lib.hid hSn
  have HPN := Lib.hid hpn
  have q0 : w.cell? ⟨t, 0, none⟩ = some (.pointer (some ⟨pa, 0, none⟩)) := (TkR.blk H).cell 0 _ rfl
  have htl : t < w.heap.size := (TkR.blk H).lt
  have CO : Hid (∀ w', Below w.heap.size w w' → Calls Try.prog 15 #[.pointer (some ⟨pa, 0, none⟩)] w' fun e w'' => ∃ A cap, e = .returned (.slice A n cap) ∧ RowG 0 w'' (.slice A n cap) G ∧ Held (fun j => F j ∨ (Value.slice A n cap).ownBlock = some j) (TkR t ⟨pa, pb, v2, v3, v4, v5, v6⟩ { x with a := outE x.a }) w'' ∧ KeptF F w' w'') := Lib.hid (fun w' b => by
    have := outH (TkendA.good t ⟨pa, pb, v2, v3, v4, v5, v6⟩ x) pa x.a w' hok.op hg (TkR.endA (HH.out.below (TkR.good _ _ _) b))
    rw [hG, hn] at this
    exact this.mono (fun e w'' ⟨A, cap, a, b, _, d, f⟩ => ⟨A, cap, a, b, TkR.endA_back d, f⟩))
  have HGN := Lib.hid hn
  have HSG := Lib.hid hSG
  clear H hC hG hS hSG hSn hn hpn
  go_enter Try.func24, Try.ntmps24
  go_wp2_with fail
  refine (CO.out _ (bnew _ _)).mono ?_
  rintro e w2 ⟨A, cap, rfl, hr, hT, hk⟩
  obtain ⟨F1, hF1⟩ : ∃ F1 : Nat → Prop, F1 = fun j => F j ∨ (Value.slice A n cap).ownBlock = some j := ⟨_, rfl⟩
  rw [← hF1] at hT
  have HFF : Hid (∀ j, F j → F1 j) := Lib.hid (fun j h => by rw [hF1]; exact .inl h)
  have HFO : Hid (∀ j, (Value.slice A n cap).ownBlock = some j → F1 j) := Lib.hid (fun j h => by rw [hF1]; exact .inr h)
  have HT := Lib.hid hT
  have HK : Hid (KeptF F w w2) := Lib.hid ((Kept.of (bnew _ _)).trans hk)
  have HR := Lib.hid (fun (h0 : 0 < n) => RowG.there hr HGN.out.symm h0)
  have hncap : n ≤ cap ∧ cap ≤ 9223372036854775807 := by
    obtain ⟨_, _, e, h1, h2⟩ := RowG.form hr
    injection e with e1 e2 e3
    rw [HGN.out] at h1
    subst e3
    exact ⟨h1, h2⟩
  obtain ⟨hnc1, hnc2⟩ := hncap
  clear hT hk hr hF1 q0 htl CO
  have H2 : Hid (Held F1 (Star (SnR (.slice (some ⟨w2.heap.size, 0, none⟩) 0 0) []) (TkR t ⟨pa, pb, v2, v3, v4, v5, v6⟩ { x with a := outE x.a })) (w2.alloc (.cells #[] 58))) := Lib.hid (Held.newSn0 (TkR.good _ _ _) HT.out)
  have K2 : Hid (KeptF F1 w2 (w2.alloc (.cells #[] 58))) := Lib.hid (Kept.of (bnew _ _))
  go_wp2_with fail
  go_loopw [6, 7] (fun v i wr => ∃ (k : Nat) (A' : Option Addr) (cap' : Nat), k ≤ n ∧ k ≤ cap' ∧ cap' ≤ 9223372036854775807 ∧ v = .slice A' k cap' ∧ i = .int .i64 k ∧ Hid (Held F1 (Star (SnR (.slice A' k cap') (S.take k)) (TkR t ⟨pa, pb, v2, v3, v4, v5, v6⟩ { x with a := outE x.a })) wr) ∧ Hid (KeptF F1 w2 wr)) (fun _ i _ => n - (intOf i).toNat)
  case atStart => exact ⟨0, _, _, Nat.zero_le _, Nat.le_refl _, by omega, rfl, rfl, H2, K2⟩
  case round =>
    obtain ⟨k, A', cap', hk, hk1, hk2, rfl, rfl, HS, HKr⟩ := hrel
    clear H2 K2
    have HL : Hid ((S.take k).length = k) := Lib.hid (by rw [List.length_take, HSN.out]; omega)
    by_cases hlt : k < n
    · obtain ⟨g, rfl, hog, hgl, hgr⟩ := HR.out (by omega)
      obtain ⟨y, hy⟩ : ∃ y, G[k]? = some y := ⟨_, List.getElem?_eq_getElem (by rw [HGN.out]; exact hlt)⟩
      have hG0 := hgr k y hy
      have c : ∀ {o : Nat} {v : Value}, w2.cell? ⟨g, o, none⟩ = some v → wr.cell? ⟨g, o, none⟩ = some v := fun h => HKr.out.cell h (fun e => e (HFO.out g hog))
      have d0 := c hG0.a0
      have d1 := c hG0.a1
      have d2 := c hG0.a2
      have d3 := c hG0.a3
      have d4 := c hG0.a4
      have d5 := c hG0.a5
      have HTK : Hid (S.take (k + 1) = S.take k ++ [(⟨y, true⟩ : Sn)]) := Lib.hid (by
        rw [List.take_add_one, HSG.out, List.getElem?_map, hy]; rfl)
      have HW : Hid ((wr.alloc (.cells #[.int .i64 y.cl, .bool y.up, .int .i64 y.ep, .int .i64 y.sq, .int .i64 y.ak, .string y.bd, .bool true] 58)).ownsRow 0 58 7 (.slice A' k cap') k (flatS (S.take k))) := Lib.hid (by
        have h := HS.out.sn
        unfold RowS at h
        rw [HL.out] at h
        exact ownsRow_below h (bnew wr _))
      have HNew := Lib.hid (news_at (Has.new wr (.cells #[.int .i64 y.cl, .bool y.up, .int .i64 y.ep, .int .i64 y.sq, .int .i64 y.ak, .string y.bd, .bool true] 58)))
      clear hgr hy hG0 c
      go_wp2_with (at_builtin; refine grow_own snElem rfl (.tmp 27) (.tmp 34) rfl _ (.slice A' k cap') k (flatS (S.take k)) rfl HW.out (some ⟨wr.heap.size, 0, none⟩) 1 1 [.int .i64 y.cl, .bool y.up, .int .i64 y.ep, .int .i64 y.sq, .int .i64 y.ak, .string y.bd, .bool true] rfl rfl (.inr ⟨_, rfl, HNew.out⟩) (by simp [Value.oneCell']) (by omega) (by omega) ?_; intro v7 w7 R7 g7 f7; obtain ⟨A7, cap7, rfl, h71, h72⟩ := ownsRow_form R7; have R7' := Lib.hid R7; have g7' := Lib.hid g7; have f7' := Lib.hid f7; clear R7 g7 f7)
      have HM := Held.snMore (TkR.good _ _ _) (HS.out.below (Star.good (SnR.good _ _) (TkR.good _ _ _)) (bnew wr (.cells #[.int .i64 y.cl, .bool y.up, .int .i64 y.ep, .int .i64 y.sq, .int .i64 y.ak, .string y.bd, .bool true] 58))) (v' := .slice A7 (k + 1) cap7) (q' := S.take (k + 1)) (by
        rw [HTK.out]
        unfold RowS
        rw [List.length_append, HL.out, flatS_append]
        exact R7'.out) g7'.out f7'.out
      have H7 := Lib.hid HM.1
      have K7 : Hid (KeptF F1 w2 w7) := Lib.hid ((HKr.out.trans (Kept.of (bnew wr _))).trans HM.2)
      clear HM R7' g7' f7' HW HNew d0 d1 d2 d3 d4 d5
      go_roundw
      case rel => exact ⟨k + 1, A7, cap7, by omega, h71, h72, rfl, by go_num, H7, K7⟩
      case measure => simp [intOf]; omega
    · obtain rfl : k = n := by omega
      have HZ : Hid (S.take k = S) := Lib.hid (List.take_of_length_le (by rw [HSN.out]; omega))
      rw [HZ.out] at HS
      have HO := Lib.hid HS.out.sn
      have HF := Lib.hid (Held.snFree HS.out)
      have q6 : wr.cell? ⟨t, 6, none⟩ = some v6 := (TkR.blk HF.out).cell 6 _ rfl
      have HP : Hid (wr.ownsRow 0 58 7 v6 pn (flatS x.pool)) := Lib.hid (by
        have h := TkR.pool HF.out
        unfold RowS at h
        rwa [HPN.out] at h)
      have HSrc := Lib.hid (RowS.src HO.out HSN.out.symm)
      have HFL : Hid ((flatS S).length = k * 7) := Lib.hid (by rw [flatS_len, HSN.out])
      have HMore := Lib.hid (fun w' v' q' hr hg hf => TkR.pool_more HF.out (w' := w') (v' := v') (q' := q') hr hg hf)
      have HSV : Hid (∀ w' v', w'.ownsRow 0 58 7 v' (pn + k) (flatS x.pool ++ flatS S) → RowS w' v' (x.pool ++ S)) := Lib.hid (fun w' v' h => by
        unfold RowS
        rw [List.length_append, HPN.out, HSN.out, flatS_append]
        exact h)
      clear HS HZ HL hlt
      go_wp2_with (at_builtin; refine grow_own snElem rfl (.tmp 40) (.tmp 41) rfl _ v6 pn (flatS x.pool) rfl HP.out A' k cap' (flatS S) rfl HFL.out HSrc.out (flatS_one S) (by omega) (by omega) ?_; intro v7 w7 R7 g7 f7; have M7 := HMore.out w7 v7 _ (HSV.out _ _ R7) g7 f7; have p7 : w7.cell? ⟨t, 6, none⟩ = some v6 := M7.1.cell 6 _ rfl; have pf7 := M7.1.free 6; have hpl7 := M7.1.lt; have HN := Lib.hid M7.2; obtain ⟨A7, cap7, rfl, h71, h72⟩ := ownsRow_form R7; clear R7 g7 f7 M7)
      go_ret
      refine ⟨⟨pa, pb, v2, v3, v4, v5, .slice A7 (pn + k) cap7⟩, A', cap', by rw [HSN.out]; rfl, ?_, ?_, ?_⟩
      · rw [HSN.out]
        exact HO.out.held HN.out.2 (fun g e1 e2 => e2 (.inr e1))
      · rw [HSN.out]
        exact HN.out.1.less (fun j h => h.imp (HFF.out j) id)
      · exact (HK.out.trans (HKr.out.mono (fun j h1 h2 => h1 (HFF.out j h2)))).trans (HN.out.2.mono (fun j h1 h2 => h1 (.inl (HFF.out j h2))))
set_option maxRecDepth 100000 in
set_option maxHeartbeats 4000000 in
theorem sends_second {F : Nat → Prop} {t : Nat} {V : Tv} {x : Tk} (w : World) (hok : x.b.ok) (hg : x.b.gv ≤ 1000000) (hl : x.pool.length ≤ 1000000) (H : Held F (TkR t V x) w) :
    Calls Try.prog 24 #[.pointer (some ⟨t, 0, none⟩), .bool false] w (SendsPost F t (sendsT x false) w) := by
  obtain ⟨G, hG⟩ : ∃ G, outG x.b = G := ⟨_, rfl⟩
  obtain ⟨S, hS⟩ : ∃ S, sndsOf x.b false = S := ⟨_, rfl⟩
  obtain ⟨n, hn⟩ : ∃ n, G.length = n := ⟨_, rfl⟩
  have hn32 : n ≤ 32 := by rw [← hn, ← hG]; exact outG_len hok.most
  have hSG : S = G.map (fun g => ⟨g, false⟩) := by rw [← hS, ← hG]; rfl
  have hSn : S.length = n := by rw [hSG, List.length_map, hn]
  have hC : sendsT x false = ({ x with b := outE x.b, pool := x.pool ++ S }, S) := by rw [← hS]; rfl
  rw [hC]
  obtain ⟨pn, hpn⟩ : ∃ pn, x.pool.length = pn := ⟨_, rfl⟩
  rw [hpn] at hl
  obtain ⟨pa, pb, v2, v3, v4, v5, v6⟩ := V
  have HH := Lib.hid H
  have HSN := Lib.hid hSn
  have HPN := Lib.hid hpn
  have q0 : w.cell? ⟨t, 1, none⟩ = some (.pointer (some ⟨pb, 0, none⟩)) := (TkR.blk H).cell 1 _ rfl
  have htl : t < w.heap.size := (TkR.blk H).lt
  have CO : Hid (∀ w', Below w.heap.size w w' → Calls Try.prog 15 #[.pointer (some ⟨pb, 0, none⟩)] w' fun e w'' => ∃ A cap, e = .returned (.slice A n cap) ∧ RowG 0 w'' (.slice A n cap) G ∧ Held (fun j => F j ∨ (Value.slice A n cap).ownBlock = some j) (TkR t ⟨pa, pb, v2, v3, v4, v5, v6⟩ { x with b := outE x.b }) w'' ∧ KeptF F w' w'') := Lib.hid (fun w' b => by
    have := outH (TkendB.good t ⟨pa, pb, v2, v3, v4, v5, v6⟩ x) pb x.b w' hok.op hg (TkR.endB (HH.out.below (TkR.good _ _ _) b))
    rw [hG, hn] at this
    exact this.mono (fun e w'' ⟨A, cap, a, b, _, d, f⟩ => ⟨A, cap, a, b, TkR.endB_back d, f⟩))
  have HGN := Lib.hid hn
  have HSG := Lib.hid hSG
  clear H hC hG hS hSG hSn hn hpn
  go_enter Try.func24, Try.ntmps24
  go_wp2_with fail
  refine (CO.out _ (bnew _ _)).mono ?_
  rintro e w2 ⟨A, cap, rfl, hr, hT, hk⟩
  obtain ⟨F1, hF1⟩ : ∃ F1 : Nat → Prop, F1 = fun j => F j ∨ (Value.slice A n cap).ownBlock = some j := ⟨_, rfl⟩
  rw [← hF1] at hT
  have HFF : Hid (∀ j, F j → F1 j) := Lib.hid (fun j h => by rw [hF1]; exact .inl h)
  have HFO : Hid (∀ j, (Value.slice A n cap).ownBlock = some j → F1 j) := Lib.hid (fun j h => by rw [hF1]; exact .inr h)
  have HT := Lib.hid hT
  have HK : Hid (KeptF F w w2) := Lib.hid ((Kept.of (bnew _ _)).trans hk)
  have HR := Lib.hid (fun (h0 : 0 < n) => RowG.there hr HGN.out.symm h0)
  have hncap : n ≤ cap ∧ cap ≤ 9223372036854775807 := by
    obtain ⟨_, _, e, h1, h2⟩ := RowG.form hr
    injection e with e1 e2 e3
    rw [HGN.out] at h1
    subst e3
    exact ⟨h1, h2⟩
  obtain ⟨hnc1, hnc2⟩ := hncap
  clear hT hk hr hF1 q0 htl CO
  have H2 : Hid (Held F1 (Star (SnR (.slice (some ⟨w2.heap.size, 0, none⟩) 0 0) []) (TkR t ⟨pa, pb, v2, v3, v4, v5, v6⟩ { x with b := outE x.b })) (w2.alloc (.cells #[] 58))) := Lib.hid (Held.newSn0 (TkR.good _ _ _) HT.out)
  have K2 : Hid (KeptF F1 w2 (w2.alloc (.cells #[] 58))) := Lib.hid (Kept.of (bnew _ _))
  go_wp2_with fail
  go_loopw [6, 7] (fun v i wr => ∃ (k : Nat) (A' : Option Addr) (cap' : Nat), k ≤ n ∧ k ≤ cap' ∧ cap' ≤ 9223372036854775807 ∧ v = .slice A' k cap' ∧ i = .int .i64 k ∧ Hid (Held F1 (Star (SnR (.slice A' k cap') (S.take k)) (TkR t ⟨pa, pb, v2, v3, v4, v5, v6⟩ { x with b := outE x.b })) wr) ∧ Hid (KeptF F1 w2 wr)) (fun _ i _ => n - (intOf i).toNat)
  case atStart => exact ⟨0, _, _, Nat.zero_le _, Nat.le_refl _, by omega, rfl, rfl, H2, K2⟩
  case round =>
    obtain ⟨k, A', cap', hk, hk1, hk2, rfl, rfl, HS, HKr⟩ := hrel
    clear H2 K2
    have HL : Hid ((S.take k).length = k) := Lib.hid (by rw [List.length_take, HSN.out]; omega)
    by_cases hlt : k < n
    · obtain ⟨g, rfl, hog, hgl, hgr⟩ := HR.out (by omega)
      obtain ⟨y, hy⟩ : ∃ y, G[k]? = some y := ⟨_, List.getElem?_eq_getElem (by rw [HGN.out]; exact hlt)⟩
      have hG0 := hgr k y hy
      have c : ∀ {o : Nat} {v : Value}, w2.cell? ⟨g, o, none⟩ = some v → wr.cell? ⟨g, o, none⟩ = some v := fun h => HKr.out.cell h (fun e => e (HFO.out g hog))
      have d0 := c hG0.a0
      have d1 := c hG0.a1
      have d2 := c hG0.a2
      have d3 := c hG0.a3
      have d4 := c hG0.a4
      have d5 := c hG0.a5
      have HTK : Hid (S.take (k + 1) = S.take k ++ [(⟨y, false⟩ : Sn)]) := Lib.hid (by
        rw [List.take_add_one, HSG.out, List.getElem?_map, hy]; rfl)
      have HW : Hid ((wr.alloc (.cells #[.int .i64 y.cl, .bool y.up, .int .i64 y.ep, .int .i64 y.sq, .int .i64 y.ak, .string y.bd, .bool false] 58)).ownsRow 0 58 7 (.slice A' k cap') k (flatS (S.take k))) := Lib.hid (by
        have h := HS.out.sn
        unfold RowS at h
        rw [HL.out] at h
        exact ownsRow_below h (bnew wr _))
      have HNew := Lib.hid (news_at (Has.new wr (.cells #[.int .i64 y.cl, .bool y.up, .int .i64 y.ep, .int .i64 y.sq, .int .i64 y.ak, .string y.bd, .bool false] 58)))
      clear hgr hy hG0 c
      go_wp2_with (at_builtin; refine grow_own snElem rfl (.tmp 27) (.tmp 34) rfl _ (.slice A' k cap') k (flatS (S.take k)) rfl HW.out (some ⟨wr.heap.size, 0, none⟩) 1 1 [.int .i64 y.cl, .bool y.up, .int .i64 y.ep, .int .i64 y.sq, .int .i64 y.ak, .string y.bd, .bool false] rfl rfl (.inr ⟨_, rfl, HNew.out⟩) (by simp [Value.oneCell']) (by omega) (by omega) ?_; intro v7 w7 R7 g7 f7; obtain ⟨A7, cap7, rfl, h71, h72⟩ := ownsRow_form R7; have R7' := Lib.hid R7; have g7' := Lib.hid g7; have f7' := Lib.hid f7; clear R7 g7 f7)
      have HM := Held.snMore (TkR.good _ _ _) (HS.out.below (Star.good (SnR.good _ _) (TkR.good _ _ _)) (bnew wr (.cells #[.int .i64 y.cl, .bool y.up, .int .i64 y.ep, .int .i64 y.sq, .int .i64 y.ak, .string y.bd, .bool false] 58))) (v' := .slice A7 (k + 1) cap7) (q' := S.take (k + 1)) (by
        rw [HTK.out]
        unfold RowS
        rw [List.length_append, HL.out, flatS_append]
        exact R7'.out) g7'.out f7'.out
      have H7 := Lib.hid HM.1
      have K7 : Hid (KeptF F1 w2 w7) := Lib.hid ((HKr.out.trans (Kept.of (bnew wr _))).trans HM.2)
      clear HM R7' g7' f7' HW HNew d0 d1 d2 d3 d4 d5
      go_roundw
      case rel => exact ⟨k + 1, A7, cap7, by omega, h71, h72, rfl, by go_num, H7, K7⟩
      case measure => simp [intOf]; omega
    · obtain rfl : k = n := by omega
      have HZ : Hid (S.take k = S) := Lib.hid (List.take_of_length_le (by rw [HSN.out]; omega))
      rw [HZ.out] at HS
      have HO := Lib.hid HS.out.sn
      have HF := Lib.hid (Held.snFree HS.out)
      have q6 : wr.cell? ⟨t, 6, none⟩ = some v6 := (TkR.blk HF.out).cell 6 _ rfl
      have HP : Hid (wr.ownsRow 0 58 7 v6 pn (flatS x.pool)) := Lib.hid (by
        have h := TkR.pool HF.out
        unfold RowS at h
        rwa [HPN.out] at h)
      have HSrc := Lib.hid (RowS.src HO.out HSN.out.symm)
      have HFL : Hid ((flatS S).length = k * 7) := Lib.hid (by rw [flatS_len, HSN.out])
      have HMore := Lib.hid (fun w' v' q' hr hg hf => TkR.pool_more HF.out (w' := w') (v' := v') (q' := q') hr hg hf)
      have HSV : Hid (∀ w' v', w'.ownsRow 0 58 7 v' (pn + k) (flatS x.pool ++ flatS S) → RowS w' v' (x.pool ++ S)) := Lib.hid (fun w' v' h => by
        unfold RowS
        rw [List.length_append, HPN.out, HSN.out, flatS_append]
        exact h)
      clear HS HZ HL hlt
      go_wp2_with (at_builtin; refine grow_own snElem rfl (.tmp 40) (.tmp 41) rfl _ v6 pn (flatS x.pool) rfl HP.out A' k cap' (flatS S) rfl HFL.out HSrc.out (flatS_one S) (by omega) (by omega) ?_; intro v7 w7 R7 g7 f7; have M7 := HMore.out w7 v7 _ (HSV.out _ _ R7) g7 f7; have p7 : w7.cell? ⟨t, 6, none⟩ = some v6 := M7.1.cell 6 _ rfl; have pf7 := M7.1.free 6; have hpl7 := M7.1.lt; have HN := Lib.hid M7.2; obtain ⟨A7, cap7, rfl, h71, h72⟩ := ownsRow_form R7; clear R7 g7 f7 M7)
      go_ret
      refine ⟨⟨pa, pb, v2, v3, v4, v5, .slice A7 (pn + k) cap7⟩, A', cap', by rw [HSN.out]; rfl, ?_, ?_, ?_⟩
      · rw [HSN.out]
        exact HO.out.held HN.out.2 (fun g e1 e2 => e2 (.inr e1))
      · rw [HSN.out]
        exact HN.out.1.less (fun j h => h.imp (HFF.out j) id)
      · exact (HK.out.trans (HKr.out.mono (fun j h1 h2 => h1 (HFF.out j h2)))).trans (HN.out.2.mono (fun j h1 h2 => h1 (.inl (HFF.out j h2))))
end Go.Proofs.Ytgabonacpoimfaa
