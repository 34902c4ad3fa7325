/-
  A row of texts is the beginning of another one; a datagram comes.
-/
import Derived.Test.YtgabonacpoimfaaTkRes
import Derived.Deep.RegionHeld3
namespace Go.Proofs.Ytgabonacpoimfaa
open Go.RowKit
set_option linter.unusedVariables false
set_option linter.unusedSimpArgs false

theorem SRow.front {w : World} {A : Option Addr} {n cap : Nat} {q : List ByteArray} (h : SRow w (.slice A n cap) q) {k : Nat} (hk : k ≤ n) (hn : n = q.length) : SRow w (.slice A k cap) (q.take k) := by
  rcases h with ⟨e, rfl⟩ | ⟨g, off, cap', cur, e, hg, h1, h2, h3, h4⟩
  · injection e with e1 e2 e3
    subst e1 e3
    have : k = 0 := by simp at hn; omega
    subst this
    exact .inl ⟨rfl, by simp⟩
  · injection e with e1 e2 e3
    subst e1 e3
    have hl : (q.take k).length = k := by rw [List.length_take]; omega
    refine .inr ⟨g, off, cap, cur, by rw [hl], hg, by rw [hl]; omega, h2, h3, fun i s hi => ?_⟩
    rw [List.getElem?_take] at hi
    split at hi
    · exact h4 i s hi
    · cases hi
set_option maxRecDepth 100000 in
set_option maxHeartbeats 2000000 in
theorem begins_any (A B : Option Addr) (n c1 m c2 : Nat) (q1 q2 : List ByteArray) (w : World) (h1 : SRow w (.slice A n c1) q1) (h2 : SRow w (.slice B m c2) q2) (hn : n = q1.length) (hm : m = q2.length) (hle : n ≤ m) (hq : q1 = q2.take n) (hmc : m ≤ c2) (hc : c2 ≤ 9223372036854775807) :
    Calls Try.prog 30 #[.slice A n c1, .slice B m c2] w fun e w' => e = .returned (.bool true) ∧ Below w.heap.size w w' := by
  have H2 := Lib.hid (h2.front hle hm)
  rw [← hq] at H2
  have CT := Lib.hid (fun w' (b : Below w.heap.size w w') => texts_any A B n c1 c2 q1 w' (h1.below b) (H2.out.below b) hn (by omega))
  clear h1 h2 hn hm hq
  go_enter Try.func30, Try.ntmps30
  go_wp2_with fail
  refine (CT.out _ (Below.refl _ _)).mono ?_
  rintro e w1 ⟨rfl, b1⟩
  go_wp2_with fail
  go_ret
  exact ⟨rfl, b1⟩
def comesT (x : Tk) (s : Sn) : Tk × Bool :=
  if s.first then ({ x with b := (takeE x.b s.g).1, atB := x.atB ++ (takeE x.b s.g).2.1 }, (takeE x.b s.g).2.2 == 0)
  else ({ x with a := (takeE x.a s.g).1, atA := x.atA ++ (takeE x.a s.g).2.1 }, (takeE x.a s.g).2.2 == 0)
def ComesPost (F : Nat → Prop) (t : Nat) (V : Tv) (r : Tk × Bool) (w : World) (e : Ending) (w' : World) : Prop := ∃ V', e = .returned (.bool r.2) ∧ Held F (TkR t V' r.1) w' ∧ KeptF F w w' ∧ V'.v6 = V.v6
set_option maxRecDepth 100000 in
set_option maxHeartbeats 4000000 in
theorem comes_first {F : Nat → Prop} {t : Nat} {V : Tv} {x : Tk} (s : Sn) (w : World) (hx : s.first = true) (hok : x.b.ok) (hg : x.b.gv ≤ 1000000) (ht : x.b.tk ≤ 1000000) (hl : (comesT x s).1.atB.length ≤ 1000000000) (H : Held F (TkR t V x) w) :
    Calls Try.prog 25 #[.pointer (some ⟨t, 0, none⟩), s.val] w (ComesPost F t V (comesT x s) w) := by
  obtain ⟨⟨c, up, ep, sq, ak, bd⟩, f⟩ := s
  simp only at hx
  subst hx
  obtain ⟨R, hR⟩ : ∃ R, takeE x.b (⟨c, up, ep, sq, ak, bd⟩ : Gr) = R := ⟨_, rfl⟩
  have hC : comesT x ⟨⟨c, up, ep, sq, ak, bd⟩, true⟩ = ({ x with b := R.1, atB := x.atB ++ R.2.1 }, R.2.2 == 0) := by rw [← hR]; rfl
  rw [hC] at hl ⊢
  simp only at hl
  have hl : x.atB.length + R.2.1.length ≤ 1000000000 := by rwa [List.length_append] at hl
  simp only [Sn.val, Sn.row]
  obtain ⟨pa, pb, v2, v3, v4, v5, v6⟩ := V
  have HH := Lib.hid H
  clear H hC
  go_enter Try.func25, Try.ntmps25
  go_upto_region 2 with (fail)
  have Y := Lib.hid (Has.new w (.cells #[.int .i64 c, .bool up, .int .i64 ep, .int .i64 sq, .int .i64 ak, .string bd, .bool true] 58))
  have HA0 := Lib.hid (HH.out.more (TkR.good _ _ _) (G := fun j => F j ∨ j = w.heap.size) (bnew w (.cells #[.int .i64 c, .bool up, .int .i64 ep, .int .i64 sq, .int .i64 ak, .string bd, .bool true] 58)) (fun j hj => hj.imp id (fun e => by subst e; simp)))
  have BA := Lib.hid (bnew w (.cells #[.int .i64 c, .bool up, .int .i64 ep, .int .i64 sq, .int .i64 ak, .string bd, .bool true] 58))
  generalize World.alloc w _ = w1 at Y HA0 BA ⊢
  obtain ⟨F1, hF1⟩ : ∃ F1 : Nat → Prop, F1 = fun j => F j ∨ j = w.heap.size := ⟨_, rfl⟩
  rw [← hF1] at HA0
  have HA := HA0
  have HFF : Hid (∀ j, F j → F1 j) := Lib.hid (fun j h => by rw [hF1]; exact .inl h)
  have hFy : F1 w.heap.size := by rw [hF1]; exact .inr rfl
  clear HA0 hF1
  have HKS : Hid (∀ (w' : World) (G : Nat → Prop) (x' : Tk), Held G (TkR t ⟨pa, pb, v2, v3, v4, v5, v6⟩ x') w' → KeptF F1 w1 w' → (fun w' => w'.cell? ⟨t, 1, none⟩ = some (.pointer (some ⟨pb, 0, none⟩)) ∧ w'.cell? ⟨w.heap.size, 0, none⟩ = some (.int .i64 c) ∧ w'.cell? ⟨w.heap.size, 1, none⟩ = some (.bool up) ∧ w'.cell? ⟨w.heap.size, 2, none⟩ = some (.int .i64 ep) ∧ w'.cell? ⟨w.heap.size, 3, none⟩ = some (.int .i64 sq) ∧ w'.cell? ⟨w.heap.size, 4, none⟩ = some (.int .i64 ak) ∧ w'.cell? ⟨w.heap.size, 5, none⟩ = some (.string bd)) w') := Lib.hid (fun w' G x' h k => ⟨(TkR.blk h).cell 1 _ rfl, (Y.out.keptF k hFy).cell 0 _ rfl, (Y.out.keptF k hFy).cell 1 _ rfl, (Y.out.keptF k hFy).cell 2 _ rfl, (Y.out.keptF k hFy).cell 3 _ rfl, (Y.out.keptF k hFy).cell 4 _ rfl, (Y.out.keptF k hFy).cell 5 _ rfl⟩)
  have CT : Hid (∀ w', Below w1.heap.size w1 w' → Calls Try.prog 17 #[.pointer (some ⟨pb, 0, none⟩), .agg #[.int .i64 c, .bool up, .int .i64 ep, .int .i64 sq, .int .i64 ak, .string bd]] w' fun e w'' => ∃ A cap, e = .returned (.tuple #[.slice A R.2.1.length cap, .int .i64 R.2.2]) ∧ SRow w'' (.slice A R.2.1.length cap) R.2.1 ∧ Held (fun j => F1 j ∨ (Value.slice A R.2.1.length cap).ownBlock = some j) (TkR t ⟨pa, pb, v2, v3, v4, v5, v6⟩ { x with b := R.1 }) w'' ∧ KeptF F1 w' w'') := Lib.hid (fun w' b => by
    have := takeH (TkendB.good t ⟨pa, pb, v2, v3, v4, v5, v6⟩ x) pb x.b ⟨c, up, ep, sq, ak, bd⟩ w' hok hg ht (TkR.endB (HA.out.below (TkR.good _ _ _) b))
    rw [hR] at this
    exact this.mono (fun e w'' ⟨A, cap, a, b, _, d, f⟩ => ⟨A, cap, a, b, TkR.endB_back d, f⟩))
  clear hR
  go_region_held3 (fun w' => w'.cell? ⟨t, 1, none⟩ = some (.pointer (some ⟨pb, 0, none⟩)) ∧ w'.cell? ⟨w.heap.size, 0, none⟩ = some (.int .i64 c) ∧ w'.cell? ⟨w.heap.size, 1, none⟩ = some (.bool up) ∧ w'.cell? ⟨w.heap.size, 2, none⟩ = some (.int .i64 ep) ∧ w'.cell? ⟨w.heap.size, 3, none⟩ = some (.int .i64 sq) ∧ w'.cell? ⟨w.heap.size, 4, none⟩ = some (.int .i64 ak) ∧ w'.cell? ⟨w.heap.size, 5, none⟩ = some (.string bd))
    ((first | exact HKS.out _ _ _ HT.out HK.out | exact HKS.out _ _ _ (HA.out.below (TkR.good _ _ _) ((Below.refl _ _).drew)) (Kept.of ((Below.refl _ _).drew))))
    ((go_at_call 17; ((with_reducible refine (CT.out _ ((Below.refl _ _).drew)).mono ?_)); rintro e w2 ⟨A, cap, rfl, hr, hT, hk⟩; have HT := Lib.hid hT; have HR := Lib.hid hr; have HK : Hid (KeptF F1 w1 w2) := Lib.hid ((Kept.of ((Below.refl _ _).drew)).trans hk); clear hr hT hk))
  have q5 : w2.cell? ⟨t, 5, none⟩ = some v5 := (TkR.blk HT.out).cell 5 _ rfl
  have HM := Lib.hid (fun w' v' q' hr hg hf => TkR.atB_more HT.out (w' := w') (v' := v') (q' := q') hr hg hf)
  have HS := Lib.hid (TkR.atB HT.out)
  obtain ⟨er, her⟩ : ∃ er, R.2.2 = er := ⟨_, rfl⟩
  rw [her]
  go_wp2_with (at_builtin; refine wpList_srow_append rfl (.tmp 25) (.tmp 26) rfl _ v5 x.atB rfl HS.out _ rfl R.2.1 (Src.row HR.out) hl ?_; intro v7 w7 R7 g7 f7; have P7 := (HM.out w7 v7 _ R7 g7 f7).1; have p75 : w7.cell? ⟨t, 5, none⟩ = some v5 := P7.cell 5 _ rfl; have pf75 := P7.free 5; have hpl7 := P7.lt; have HN := Lib.hid (HM.out w7 v7 _ R7 g7 f7).2; obtain ⟨A7, cap7, rfl, h71, h72⟩ := R7.form; clear R7 g7 f7 P7)
  go_ret
  rw [← List.length_append]
  subst her
  refine ⟨_, rfl, HN.out.1.less (fun j h => .inl (HFF.out j h)), ?_, rfl⟩
  have k1 : KeptF F w w1 := Kept.of BA.out
  have k2 : KeptF F w1 w2 := HK.out.mono (fun j h1 h2 => h1 (HFF.out j h2))
  exact (k1.trans k2).trans (HN.out.2.mono (fun j h1 h2 => h1 (.inl (HFF.out j h2))))
set_option maxRecDepth 100000 in
set_option maxHeartbeats 4000000 in
theorem comes_second {F : Nat → Prop} {t : Nat} {V : Tv} {x : Tk} (s : Sn) (w : World) (hx : s.first = false) (hok : x.a.ok) (hg : x.a.gv ≤ 1000000) (ht : x.a.tk ≤ 1000000) (hl : (comesT x s).1.atA.length ≤ 1000000000) (H : Held F (TkR t V x) w) :
    Calls Try.prog 25 #[.pointer (some ⟨t, 0, none⟩), s.val] w (ComesPost F t V (comesT x s) w) := by
  obtain ⟨⟨c, up, ep, sq, ak, bd⟩, f⟩ := s
  simp only at hx
  subst hx
  obtain ⟨R, hR⟩ : ∃ R, takeE x.a (⟨c, up, ep, sq, ak, bd⟩ : Gr) = R := ⟨_, rfl⟩
  have hC : comesT x ⟨⟨c, up, ep, sq, ak, bd⟩, false⟩ = ({ x with a := R.1, atA := x.atA ++ R.2.1 }, R.2.2 == 0) := by rw [← hR]; rfl
  rw [hC] at hl ⊢
  simp only at hl
  have hl : x.atA.length + R.2.1.length ≤ 1000000000 := by rwa [List.length_append] at hl
  simp only [Sn.val, Sn.row]
  obtain ⟨pa, pb, v2, v3, v4, v5, v6⟩ := V
  have HH := Lib.hid H
  clear H hC
  go_enter Try.func25, Try.ntmps25
  go_upto_region 5 with (fail)
  have Y := Lib.hid (Has.new w (.cells #[.int .i64 c, .bool up, .int .i64 ep, .int .i64 sq, .int .i64 ak, .string bd, .bool false] 58))
  have HA0 := Lib.hid (HH.out.more (TkR.good _ _ _) (G := fun j => F j ∨ j = w.heap.size) (bnew w (.cells #[.int .i64 c, .bool up, .int .i64 ep, .int .i64 sq, .int .i64 ak, .string bd, .bool false] 58)) (fun j hj => hj.imp id (fun e => by subst e; simp)))
  have BA := Lib.hid (bnew w (.cells #[.int .i64 c, .bool up, .int .i64 ep, .int .i64 sq, .int .i64 ak, .string bd, .bool false] 58))
  generalize World.alloc w _ = w1 at Y HA0 BA ⊢
  obtain ⟨F1, hF1⟩ : ∃ F1 : Nat → Prop, F1 = fun j => F j ∨ j = w.heap.size := ⟨_, rfl⟩
  rw [← hF1] at HA0
  have HA := HA0
  have HFF : Hid (∀ j, F j → F1 j) := Lib.hid (fun j h => by rw [hF1]; exact .inl h)
  have hFy : F1 w.heap.size := by rw [hF1]; exact .inr rfl
  clear HA0 hF1
  have HKS : Hid (∀ (w' : World) (G : Nat → Prop) (x' : Tk), Held G (TkR t ⟨pa, pb, v2, v3, v4, v5, v6⟩ x') w' → KeptF F1 w1 w' → (fun w' => w'.cell? ⟨t, 0, none⟩ = some (.pointer (some ⟨pa, 0, none⟩)) ∧ w'.cell? ⟨w.heap.size, 0, none⟩ = some (.int .i64 c) ∧ w'.cell? ⟨w.heap.size, 1, none⟩ = some (.bool up) ∧ w'.cell? ⟨w.heap.size, 2, none⟩ = some (.int .i64 ep) ∧ w'.cell? ⟨w.heap.size, 3, none⟩ = some (.int .i64 sq) ∧ w'.cell? ⟨w.heap.size, 4, none⟩ = some (.int .i64 ak) ∧ w'.cell? ⟨w.heap.size, 5, none⟩ = some (.string bd)) w') := Lib.hid (fun w' G x' h k => ⟨(TkR.blk h).cell 0 _ rfl, (Y.out.keptF k hFy).cell 0 _ rfl, (Y.out.keptF k hFy).cell 1 _ rfl, (Y.out.keptF k hFy).cell 2 _ rfl, (Y.out.keptF k hFy).cell 3 _ rfl, (Y.out.keptF k hFy).cell 4 _ rfl, (Y.out.keptF k hFy).cell 5 _ rfl⟩)
  have CT : Hid (∀ w', Below w1.heap.size w1 w' → Calls Try.prog 17 #[.pointer (some ⟨pa, 0, none⟩), .agg #[.int .i64 c, .bool up, .int .i64 ep, .int .i64 sq, .int .i64 ak, .string bd]] w' fun e w'' => ∃ A cap, e = .returned (.tuple #[.slice A R.2.1.length cap, .int .i64 R.2.2]) ∧ SRow w'' (.slice A R.2.1.length cap) R.2.1 ∧ Held (fun j => F1 j ∨ (Value.slice A R.2.1.length cap).ownBlock = some j) (TkR t ⟨pa, pb, v2, v3, v4, v5, v6⟩ { x with a := R.1 }) w'' ∧ KeptF F1 w' w'') := Lib.hid (fun w' b => by
    have := takeH (TkendA.good t ⟨pa, pb, v2, v3, v4, v5, v6⟩ x) pa x.a ⟨c, up, ep, sq, ak, bd⟩ w' hok hg ht (TkR.endA (HA.out.below (TkR.good _ _ _) b))
    rw [hR] at this
    exact this.mono (fun e w'' ⟨A, cap, a, b, _, d, f⟩ => ⟨A, cap, a, b, TkR.endA_back d, f⟩))
  clear hR
  go_region_held3 (fun w' => w'.cell? ⟨t, 0, none⟩ = some (.pointer (some ⟨pa, 0, none⟩)) ∧ w'.cell? ⟨w.heap.size, 0, none⟩ = some (.int .i64 c) ∧ w'.cell? ⟨w.heap.size, 1, none⟩ = some (.bool up) ∧ w'.cell? ⟨w.heap.size, 2, none⟩ = some (.int .i64 ep) ∧ w'.cell? ⟨w.heap.size, 3, none⟩ = some (.int .i64 sq) ∧ w'.cell? ⟨w.heap.size, 4, none⟩ = some (.int .i64 ak) ∧ w'.cell? ⟨w.heap.size, 5, none⟩ = some (.string bd))
    ((first | exact HKS.out _ _ _ HT.out HK.out | exact HKS.out _ _ _ (HA.out.below (TkR.good _ _ _) ((Below.refl _ _).drew)) (Kept.of ((Below.refl _ _).drew))))
    ((go_at_call 17; ((with_reducible refine (CT.out _ ((Below.refl _ _).drew)).mono ?_)); rintro e w2 ⟨A, cap, rfl, hr, hT, hk⟩; have HT := Lib.hid hT; have HR := Lib.hid hr; have HK : Hid (KeptF F1 w1 w2) := Lib.hid ((Kept.of ((Below.refl _ _).drew)).trans hk); clear hr hT hk))
  have q5 : w2.cell? ⟨t, 4, none⟩ = some v4 := (TkR.blk HT.out).cell 4 _ rfl
  have HM := Lib.hid (fun w' v' q' hr hg hf => TkR.atA_more HT.out (w' := w') (v' := v') (q' := q') hr hg hf)
  have HS := Lib.hid (TkR.atA HT.out)
  obtain ⟨er, her⟩ : ∃ er, R.2.2 = er := ⟨_, rfl⟩
  rw [her]
  go_wp2_with (at_builtin; refine wpList_srow_append rfl (.tmp 46) (.tmp 47) rfl _ v4 x.atA rfl HS.out _ rfl R.2.1 (Src.row HR.out) hl ?_; intro v7 w7 R7 g7 f7; have P7 := (HM.out w7 v7 _ R7 g7 f7).1; have p75 : w7.cell? ⟨t, 4, none⟩ = some v4 := P7.cell 4 _ rfl; have pf75 := P7.free 4; have hpl7 := P7.lt; have HN := Lib.hid (HM.out w7 v7 _ R7 g7 f7).2; obtain ⟨A7, cap7, rfl, h71, h72⟩ := R7.form; clear R7 g7 f7 P7)
  go_ret
  rw [← List.length_append]
  subst her
  refine ⟨_, rfl, HN.out.1.less (fun j h => .inl (HFF.out j h)), ?_, rfl⟩
  have k1 : KeptF F w w1 := Kept.of BA.out
  have k2 : KeptF F w1 w2 := HK.out.mono (fun j h1 h2 => h1 (HFF.out j h2))
  exact (k1.trans k2).trans (HN.out.2.mono (fun j h1 h2 => h1 (.inl (HFF.out j h2))))
end Go.Proofs.Ytgabonacpoimfaa
