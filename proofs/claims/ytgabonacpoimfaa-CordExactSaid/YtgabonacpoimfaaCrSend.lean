/-
  A text that the reference end is given.
-/
import Derived.Test.YtgabonacpoimfaaCrMem
namespace Go.Proofs.Ytgabonacpoimfaa
open Go.RowKit
set_option linter.unusedVariables false
set_option linter.unusedSimpArgs false
theorem rfOf_more {E : En} (h : E.op.length ≤ E.gv) (s : ByteArray) : (rfOf { E with op := E.op ++ [s], gv := E.gv + 1 }).L = (rfOf E).L ++ [(E.gv + 1, s)] := by
  show numF (E.gv + 1 - (E.op ++ [s]).length + 1) (E.op ++ [s]) = numF (E.gv - E.op.length + 1) E.op ++ _
  rw [numF_snoc, List.length_append, show E.gv + 1 - (E.op.length + [s].length) + 1 = E.gv - E.op.length + 1 by simp only [List.length_cons, List.length_nil]; omega, show E.gv - E.op.length + 1 + E.op.length = E.gv + 1 by omega]
section
variable {u : Nat} {rl re : Option Nat} {E : En} {w : World}
set_option maxRecDepth 100000 in
set_option maxHeartbeats 4000000 in
theorem rsend_any (h : RefAt w u rl re (rfOf E)) (s : ByteArray) (hok : E.ok) (hg : E.gv ≤ 1000000) :
    Calls Try.prog 12 #[.pointer (some ⟨u, 0, none⟩), .string s] w fun e w' => e = .returned (.int .i64 (sendE E s).2) ∧ RefOut u rl re (rfOf (sendE E s).1) w w' := by
  obtain ⟨A, cap, B, cbp, hp, hL, hvL, hE, hvE, ha1, ha2, hb1, hb2⟩ := h.open
  obtain ⟨R, hR⟩ : ∃ R, sendE E s = R := ⟨_, rfl⟩
  have hR' := hR
  unfold sendE at hR'
  rw [hR]
  have hlen : (rfOf E).L.length = E.op.length := numF_len _ _
  rw [hlen] at hp hL hvL ha1
  obtain ⟨n, hn⟩ : ∃ n, E.op.length = n := ⟨_, rfl⟩
  obtain ⟨gv, hgv⟩ : ∃ n, E.gv = n := ⟨_, rfl⟩
  have hop := hok.op
  rw [hn] at hp hL hvL ha1 hR' hop
  rw [hgv] at hg hop
  have HOP := Lib.hid hop
  have hp' : Has w u (.cells #[.int .i64 E.ep, .slice A n cap, .int .i64 (gv : Int), .int .i64 (E.gt : Int), .slice B E.ea.length cbp, .bool E.ow] 36) := by rw [← hgv]; exact hp
  have HE := Lib.hid h
  have HN := Lib.hid hn
  have HGV := Lib.hid hgv
  have HP := Lib.hid hp'
  have HL := Lib.hid hL
  have HEE := Lib.hid hE
  have HVL := Lib.hid hvL
  have HVE := Lib.hid hvE
  have p1 := hp'.cell 1 _ rfl
  have p2 := hp'.cell 2 _ rfl
  have pf2 := hp'.free 2
  have hpl := hp'.lt
  clear hok h hp hp' hL hE hvL hvE hR hn hgv hlen hb1 hb2 hop
  by_cases hs : 16384 < s.size
  · rw [if_pos hs] at hR'
    subst hR'
    go_enter Try.func12, Try.ntmps12
    go_wp2_with fail
    go_ret
    exact ⟨rfl, RefOut.same HE.out (Below.refl _ _)⟩
  · rw [if_neg hs] at hR'
    have hs' : s.size ≤ 16384 := by omega
    clear hs
    by_cases h32 : 32 ≤ n
    · rw [if_pos h32] at hR'
      subst hR'
      go_enter Try.func12, Try.ntmps12
      go_wp2_with fail
      go_ret
      exact ⟨rfl, RefOut.same HE.out (Below.refl _ _)⟩
    · rw [if_neg h32] at hR'
      subst hR'
      have h32' : n < 32 := by omega
      clear h32
      go_enter Try.func12, Try.ntmps12
      go_upto_region 8 with (fail)
      have P1 := Lib.hid (HP.out.set 2 (.int .i64 ((gv : Int) + 1)))
      have K1 := Lib.hid (But.set u 2 w (.int .i64 ((gv : Int) + 1)))
      have hlu : ∀ j, rl = some j → j ≠ u := fun j e1 e2 => HE.out.n1 (by rw [e1, e2])
      have heu : ∀ j, re = some j → j ≠ u := fun j e1 e2 => HE.out.n2 (by rw [e1, e2])
      have L1 := Lib.hid (HL.out.held (S := fun k => k = u) (Kept.but K1.out rfl) (fun g e1 e2 => hlu g (by rw [← HVL.out]; exact e1) e2))
      have E1 := Lib.hid (HEE.out.held (S := fun k => k = u) (Kept.but K1.out rfl) (fun g e1 e2 => heu g (by rw [← HVE.out]; exact e1) e2))
      have HSZ : Hid ((w.setCell ⟨u, 2, none⟩ (.int .i64 ((gv : Int) + 1))).heap.size = w.heap.size) := Lib.hid (by simp)
      generalize hw1 : w.setCell ⟨u, 2, none⟩ (.int .i64 ((gv : Int) + 1)) = w1 at P1 K1 L1 E1 HSZ
      clear p1 p2 pf2 hw1
      have p1 := P1.out.cell 1 _ rfl
      have p2 := P1.out.cell 2 _ rfl
      have hpl1 := P1.out.lt
      have HRow : Hid ((w1.alloc (.cells #[.int .i64 ((gv : Int) + 1), .string s] 68)).drew.ownsRow 0 68 2 (.slice A n cap) n (flatT (rfOf E).L)) := Lib.hid (by
        have h := L1.out
        unfold RowT at h
        rw [show (rfOf E).L.length = n from (numF_len _ _).trans HN.out] at h
        exact ownsRow_below h (bnew w1 _).drew)
      have HNew := Lib.hid (news_one (w := w1) (cs := #[.int .i64 ((gv : Int) + 1), .string s]) (te := 68))
      have HPK : Hid (∀ w6, World.grownBy (w1.alloc (.cells #[.int .i64 ((gv : Int) + 1), .string s] 68)).drew w6 (Value.slice A n cap).ownBlock → Has w6 u (.cells #[.int .i64 E.ep, .slice A n cap, .int .i64 ((gv : Int) + 1), .int .i64 (E.gt : Int), .slice B E.ea.length cbp, .bool E.ow] 36)) := Lib.hid (fun w6 g => (P1.out.below (bnew w1 _).drew).held (S := fun k => rl = some k) (Kept.grown g (fun j e => by rw [← HVL.out]; exact e)) (fun e => HE.out.n1 e))
      go_region_law ((refine step_grow_own (w := (w1.alloc (.cells #[.int .i64 ((gv : Int) + 1), .string s] 68)).drew) textElem (by rfl) (.tmp 27) (.tmp 34) (by rfl) (.slice A n cap) n (flatT (rfOf E).L) (by rfl) HRow.out (some ⟨w1.heap.size, 0, none⟩) 1 1 [.int .i64 ((gv : Int) + 1), .string s] (by rfl) rfl (.inr ⟨_, rfl, HNew.out⟩) (by simp [Value.oneCell']) (by omega) (by omega) ?_; intro v6 w6 R6 g6 f6; have P6 := HPK.out w6 g6; have p61 := P6.cell 1 _ rfl; have pf1 := P6.free 1; obtain ⟨A6, cap6, rfl, h61, h62⟩ := ownsRow_form R6; have R6' := Lib.hid R6; have g6' := Lib.hid g6; have f6' := Lib.hid f6; have P6' := Lib.hid P6; clear R6 g6 f6 P6))
      all_goals
        go_wp2_with fail
        go_ret
        refine ⟨rfl, ?_⟩
        have hsz : w1.heap.size = w.heap.size := HSZ.out
        have hLn : (rfOf E).L.length = n := (numF_len _ _).trans HN.out
        have hmore := rfOf_more (E := E) (by rw [HN.out, HGV.out]; exact HOP.out) s
        have hown : ∀ g, (Value.slice A6 (n + 1) cap6).ownBlock = some g → rl = some g ∨ w.heap.size ≤ g := fun g e => by
          rcases f6'.out g e with h3 | h3
          · exact .inl (by rw [← HVL.out]; exact h3)
          · exact .inr (by simp at h3; omega)
        have hgu : ∀ g, (Value.slice A6 (n + 1) cap6).ownBlock = some g → g ≠ u := fun g e1 e2 => by
          rcases hown g e1 with h3 | h3
          · exact hlu g h3 e2
          · omega
        have k6 : Kept (fun j => rl = some j) w1 w6 := (Kept.of (bnew w1 _).drew).trans (Kept.grown g6'.out (fun j e => by rw [← HVL.out]; exact e))
        have k7 : Kept (fun j => j = u) w6 (w6.setCell ⟨u, 1, none⟩ (.slice A6 (n + 1) cap6)) := Kept.but (But.set u 1 w6 _) rfl
        have r6 : RowT w6 (.slice A6 (n + 1) cap6) (rfOf { E with op := E.op ++ [s], gv := E.gv + 1 }).L := by
          rw [hmore]
          unfold RowT
          rw [List.length_append, flatT_append, hLn, HGV.out]
          exact R6'.out
        refine HE.out.to (((Kept.but K1.out (.inl rfl)).trans (k6.mono (fun j e => .inr (.inl e)))).trans (k7.mono (fun j e => .inl e))) (vL := .slice A6 (n + 1) cap6) (vE := .slice B E.ea.length cbp) ?_ (r6.held k7 (fun g e1 e2 => hgu g e1 e2)) ?_ hown (fun g e => .inl (by rw [← HVE.out]; exact e)) (fun g e1 e2 => ?_)
        · have := P6'.out.set 1 (.slice A6 (n + 1) cap6)
          show Has _ u (.cells #[.int .i64 E.ep, .slice A6 (n + 1) cap6, .int .i64 ((E.gv + 1 : Nat) : Int), .int .i64 (E.gt : Int), .slice B E.ea.length cbp, .bool E.ow] 36)
          rw [HGV.out]
          exact this
        · exact (E1.out.held k6 (fun g e1 e2 => HE.out.n3 g e2 (by rw [← HVE.out]; exact e1))).held k7 (fun g e1 e2 => heu g (by rw [← HVE.out]; exact e1) e2)
        · have e2' : re = some g := by rw [← HVE.out]; exact e2
          rcases hown g e1 with h3 | h3
          · exact HE.out.n3 g h3 e2'
          · have := HE.out.lt g (.inr (.inr e2')); omega
end
end Go.Proofs.Ytgabonacpoimfaa
