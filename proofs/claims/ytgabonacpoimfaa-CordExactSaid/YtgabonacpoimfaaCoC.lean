/-
  The datagrams that an end sends.
-/
import Derived.Test.YtgabonacpoimfaaCoB
import Derived.Deep.RegionHeld3
namespace Go.Proofs.Ytgabonacpoimfaa
open Go.RowKit
set_option linter.unusedVariables false
set_option linter.unusedSimpArgs false
theorem gramsF_snoc (e : En) (s : ByteArray) : ∀ (l : List ByteArray) (i : Nat), gramsF e i (l ++ [s]) = gramsF e i l ++ [⟨0, false, e.ep, ((e.gv - e.op.length + 1 + (i + l.length) : Nat) : Int), (e.gt : Int), s⟩]
  | [], i => by simp [gramsF]
  | x :: l, i => by
    have ih := gramsF_snoc e s l (i + 1)
    simp only [List.cons_append, gramsF, ih, List.length_cons]
    rw [show i + 1 + l.length = i + (l.length + 1) by omega]
theorem gramsF_take (e : En) (k : Nat) (s : ByteArray) (h : e.op[k]? = some s) : gramsF e 0 (e.op.take (k + 1)) = gramsF e 0 (e.op.take k) ++ [⟨0, false, e.ep, ((e.gv - e.op.length + 1 + k : Nat) : Int), (e.gt : Int), s⟩] := by
  have hk := (List.getElem?_eq_some_iff.1 h).1
  rw [List.take_add_one, h]
  have := gramsF_snoc e s (e.op.take k) 0
  rw [show (e.op.take k).length = k by simp; omega, Nat.zero_add] at this
  exact this
theorem gramsF_len (e : En) : ∀ (l : List ByteArray) (i : Nat), (gramsF e i l).length = l.length
  | [], _ => rfl
  | x :: l, i => by simp only [gramsF, List.length_cons, gramsF_len e l]
section
variable {p : Nat} {r : Option Nat} {mb : Nat} {E : En} {w : World}
/-- What Out hands back. -/
def OutPost (p : Nat) (r : Option Nat) (mb : Nat) (e' : En) (l : List Gr) (w : World) (e : Ending) (w' : World) : Prop :=
  ∃ A cap, e = .returned (.slice A l.length cap) ∧ RowG 0 w' (.slice A l.length cap) l ∧ (∀ g, (Value.slice A l.length cap).ownBlock = some g → w.heap.size ≤ g) ∧ EndKeep p r mb e' w w'
theorem EndAt.still (h : EndAt w p r mb E) : EndAt (w.setCell ⟨p, 5, none⟩ (.bool false)) p r mb (outE E) := h.put 5 (.bool false) (fun A cap => rfl) rfl rfl (Nat.le_refl _)
theorem rowG_one (w : World) (x : Gr) : RowG 0 (w.alloc (.cells x.row 29)) (.slice (some ⟨w.heap.size, 0, none⟩) 1 1) [x] :=
  World.ownsRow_lit (base := 0) (e := 29) (size := 6) w x.row 1 (Nat.zero_le _) (by unfold maxLen; omega) rfl
theorem EndAt.stillOut (h : EndAt w p r mb E) {w' : World} (b : Below (w.setCell ⟨p, 5, none⟩ (.bool false)).heap.size (w.setCell ⟨p, 5, none⟩ (.bool false)) w') : EndKeep p r mb (outE E) w w' :=
  ⟨r, h.still.below b, (Kept.but (But.set p 5 w _) (.inl rfl)).trans (Kept.of b), fun g e => e⟩
set_option maxRecDepth 100000 in
set_option maxHeartbeats 4000000 in
theorem cout_any (h : EndAt w p r mb E) (hok : E.op.length ≤ E.gv) (hg : E.gv ≤ 1000000) :
    Calls Try.prog 15 #[.pointer (some ⟨p, 0, none⟩)] w (OutPost p r mb (outE E) (outG E) w) := by
  have CO := Lib.hid (owes_any h)
  obtain ⟨A, cap, hp, hrow, hv, h1, h2⟩ := h.open
  have HE := Lib.hid h
  have HS := Lib.hid h.still
  have pf5 := hp.free 5
  have p5 := hp.cell 5 _ rfl
  have hpl := hp.lt
  obtain ⟨n, hn⟩ : ∃ n, E.op.length = n := ⟨_, rfl⟩
  have HN := Lib.hid hn
  by_cases hw : owesE E = true
  · rw [hw] at CO
    by_cases h0 : n = 0
    · have how : E.ow = true := by
        unfold owesE at hw; rw [hn, h0] at hw; simpa using hw
      have HG : Hid (outG E = [⟨0, false, E.ep, 0, (E.gt : Int), ⟨#[]⟩⟩]) := Lib.hid (by unfold outG; rw [hn, h0, how]; rfl)
      have P1 := hp.set 5 (.bool false)
      have p1 := P1.cell 1 _ rfl
      rw [hn, h0] at p1
      have CG := Lib.hid (cgram_any HS.out 0 ⟨#[]⟩)
      clear h hp hrow hv hn how P1 hw
      go_enter Try.func15, Try.ntmps15
      go_wp2_with fail
      refine CO.out.mono ?_
      rintro e w0 ⟨rfl, rfl⟩
      go_wp2_with fail
      refine CG.out.mono ?_
      rintro e w1 ⟨rfl, b1⟩
      go_wp2_with fail
      go_ret
      rw [HG.out]
      refine ⟨_, _, rfl, rowG_one w1 _, fun g e => ?_, HE.out.stillOut (bup b1 (bnew w1 _))⟩
      have h3 := b1.size
      simp only [World.size_setCell] at h3
      cases e; exact h3
    · have hlt0 : 0 < n := by omega
      have hneq : ((n : Int) == 0) = false := by simp; omega
      have HG : Hid (outG E = gramsF E 0 E.op) := Lib.hid (by unfold outG; rw [hn, if_pos hlt0])
      obtain ⟨gv, hgv⟩ : ∃ g, E.gv = g := ⟨_, rfl⟩
      have HGV := Lib.hid hgv
      rw [hn] at hp hok
      rw [hgv] at hp hok hg
      have P1 := Lib.hid (hp.set 5 (.bool false))
      have HW1 : Hid (w.heap.size = (w.setCell ⟨p, 5, none⟩ (.bool false)).heap.size) := Lib.hid (by simp)
      have HB1 := Lib.hid (But.set p 5 w (.bool false))
      have HRow := Lib.hid (hrow.held (S := fun k => k = p) (Kept.but (But.set p 5 w (.bool false)) rfl) (fun g e1 e2 => h.ne.2.1 (by rw [← hv, e1, e2])))
      rw [hn] at HRow
      generalize hw1 : w.setCell ⟨p, 5, none⟩ (.bool false) = w1 at P1 HS HW1 HB1 HRow
      have p1 := P1.out.cell 1 _ rfl
      have hn6 : n ≤ 1000000 := by omega
      rw [hn] at h1
      clear h hp hrow hv hn hw hgv
      go_enter Try.func15, Try.ntmps15
      go_wp2_with fail
      refine CO.out.mono ?_
      rintro e w0 ⟨rfl, rfl⟩
      go_upto_region 4 with (fail)
      clear hw1 p5 pf5
      go_wp2_with fail
      go_loopw [3, 26] (fun v iv wr => ∃ (k cap' : Nat) (A' : Option Addr), k ≤ n ∧ k ≤ cap' ∧ cap' ≤ 9223372036854775807 ∧ iv = .int .i64 k ∧ v = .slice A' k cap' ∧ Hid (RowG 0 wr (.slice A' k cap') (gramsF E 0 (E.op.take k))) ∧ Hid (∀ j, (Value.slice A' k cap').ownBlock = some j → w1.heap.size ≤ j) ∧ Hid (Below w1.heap.size w1 wr)) (fun _ iv _ => n - (intOf iv).toNat)
      case atStart => exact ⟨0, 0, none, by omega, by omega, by omega, rfl, rfl, Lib.hid ⟨rfl, .inl ⟨rfl, rfl⟩⟩, Lib.hid (fun j e => by cases e), Lib.hid (Below.refl _ _)⟩
      case round =>
        obtain ⟨k, cap', A', hk, hkc, hcc, rfl, rfl, HR, HF, HB⟩ := hrel
        by_cases hlt : k < n
        · obtain ⟨s, hs⟩ : ∃ s, E.op[k]? = some s := ⟨_, List.getElem?_eq_getElem (by rw [HN.out]; exact hlt)⟩
          obtain ⟨g, off, rfl, hgr, s0, hgl⟩ := (HRow.out.below HB.out).at hs
          have HT := Lib.hid (gramsF_take E k s hs)
          have HL : Hid ((gramsF E 0 (E.op.take k)).length = k) := Lib.hid (by rw [gramsF_len, List.length_take, HN.out]; omega)
          have PR := Lib.hid (P1.out.below HB.out)
          have p1 := PR.out.cell 1 _ rfl
          have p2 := PR.out.cell 2 _ rfl
          obtain ⟨d, hd⟩ : ∃ d : Nat, d = gv - n := ⟨_, rfl⟩
          obtain ⟨d1, hd1⟩ : ∃ d1 : Nat, d1 = d + 1 := ⟨_, rfl⟩
          obtain ⟨M, hM⟩ : ∃ M : Nat, M = d1 + k := ⟨_, rfl⟩
          have hsum1 : IntKind.i64.wrap ((gv : Int) - (n : Int)) = (d : Int) := by
            have h : IntKind.i64.wrap ((gv : Int) - (n : Int)) = (gv : Int) - (n : Int) := IntWalk.i64_in _ (by omega)
            rw [h]; omega
          have hsum2 : IntKind.i64.wrap ((d : Int) + 1) = (d1 : Int) := by
            have h : IntKind.i64.wrap ((d : Int) + 1) = (d : Int) + 1 := IntWalk.i64_in _ (by omega)
            rw [h]; omega
          have hsum3 : IntKind.i64.wrap ((d1 : Int) + (k : Int)) = (M : Int) := by
            have h : IntKind.i64.wrap ((d1 : Int) + (k : Int)) = (d1 : Int) + (k : Int) := IntWalk.i64_in _ (by omega)
            rw [h]; omega
          have HM : Hid (gv - n + 1 + k = M) := Lib.hid (by omega)
          clear hd hd1 hM
          clear hgr hs
          go_upto_region 10 with (fail)
          have CG : Hid (∀ sq, Calls Try.prog 26 #[.pointer (some ⟨p, 0, none⟩), .int .i64 sq, .string s] wr.drew fun e w' => e = .returned (.agg #[.int .i64 0, .bool false, .int .i64 E.ep, .int .i64 sq, .int .i64 (E.gt : Int), .string s]) ∧ Below wr.drew.heap.size wr.drew w') := Lib.hid (fun sq => cgram_any ((HS.out.below HB.out).below ((Below.refl _ _).drew)) sq s)
          have HRk : Hid (wr.ownsRow 0 29 6 (.slice A' k cap') k (flatG (gramsF E 0 (E.op.take k)))) := Lib.hid (by have h := HR.out; unfold RowG at h; rw [HL.out] at h; exact h)
          have hpw1 := P1.out.lt
          have HKS : Hid (∀ w', Has w' p (.cells (#[Value.int .i64 E.ep, .slice (some ⟨g, off, none⟩) n cap, .int .i64 (gv : Int), .int .i64 (E.gt : Int), .map (some mb), .bool E.ow].setIfInBounds 5 (.bool false)) 66) → (fun w' => w'.cell? ⟨p, 1, none⟩ = some (.slice (some ⟨g, off, none⟩) n cap) ∧ w'.cell? ⟨p, 2, none⟩ = some (.int .i64 (gv : Int))) w') := Lib.hid (fun w' h => ⟨h.cell 1 _ rfl, h.cell 2 _ rfl⟩)
          have PD := Lib.hid PR.out.drew
          clear p1 p2 s0
          go_region_held3 (fun w' => w'.cell? ⟨p, 1, none⟩ = some (.slice (some ⟨g, off, none⟩) n cap) ∧ w'.cell? ⟨p, 2, none⟩ = some (.int .i64 (gv : Int))) ((refine HKS.out _ ?_; first | with_reducible exact PD.out | with_reducible exact P5.out | with_reducible exact P5.out.alloc _ | with_reducible exact P6.out))
            (first
            | (go_at_call 26; ((with_reducible refine (CG.out _).mono ?_)); rintro e w5 ⟨rfl, b5⟩; have B5 := Lib.hid (bup (Below.refl wr.heap.size wr).drew b5); have P5 := Lib.hid (PD.out.below b5); have HW : Hid ((w5.alloc (.cells #[.int .i64 0, .bool false, .int .i64 E.ep, .int .i64 (M : Int), .int .i64 (E.gt : Int), .string s] 29)).ownsRow 0 29 6 (.slice A' k cap') k (flatG (gramsF E 0 (E.op.take k)))) := Lib.hid ((ownsRow_below HRk.out B5.out).alloc _); have HNew := Lib.hid (news_at (Has.new w5 (.cells #[.int .i64 0, .bool false, .int .i64 E.ep, .int .i64 (M : Int), .int .i64 (E.gt : Int), .string s] 29))); clear b5)
            | (refine step_grow_own (w := (w5.alloc (.cells #[.int .i64 0, .bool false, .int .i64 E.ep, .int .i64 (M : Int), .int .i64 (E.gt : Int), .string s] 29))) gramElem (by rfl) (.tmp 31) (.tmp 48) (by rfl) (.slice A' k cap') k (flatG (gramsF E 0 (E.op.take k))) (by rfl) HW.out (some ⟨w5.heap.size, 0, none⟩) 1 1 [.int .i64 0, .bool false, .int .i64 E.ep, .int .i64 (M : Int), .int .i64 (E.gt : Int), .string s] (by rfl) rfl (.inr ⟨_, rfl, HNew.out⟩) (by simp [Value.oneCell']) (by omega) (by omega) ?_; intro v6 w6 R6 g6 f6; obtain ⟨A6, cap6, rfl, h61, h62⟩ := ownsRow_form R6; have R6' := Lib.hid R6; have g6' := Lib.hid g6; have f6' := Lib.hid f6; clear R6 g6 f6; have P6 := Lib.hid ((P5.out.alloc _).held (S := fun j => w1.heap.size ≤ j) (Kept.grown g6'.out (fun j e => HF.out j e)) (Nat.not_le.2 hpw1))))
          all_goals
            go_wp2_with fail
            have HB6 := Lib.hid (((HB.out.trans (B5.out.mono HB.out.size)).trans ((bnew w5 (.cells #[.int .i64 0, .bool false, .int .i64 E.ep, .int .i64 (M : Int), .int .i64 (E.gt : Int), .string s] 29)).mono (Nat.le_trans HB.out.size B5.out.size))).trans ((Kept.grown (S := fun k => w1.heap.size ≤ k) g6'.out (fun j e => HF.out j e)).below (fun _ h => h) (by have := HB.out.size; have := B5.out.size; simp; omega)))
            have HF6 : Hid (∀ j, (Value.slice A6 (k + 1) cap6).ownBlock = some j → w1.heap.size ≤ j) := Lib.hid (fun j e => by
              rcases f6'.out j e with h3 | h3
              · exact HF.out j h3
              · have := HB.out.size; have := B5.out.size; simp at h3; omega)
            have HR6 : Hid (RowG 0 w6 (.slice A6 (k + 1) cap6) (gramsF E 0 (E.op.take (k + 1)))) := Lib.hid (by
              rw [HT.out, HGV.out, HN.out, HM.out]
              unfold RowG
              rw [List.length_append, HL.out, flatG_append]
              exact R6'.out)
            clear R6' g6' f6' HW HNew
            go_roundw
            case rel => exact ⟨k + 1, cap6, A6, by omega, h61, h62, by go_num, rfl, HR6, HF6, HB6⟩
            case measure => simp [intOf]; omega
        · obtain rfl : k = n := by omega
          have HZ : Hid (E.op.take k = E.op) := Lib.hid (List.take_of_length_le (by rw [HN.out]; omega))
          have HL : Hid ((gramsF E 0 E.op).length = k) := Lib.hid (by rw [gramsF_len, HN.out])
          rw [HZ.out] at HR
          go_wp2_with fail
          go_ret
          rw [HG.out]
          refine ⟨A', cap', by rw [HL.out]; rfl, by rw [HL.out]; exact HR.out, fun g e => ?_, r, HS.out.below HB.out, (Kept.but HB1.out (.inl rfl)).trans (Kept.of HB.out), fun g e => e⟩
          rw [HL.out] at e
          rw [HW1.out]; exact HF.out g e
  · have hw' : owesE E = false := by simpa using hw
    rw [hw'] at CO
    obtain ⟨e1, e2⟩ : E.ow = false ∧ n = 0 := by
      unfold owesE at hw'; rw [hn] at hw'
      simp at hw'; exact ⟨hw'.1, hw'.2⟩
    have HG : Hid (outG E = []) := Lib.hid (by unfold outG; rw [hn, e2, e1]; rfl)
    have HQ : Hid (outE E = E) := Lib.hid (by unfold outE; rw [← e1])
    clear h hp hrow hv hn hw hw' e1 p5
    go_enter Try.func15, Try.ntmps15
    go_wp2_with fail
    refine CO.out.mono ?_
    rintro e w0 ⟨rfl, rfl⟩
    go_wp2_with fail
    go_ret
    rw [HG.out, HQ.out]
    exact ⟨none, 0, rfl, ⟨rfl, .inl ⟨rfl, rfl⟩⟩, (fun g e => by cases e), EndKeep.same HE.out (Below.refl _ _)⟩
end
end Go.Proofs.Ytgabonacpoimfaa
