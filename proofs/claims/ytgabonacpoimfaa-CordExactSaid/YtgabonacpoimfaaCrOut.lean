/-
  What the reference end sends.
-/
import Derived.Test.YtgabonacpoimfaaCrMem
namespace Go.Proofs.Ytgabonacpoimfaa
open Go.RowKit
set_option linter.unusedVariables false
set_option linter.unusedSimpArgs false
theorem RowG.held {S : Nat → Prop} {w w' : World} {v : Value} {q : List Gr} (h : RowG 0 w v q) (k : Kept S w w') (hs : ∀ g, v.ownBlock = some g → ¬ S g) : RowG 0 w' v q := by
  refine ⟨h.1, ?_⟩
  rcases h.2 with ⟨rfl, hq⟩ | ⟨g', cap, cur, rfl, h1, h2, h3⟩
  · exact .inl ⟨rfl, hq⟩
  · exact .inr ⟨_, cap, cur, rfl, h1, Has.held h2 k (hs _ rfl), h3⟩
section
variable {u : Nat} {rl re : Option Nat} {E : En} {w : World}
set_option maxRecDepth 100000 in
set_option maxHeartbeats 4000000 in
theorem rout_any (h : RefAt w u rl re (rfOf E)) (hok : E.ok) (hg : E.gv ≤ 1000000) :
    Calls Try.prog 16 #[.pointer (some ⟨u, 0, none⟩)] w fun e w' => ∃ A cap, e = .returned (.slice A (outG E).length cap) ∧ RowG 0 w' (.slice A (outG E).length cap) (outG E) ∧ RefOut u rl re (rfOf (outE E)) w w' := by
  obtain ⟨A, cap, B, cbp, hp, hL, hvL, _, _, ha1, ha2, _, _⟩ := h.open
  have hlen : (rfOf E).L.length = E.op.length := numF_len _ _
  obtain ⟨n, hn⟩ : ∃ n, E.op.length = n := ⟨_, rfl⟩
  have hmost := hok.most
  rw [hlen, hn] at hp hL hvL ha1
  rw [hn] at hmost
  have hp' : Has w u (.cells #[.int .i64 E.ep, .slice A n cap, .int .i64 (E.gv : Int), .int .i64 (E.gt : Int), .slice B E.ea.length cbp, .bool E.ow] 36) := hp
  have HE := Lib.hid h
  have HN := Lib.hid hn
  have HP := Lib.hid hp'
  have HL := Lib.hid hL
  have hpl := hp'.lt
  have HBA := Lib.hid (show ∀ w', Below w.heap.size w w' → RowT w' (.slice A n cap) (rfOf E).L from fun w' b => ownsRow_below hL b)
  have HX : Hid (∀ w', RowG 0 w' (.slice none 0 0) []) := Lib.hid (fun w' => World.ownsRow_nil _ _ _ _)
  have HE0 := Lib.hid (RowG.empty 0 w (Nat.zero_le _))
  have HCE : Hid (∀ wr, Below w.heap.size w wr → RefOut u rl re (rfOf (outE E)) w (wr.setCell ⟨u, 5, none⟩ (.bool false))) := Lib.hid (fun wr hb => (RefOut.same HE.out hb).put (i := 5) (v := .bool false) (f1 := rfOf (outE E)) (fun _ _ => rfl) rfl rfl)
  have HRH : Hid (∀ wr A' m c' (q : List Gr), RowG 0 wr (.slice A' m c') q → (∀ g, (Value.slice A' m c').ownBlock = some g → w.heap.size ≤ g) → RowG 0 (wr.setCell ⟨u, 5, none⟩ (.bool false)) (.slice A' m c') q) := Lib.hid (fun wr A' m c' q hr hf => hr.held (S := fun k => k = u) (Kept.but (But.set u 5 wr _) rfl) (fun g e1 e2 => by have := hf g e1; omega))
  have HLL : Hid ((rfOf E).L.length = n) := Lib.hid (hlen.trans hn)
  have HGT : Hid (∀ k x, (rfOf E).L[k]? = some x → gramsF E 0 (E.op.take (k + 1)) = gramsF E 0 (E.op.take k) ++ [⟨0, false, E.ep, (x.1 : Int), (E.gt : Int), x.2⟩]) := Lib.hid (fun k x hx => by
    have hx' : (numF (E.gv - E.op.length + 1) E.op)[k]? = some x := hx
    rw [numF_get] at hx'
    obtain ⟨s, hs, rfl⟩ := Option.map_eq_some_iff.1 hx'
    exact gramsF_take E k s hs)
  clear h hp hp' hL hvL hn hlen hok
  go_enter Try.func16, Try.ntmps16
  go_wp2_with fail
  go_loopw [3, 4] (fun v iv wr => ∃ (k cap' : Nat) (A' : Option Addr), k ≤ n ∧ k ≤ cap' ∧ cap' ≤ 9223372036854775807 ∧ iv = .int .i64 k ∧ v = .slice A' k cap' ∧ Hid (RowG 0 wr (.slice A' k cap') (gramsF E 0 (E.op.take k))) ∧ Hid (∀ j, (Value.slice A' k cap').ownBlock = some j → w.heap.size ≤ j) ∧ Hid (Below w.heap.size w wr)) (fun _ iv _ => n - (intOf iv).toNat)
  case atStart => exact ⟨0, 0, _, by omega, by omega, by omega, rfl, rfl, HE0, Lib.hid (fun j e => by cases e; exact Nat.le_refl _), Lib.hid (bnew w _)⟩
  case round =>
    obtain ⟨k, cap', A', hk, hkc, hcc, rfl, rfl, HR, HF, HB⟩ := hrel
    clear HE0
    have PR := Lib.hid (HP.out.below HB.out)
    have p1 := PR.out.cell 1 _ rfl
    by_cases hlt : k < n
    · obtain ⟨x, hx⟩ : ∃ x, (rfOf E).L[k]? = some x := ⟨_, List.getElem?_eq_getElem (by rw [HLL.out]; exact hlt)⟩
      obtain ⟨g, rfl, _, hgl, d0, d1⟩ := HL.out.at HLL.out.symm hx
      have HT := Lib.hid (HGT.out k x hx)
      have HK : Hid ((gramsF E 0 (E.op.take k)).length = k) := Lib.hid (by rw [gramsF_len, List.length_take, HN.out]; omega)
      go_upto_region 7 with (fail)
      have hpw : u < wr.heap.size := PR.out.lt
      have HW : Hid (((wr.alloc (.cells #[.int .i64 0, .bool false, .int .i64 E.ep, .int .i64 (x.1 : Int), .int .i64 (E.gt : Int), .string x.2] 29)).drew).ownsRow 0 29 6 (.slice A' k cap') k (flatG (gramsF E 0 (E.op.take k)))) := Lib.hid (by
        have h := HR.out
        unfold RowG at h
        rw [HK.out] at h
        exact ownsRow_below h (bnew wr _).drew)
      have HNew := Lib.hid (news_one (w := wr) (cs := #[.int .i64 0, .bool false, .int .i64 E.ep, .int .i64 (x.1 : Int), .int .i64 (E.gt : Int), .string x.2]) (te := 29))
      have HKS : Hid (∀ w', Below w.heap.size w w' → (fun w' => w'.cell? ⟨u, 0, none⟩ = some (.int .i64 E.ep) ∧ w'.cell? ⟨u, 1, none⟩ = some (.slice (some ⟨g, 0, none⟩) n cap) ∧ w'.cell? ⟨u, 3, none⟩ = some (.int .i64 (E.gt : Int)) ∧ w'.cell? ⟨g, k * 2, none⟩ = some (.int .i64 (x.1 : Int)) ∧ w'.cell? ⟨g, k * 2 + 1, none⟩ = some (.string x.2)) w') := Lib.hid (fun w' b => ⟨(HP.out.below b).cell 0 _ rfl, (HP.out.below b).cell 1 _ rfl, (HP.out.below b).cell 3 _ rfl, (b.cell (p := ⟨g, k * 2, none⟩) hgl).trans d0, (b.cell (p := ⟨g, k * 2 + 1, none⟩) hgl).trans d1⟩)
      have BN : Hid (Below w.heap.size w (wr.alloc (.cells #[.int .i64 0, .bool false, .int .i64 E.ep, .int .i64 (x.1 : Int), .int .i64 (E.gt : Int), .string x.2] 29)).drew) := Lib.hid (bup HB.out (bnew wr _)).drew
      have BD : Hid (Below w.heap.size w wr.drew) := Lib.hid HB.out.drew
      clear p1 d0 d1 hx
      go_region_held3 (fun w' => w'.cell? ⟨u, 0, none⟩ = some (.int .i64 E.ep) ∧ w'.cell? ⟨u, 1, none⟩ = some (.slice (some ⟨g, 0, none⟩) n cap) ∧ w'.cell? ⟨u, 3, none⟩ = some (.int .i64 (E.gt : Int)) ∧ w'.cell? ⟨g, k * 2, none⟩ = some (.int .i64 (x.1 : Int)) ∧ w'.cell? ⟨g, k * 2 + 1, none⟩ = some (.string x.2)) ((refine HKS.out _ ?_; first | with_reducible exact BD.out | with_reducible exact BN.out | with_reducible exact HB.out | with_reducible exact B6.out))
        (first
        | (refine step_grow_own (w := (wr.alloc (.cells #[.int .i64 0, .bool false, .int .i64 E.ep, .int .i64 (x.1 : Int), .int .i64 (E.gt : Int), .string x.2] 29)).drew) gramElem (by rfl) (.tmp 17) (.tmp 43) (by rfl) (.slice A' k cap') k (flatG (gramsF E 0 (E.op.take k))) (by rfl) HW.out (some ⟨wr.heap.size, 0, none⟩) 1 1 [.int .i64 0, .bool false, .int .i64 E.ep, .int .i64 (x.1 : Int), .int .i64 (E.gt : Int), .string x.2] (by rfl) rfl (.inr ⟨_, rfl, HNew.out⟩) (by simp [Value.oneCell']) (by omega) (by omega) ?_; intro v6 w6 R6 g6 f6; obtain ⟨A6, cap6, rfl, h61, h62⟩ := ownsRow_form R6; have R6' := Lib.hid R6; have g6' := Lib.hid g6; have f6' := Lib.hid f6; have B6 : Hid (Below w.heap.size w w6) := Lib.hid (BN.out.trans ((Kept.grown (S := fun j => w.heap.size ≤ j) g6'.out (fun j e => HF.out j e)).below (fun _ h => h) BN.out.size)); clear R6 g6 f6))
      all_goals
        go_wp2_with fail
        have HF6 : Hid (∀ j, (Value.slice A6 (k + 1) cap6).ownBlock = some j → w.heap.size ≤ j) := Lib.hid (fun j e => by
          rcases f6'.out j e with h3 | h3
          · exact HF.out j h3
          · exact Nat.le_trans BN.out.size h3)
        have HR6 : Hid (RowG 0 w6 (.slice A6 (k + 1) cap6) (gramsF E 0 (E.op.take (k + 1)))) := Lib.hid (by
          rw [HT.out]
          unfold RowG
          rw [List.length_append, HK.out, flatG_append]
          exact R6'.out)
        clear R6' g6' f6' HW HNew
        go_roundw
        case rel => exact ⟨k + 1, cap6, A6, by omega, h61, h62, by go_num, rfl, HR6, HF6, B6⟩
        case measure => simp [intOf]; omega
    · obtain rfl : k = n := by omega
      have HZ : Hid (E.op.take k = E.op) := Lib.hid (List.take_of_length_le (by rw [HN.out]; omega))
      rw [HZ.out] at HR
      have hpl1 := PR.out.lt
      have pf5 := PR.out.free 5
      by_cases h0 : k = 0
      · subst h0
        have p5 := PR.out.cell 5 _ rfl
        have hop : E.op = [] := List.eq_nil_of_length_eq_zero HN.out
        cases how : E.ow with
        | false =>
          rw [how] at p5
          have HG : Hid (outG E = []) := Lib.hid (by unfold outG; rw [hop, how]; rfl)
          have HR' : Hid (RowG 0 wr (.slice A' 0 cap') []) := Lib.hid (by have := HR.out; rw [hop] at this; exact this)
          clear how hop HR HGT
          go_wp2_with fail
          go_ret
          rw [HG.out]
          exact ⟨A', cap', rfl, HRH.out _ _ _ _ _ HR'.out HF.out, HCE.out _ HB.out⟩
        | true =>
          rw [how] at p5
          have HG : Hid (outG E = [⟨0, false, E.ep, 0, (E.gt : Int), ⟨#[]⟩⟩]) := Lib.hid (by unfold outG; rw [hop, how]; rfl)
          have HR' : Hid (RowG 0 wr (.slice A' 0 cap') []) := Lib.hid (by have := HR.out; rw [hop] at this; exact this)
          clear how hop HR HGT
          go_upto_region 9 with (fail)
          have HW : Hid (((wr.alloc (.cells #[.int .i64 0, .bool false, .int .i64 E.ep, .int .i64 0, .int .i64 (E.gt : Int), .string ⟨#[]⟩] 29)).drew).ownsRow 0 29 6 (.slice A' 0 cap') 0 (flatG [])) := Lib.hid (ownsRow_below HR'.out (bnew wr _).drew)
          have HNew := Lib.hid (news_one (w := wr) (cs := #[.int .i64 0, .bool false, .int .i64 E.ep, .int .i64 0, .int .i64 (E.gt : Int), .string ⟨#[]⟩]) (te := 29))
          have HKS : Hid (∀ w', Below w.heap.size w w' → (fun w' => w'.cell? ⟨u, 0, none⟩ = some (.int .i64 E.ep) ∧ w'.cell? ⟨u, 3, none⟩ = some (.int .i64 (E.gt : Int))) w') := Lib.hid (fun w' b => ⟨(HP.out.below b).cell 0 _ rfl, (HP.out.below b).cell 3 _ rfl⟩)
          have BN : Hid (Below w.heap.size w (wr.alloc (.cells #[.int .i64 0, .bool false, .int .i64 E.ep, .int .i64 0, .int .i64 (E.gt : Int), .string ⟨#[]⟩] 29)).drew) := Lib.hid (bup HB.out (bnew wr _)).drew
          have BD : Hid (Below w.heap.size w wr.drew) := Lib.hid HB.out.drew
          clear p1 p5 pf5
          go_region_held3 (fun w' => w'.cell? ⟨u, 0, none⟩ = some (.int .i64 E.ep) ∧ w'.cell? ⟨u, 3, none⟩ = some (.int .i64 (E.gt : Int))) ((refine HKS.out _ ?_; first | with_reducible exact BD.out | with_reducible exact BN.out | with_reducible exact HB.out | with_reducible exact B6.out))
            (first
            | (refine step_grow_own (w := (wr.alloc (.cells #[.int .i64 0, .bool false, .int .i64 E.ep, .int .i64 0, .int .i64 (E.gt : Int), .string ⟨#[]⟩] 29)).drew) gramElem (by rfl) (.tmp 54) (.tmp 64) (by rfl) (.slice A' 0 cap') 0 (flatG []) (by rfl) HW.out (some ⟨wr.heap.size, 0, none⟩) 1 1 [.int .i64 0, .bool false, .int .i64 E.ep, .int .i64 0, .int .i64 (E.gt : Int), .string ⟨#[]⟩] (by rfl) rfl (.inr ⟨_, rfl, HNew.out⟩) (by simp [Value.oneCell']) (by omega) (by omega) ?_; intro v6 w6 R6 g6 f6; obtain ⟨A6, cap6, rfl, h61, h62⟩ := ownsRow_form R6; have R6' := Lib.hid R6; have g6' := Lib.hid g6; have f6' := Lib.hid f6; have B6 : Hid (Below w.heap.size w w6) := Lib.hid (BN.out.trans ((Kept.grown (S := fun j => w.heap.size ≤ j) g6'.out (fun j e => HF.out j e)).below (fun _ h => h) BN.out.size)); clear R6 g6 f6))
          all_goals
            have P6 := HP.out.below B6.out
            have p65 := P6.cell 5 _ rfl
            have pf65 := P6.free 5
            have hpl6 := P6.lt
            have HF6 : Hid (∀ j, (Value.slice A6 (0 + 1) cap6).ownBlock = some j → w.heap.size ≤ j) := Lib.hid (fun j e => by
              rcases f6'.out j e with h3 | h3
              · exact HF.out j h3
              · exact Nat.le_trans BN.out.size h3)
            have HR6 : Hid (RowG 0 w6 (.slice A6 (0 + 1) cap6) [⟨0, false, E.ep, 0, (E.gt : Int), ⟨#[]⟩⟩]) := Lib.hid R6'.out
            clear R6' g6' f6' HW HNew P6
            go_wp2_with fail
            go_ret
            rw [HG.out]
            exact ⟨A6, cap6, rfl, HRH.out _ _ _ _ _ HR6.out HF6.out, HCE.out _ B6.out⟩
      · have hlt0 : 0 < k := by omega
        have hk0 : ((k : Int) == 0) = false := by simp; omega
        have HG : Hid (outG E = gramsF E 0 E.op) := Lib.hid (by unfold outG; rw [HN.out, if_pos hlt0])
        have HK : Hid ((gramsF E 0 E.op).length = k) := Lib.hid (by rw [gramsF_len, HN.out])
        have p5 := PR.out.cell 5 _ rfl
        clear HGT
        go_wp2_with fail
        go_ret
        rw [HG.out, HK.out]
        exact ⟨A', cap', rfl, HRH.out _ _ _ _ _ HR.out HF.out, HCE.out _ HB.out⟩
end
end Go.Proofs.Ytgabonacpoimfaa
