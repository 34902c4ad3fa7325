/-
  The walk of a statement of layer 13: of every row of calls each answer is what the document says.
-/
import Derived.Test.YtkdopflnaeejeaaMiAwake
import Derived.Test.YtkdopflnaeejeaaMiRefB
import Derived.Test.YtkdopflnaeejeaaMiAll
import Derived.Test.YtkdopflnaeejeaaMiCnt
import Derived.Test.YtkdopflnaeejeaaRoundQ
import Derived.OpenShut
import Derived.Deep.QuietTactic
import Derived.BigQuiet
import Derived.Deep.CutRange
import Derived.Deep.CutBlock
import Derived.Deep.DeepCutAuto
import Derived.StillTailTactics
import Derived.Lib.QuietBelow
namespace Go.Proofs.Ytkdopflnaeejeaa
open Go.RowKit Go.Sort
set_option linter.unusedVariables false
set_option linter.unusedSimpArgs false
attribute [local go_sem] Oper.semAt_some

theorem calls_of_wp_marks {P : Program} {f : FuncId} {fn : Func} {c : Code} {args : Array Value} {w : World} {R : Ending → World → Prop}
    (hf : P.funcs[f]? = some fn) (hb : fn.body = some c)
    (h : c.wp P (bodyPostM Fence.wide 5 P fn R) { tmps := args ++ Array.replicate (fn.ntmps - args.size) undef, defers := [] } w) : Calls P f args w R :=
  (callsIn_wide (n := 5)).1 (callsIn_of_wp_marks hf hb trivial (wpIn_wide.2 h) rfl)
theorem marks_ret {F : Fence} {n : Nat} {P : Program} {fn : Func} {R : Ending → World → Prop} {a : Act} {w : World} {v : Value}
    (hr : (results fn a.tmps).run P w = .ok v w) (hd : a.defers = []) (hR : R (.returned v) w) : bodyPostM F n P fn R .ret a w := by
  show LeavesInM F n P fn a.tmps R a.defers .returning w
  rw [hd]
  exact ⟨_, hr, hR⟩
theorem results_cell_bool {P : Program} {fn : Func} {p : Tmp} {ty : TypeId} (h : fn.results = #[.cell p ty]) (tmps : Array Value) (w : World) (g : Nat) (v : Bool)
    (hp : tmps.getD p undef = .pointer (some ⟨g, 0, none⟩)) (hg : w.cell? ⟨g, 0, none⟩ = some (.bool v)) (hu : P.underlying ty = some .bool) :
    (results fn tmps).run P w = .ok (.bool v) w := by
  have hp' : tmps[p]?.getD undef = .pointer (some ⟨g, 0, none⟩) := by simpa using hp
  simp [results, h, hp', asAddr, go_sem, hg, isAgg, run_underlying hu]
theorem copyG_len (l : List Gr) (c : Int) (u : Bool) (k : Int) : (copyG l c u k).1.length ≤ l.length + 1 := by
  unfold copyG
  split
  · split
    · exact putG_len _ _
    · simp
  · simp
theorem KeptC.grown {S : Nat → Prop} {w w' : World} {row : Option Nat} (h : w.grownBy w' row) (hr : ∀ r, row = some r → ∃ o : Obj, w.heap[r]? = some o ∧ o.isCells = false) : KeptC S w w' :=
  ⟨h.size, fun k o hk ho _ => (h.block k (Array.getElem?_eq_some_iff.1 hk).1 (fun e => by
    obtain ⟨o', h1, h2⟩ := hr k e.symm
    rw [hk] at h1; cases h1; rw [ho] at h2; cases h2)).trans hk⟩
theorem NetAt.keptC {t : TypeId} {w w' : World} {p : Nat} {r : Option Nat} {l : List Gr} (h : NetAt t w p r l) {S : Nat → Prop} (k : KeptC S w w') (hs : ∀ j, zone p r j → ¬ S j) : NetAt t w' p r l := by
  obtain ⟨⟨v, hp, hr, hv⟩, hn⟩ := h
  exact ⟨⟨v, hp.keptC k rfl (hs p (.inl rfl)), hr.keptC k (fun g e => hs g (.inr (hv.symm.trans e))), hv⟩, hn⟩
theorem all_stops (n : Nat) (hn : 1 ≤ n) (b p : Nat) (r : Option Nat) (q : List Gr) (S : Nat → Prop) (w : World) (hq : q.length ≤ 1000000) (hN : NetAt 53 w p r q)
    (hb : Has w b (.cells #[.pointer (some ⟨p, 0, none⟩)] 24)) (hS : ∀ k, S k → k < w.heap.size) :
    SeqStopsK Fence.wide n Try.prog 31 #[.pointer (some ⟨b, 0, none⟩)] (fun x : Gr => #[x.val]) (KeptC S) (fun ys => ys = q) (fun pre => ∃ k, k ≤ q.length ∧ pre = q.take k) q.length w := fun l J Jx W hW hJ _ hY h0 =>
  all2_in n hn l b p r S q hq J Jx W hJ hY h0 ((hb.below hW).cell 0 _ rfl) (hN.below hW) (fun k hk => Nat.lt_of_lt_of_le (hS k hk) hW.size)
theorem func_ne_nil (b : Nat) (w : World) : (binOp .eql 50 (.func (.func 31) #[] #[.pointer (some ⟨b, 0, none⟩)]) .nilFunc).run Try.prog w = .ok (.bool false) w := by
  kernel_rfl
/-- What stands while all that is under way is gone over. -/
structure Going (w : World) (rb kb ub p : Nat) (r : Option Nat) (L : List Gr) (pre : List Gr) (W : World) : Prop where
  pfx : pre = L.take pre.length
  k : Has W kb (.cells #[.int .i64 (pre.length : Int)] 3)
  net : NetAt 48 W p r L
  u : Has W ub (.cells #[.pointer (some ⟨p, 0, none⟩)] 46)
  res : Has W rb (.cells #[.bool false] 4)
  below : Below w.heap.size w W
theorem Going.keptC {w : World} {rb kb ub p : Nat} {r : Option Nat} {L pre : List Gr} {W W' : World} (h : Going w rb kb ub p r L pre W) (k : KeptC (fun _ => False) W W') (hb : Below w.heap.size w W') : Going w rb kb ub p r L pre W' :=
  ⟨h.pfx, h.k.keptC k rfl (fun e => e), h.net.keptC k (fun _ _ e => e), h.u.keptC k rfl (fun e => e), h.res.keptC k rfl (fun e => e), hb⟩
theorem Going.own {w : World} {rb kb ub p : Nat} {r : Option Nat} {L : List Gr} {B : Nat} (hB : w.heap.size ≤ B) : OwnFrom B (fun pre W => Going w rb kb ub p r L pre W) := fun s X Y row hs hg hr =>
  hs.keptC (KeptC.grown hg (fun r e => (hr r e).2)) (hs.below.grown hg (hs.below.size) (fun k e => Nat.le_trans hB (hr k e).1))
set_option maxRecDepth 100000 in
set_option maxHeartbeats 8000000 in
theorem MistExact_walk (A : Option Addr) (n c : Nat) (l : List MAct) (w : World) (I : IsRow 8 MAct.row MAct.ok w A n c l) :
    Calls Try.prog 6 #[.slice A n c] w fun e w' => e = .returned (.bool true) ∧ Below w.heap.size w w' := by
  have CA := Lib.hid (fun w => mistAwake_any w)
  have H := Lib.hid I
  have hcap := I.cap
  have hmost := I.most
  clear I
  refine calls_of_wp_marks Try.func6 rfl ?_
  simp only [Try.ntmps6, List.size_toArray, List.length_cons, List.length_nil, Nat.reduceAdd, Nat.reduceSub, Array.replicate_succ, Array.replicate_zero, List.push_toArray, List.append_toArray, List.nil_append, List.cons_append]
  go_wp2_with fail
  refine (CA.out _).mono ?_
  rintro e w0 ⟨rfl, b0⟩
  have B0 := Lib.hid (bup (bnew w _) b0)
  have RB := Lib.hid ((Has.new w (.cells #[.bool false] 4)).below b0)
  clear b0
  have hrl : w.heap.size < w0.heap.size := RB.out.lt
  go_wp2_with (go_at_call 8; (with_reducible refine (new_any _).mono ?_); rintro e w1 ⟨rfl, rfl⟩)
  obtain ⟨F, hF⟩ : ∃ F : Nat → Prop, F = fun k => k < w0.heap.size ∨ k = w0.heap.size + 1 + 1 := ⟨_, rfl⟩
  have HFB : Hid (∀ k, k < w0.heap.size → F k) := Lib.hid (fun k hk => by rw [hF]; exact .inl hk)
  have HFU : Hid (F (w0.heap.size + 1 + 1)) := Lib.hid (by rw [hF]; exact .inr rfl)
  have HH : Hid (Held F (Star (NetR 53 w0.heap.size []) (NetR 48 (w0.heap.size + 1) [])) (((w0.alloc (.cells #[.slice none 0 0] 53)).alloc (.cells #[.slice none 0 0] 48)).alloc (.cells #[.pointer (some ⟨w0.heap.size + 1, 0, none⟩)] 46))) := Lib.hid (by
    have h1 := Held.newNet Emp.good (Held.emp (F := fun k => k < w0.heap.size) (w := w0) (fun k hk => hk)) 53
    have h2 := Held.newNet (Star.good (NetR.good _ _ _) Emp.good) h1 48
    simp only [World.size_alloc] at h2
    have h3 := h2.turn (fun Z h => h.mono (fun _ x => x) (fun _ => Star.emp))
    refine h3.comm.more (Star.good (NetR.good _ _ _) (NetR.good _ _ _)) (bnew _ _) (fun j hj => ?_)
    rw [hF] at hj
    rcases hj with h | h
    · exact .inl h
    · subst h; exact .inr (by simp))
  have B1 : Hid (Below w0.heap.size w0 (((w0.alloc (.cells #[.slice none 0 0] 53)).alloc (.cells #[.slice none 0 0] 48)).alloc (.cells #[.pointer (some ⟨w0.heap.size + 1, 0, none⟩)] 46))) := Lib.hid (bup (bup (bnew w0 _) (bnew _ _)) (bnew _ _))
  have UB : Hid (Has (((w0.alloc (.cells #[.slice none 0 0] 53)).alloc (.cells #[.slice none 0 0] 48)).alloc (.cells #[.pointer (some ⟨w0.heap.size + 1, 0, none⟩)] 46)) (w0.heap.size + 1 + 1) (.cells #[.pointer (some ⟨w0.heap.size + 1, 0, none⟩)] 46)) := Lib.hid (Has.new2 _ _ _ _)
  have HI := Lib.hid (H.out.below B0.out)
  have gdM := Lib.hid (fun S => NetR.good 53 w0.heap.size S)
  have gdR := Lib.hid (fun S => NetR.good 48 (w0.heap.size + 1) S)
  clear hF H CA
  go_loopw [5] (fun i wr => ∃ (k : Nat) (L : List Gr), k ≤ n ∧ k ≤ 200 ∧ i = .int .i64 k ∧ Hid (L.length ≤ k) ∧ Hid (Held F (Star (NetR 53 w0.heap.size L) (NetR 48 (w0.heap.size + 1) L)) wr) ∧ Hid (Has wr (w0.heap.size + 1 + 1) (.cells #[.pointer (some ⟨w0.heap.size + 1, 0, none⟩)] 46)) ∧ Hid (Below w0.heap.size w0 wr)) (fun i _ => n - (intOf i).toNat)
  case atStart => exact ⟨0, [], by omega, by omega, rfl, Lib.hid (Nat.le_refl _), HH, UB, B1⟩
  case round =>
    obtain ⟨k, L, hk, hk2, rfl, HL, HS, HU, HB⟩ := hrel
    clear HH B1 UB
    by_cases hlt : k < n ∧ k < 200
    · obtain ⟨hlt, hlt2⟩ := hlt
      obtain ⟨b, off, x, rfl, hx, hok, hG⟩ := acts_at HI.out hlt
      have hG0 := hG.below HB.out
      obtain ⟨kd, ⟨c', u, ep, sq, ak, bd⟩, at1⟩ := x
      have ha1 := bounds_i64 hok.2.2
      have hbd : bd.size ≤ 140737488351232 := hok.2.1.2.2.2.2
      have hbl : b < wr.heap.size := block_lt_of_cell hG0.k
      simp only at ha1
      have HA := Lib.hid ha1
      have dk := hG0.k
      have da := hG0.at_
      have d0 := hG0.g.a0
      have d1 := hG0.g.a1
      have d2 := hG0.g.a2
      have d3 := hG0.g.a3
      have d4 := hG0.g.a4
      have d5 := hG0.g.a5
      simp only at d0 d1 d2 d3 d4 d5
      simp only at dk da
      have rb0 := (RB.out.below HB.out).cell 0 _ rfl
      have rbf := (RB.out.below HB.out).free 0
      have hrw : w.heap.size < wr.heap.size := by have := HB.out.size; omega
      clear hG hx hG0 hok ha1
      by_cases hbig : 4096 < bd.size
      · go_wp2_with fail
        (try simp only [Exit.inBlock, Exit.then])
        refine marks_ret (v := .bool true) ?_ rfl ⟨rfl, ?_⟩
        · refine results_cell_bool rfl _ _ w.heap.size true rfl ?_ Try.underlying4
          exact (Below.cell (bnew _ _) (p := ⟨w.heap.size, 0, none⟩) (by simp; omega)).trans (World.cell?_setCell_same' _ _ _ (by rw [rb0]; rfl))
        · exact ((B0.out.trans (HB.out.mono B0.out.size)).setCell (p := ⟨w.heap.size, 0, none⟩) (Nat.le_refl _) _).trans ((bnew _ _).mono (by simp; omega))
      · have hbig' : bd.size ≤ 4096 := by omega
        clear hbig
        go_upto_block 2 with (fail)
        have Y1 : Hid (Has (((wr.alloc (.cells #[.int .i64 kd, .int .i64 c', .bool u, .int .i64 ep, .int .i64 sq, .int .i64 ak, .string bd, .int .i64 at1] 44)).alloc (.cells #[.int .i64 0, .bool false, .int .i64 0, .int .i64 0, .int .i64 0, .string ⟨#[]⟩] 27)).alloc (.cells #[.int .i64 0, .bool false, .int .i64 0, .int .i64 0, .int .i64 0, .string ⟨#[]⟩] 27)) wr.heap.size (.cells #[.int .i64 kd, .int .i64 c', .bool u, .int .i64 ep, .int .i64 sq, .int .i64 ak, .string bd, .int .i64 at1] 44)) := Lib.hid (((Has.new _ _).alloc _).alloc _)
        have Y2 : Hid (Has (((wr.alloc (.cells #[.int .i64 kd, .int .i64 c', .bool u, .int .i64 ep, .int .i64 sq, .int .i64 ak, .string bd, .int .i64 at1] 44)).alloc (.cells #[.int .i64 0, .bool false, .int .i64 0, .int .i64 0, .int .i64 0, .string ⟨#[]⟩] 27)).alloc (.cells #[.int .i64 0, .bool false, .int .i64 0, .int .i64 0, .int .i64 0, .string ⟨#[]⟩] 27)) (wr.heap.size + 1) (.cells #[.int .i64 0, .bool false, .int .i64 0, .int .i64 0, .int .i64 0, .string ⟨#[]⟩] 27)) := Lib.hid ((Has.new1 _ _ _).alloc _)
        have Y3 : Hid (Has (((wr.alloc (.cells #[.int .i64 kd, .int .i64 c', .bool u, .int .i64 ep, .int .i64 sq, .int .i64 ak, .string bd, .int .i64 at1] 44)).alloc (.cells #[.int .i64 0, .bool false, .int .i64 0, .int .i64 0, .int .i64 0, .string ⟨#[]⟩] 27)).alloc (.cells #[.int .i64 0, .bool false, .int .i64 0, .int .i64 0, .int .i64 0, .string ⟨#[]⟩] 27)) (wr.heap.size + 1 + 1) (.cells #[.int .i64 0, .bool false, .int .i64 0, .int .i64 0, .int .i64 0, .string ⟨#[]⟩] 27)) := Lib.hid (Has.new2 _ _ _ _)
        have BN : Below wr.heap.size wr (((wr.alloc (.cells #[.int .i64 kd, .int .i64 c', .bool u, .int .i64 ep, .int .i64 sq, .int .i64 ak, .string bd, .int .i64 at1] 44)).alloc (.cells #[.int .i64 0, .bool false, .int .i64 0, .int .i64 0, .int .i64 0, .string ⟨#[]⟩] 27)).alloc (.cells #[.int .i64 0, .bool false, .int .i64 0, .int .i64 0, .int .i64 0, .string ⟨#[]⟩] 27)) := bup (bup (bnew wr _) (bnew _ _)) (bnew _ _)
        have H3 : Hid (Held (fun j => F j ∨ (wr.heap.size ≤ j ∧ j ≤ wr.heap.size + 2)) (Star (NetR 53 w0.heap.size L) (NetR 48 (w0.heap.size + 1) L)) (((wr.alloc (.cells #[.int .i64 kd, .int .i64 c', .bool u, .int .i64 ep, .int .i64 sq, .int .i64 ak, .string bd, .int .i64 at1] 44)).alloc (.cells #[.int .i64 0, .bool false, .int .i64 0, .int .i64 0, .int .i64 0, .string ⟨#[]⟩] 27)).alloc (.cells #[.int .i64 0, .bool false, .int .i64 0, .int .i64 0, .int .i64 0, .string ⟨#[]⟩] 27))) := Lib.hid (HS.out.more (Star.good (gdM.out _) (gdR.out _)) BN (fun j hj => hj.imp id (fun e => by simp; omega)))
        have U3 := Lib.hid (HU.out.below BN)
        have B3 := Lib.hid (bup HB.out BN)
        generalize hw3 : World.alloc (World.alloc (World.alloc wr _) _) _ = w3
        rw [hw3] at Y1 Y2 Y3 H3 U3 B3
        have h200 : L.length ≤ 1000000 := by have := HL.out; omega
        have hu0 : w0.heap.size + 1 + 1 < wr.heap.size := HU.out.lt
        have FB3 : Hid (∀ j, j < w0.heap.size → (fun j => F j ∨ (wr.heap.size ≤ j ∧ j ≤ wr.heap.size + 2)) j) := Lib.hid (fun j hj => .inl (HFB.out j hj))
        have FU3 : Hid ((fun j => F j ∨ (wr.heap.size ≤ j ∧ j ≤ wr.heap.size + 2)) (w0.heap.size + 1 + 1)) := Lib.hid (.inl HFU.out)
        have FY1 : Hid ((fun j => F j ∨ (wr.heap.size ≤ j ∧ j ≤ wr.heap.size + 2)) wr.heap.size) := Lib.hid (.inr ⟨by omega, by omega⟩)
        have FY2 : Hid ((fun j => F j ∨ (wr.heap.size ≤ j ∧ j ≤ wr.heap.size + 2)) (wr.heap.size + 1)) := Lib.hid (.inr ⟨by omega, by omega⟩)
        have FY3 : Hid ((fun j => F j ∨ (wr.heap.size ≤ j ∧ j ≤ wr.heap.size + 2)) (wr.heap.size + 1 + 1)) := Lib.hid (.inr ⟨by omega, by omega⟩)
        obtain ⟨G, hGe⟩ : ∃ G : Nat → Prop, G = (fun j => F j ∨ (wr.heap.size ≤ j ∧ j ≤ wr.heap.size + 2)) := ⟨_, rfl⟩
        rw [← hGe] at H3 FB3 FU3 FY1 FY2 FY3
        have FL3 : Hid (∀ j, F j → G j) := Lib.hid (fun j hj => by rw [hGe]; exact .inl hj)
        clear hw3 BN d0 d1 d2 d3 d4 d5 dk da HS HU rb0 rbf hGe
        go_cut [11, 12] from 21 to 134 (fun v11 v12 wx => ∃ (L' : List Gr) (g : Gr) (tt : Bool), v11 = .bool tt ∧ v12 = .bool tt ∧ Hid (L'.length ≤ k + 1) ∧ Hid (Held F (Star (NetR 53 w0.heap.size L') (NetR 48 (w0.heap.size + 1) L')) wx) ∧ Hid (Has wx (wr.heap.size + 1) (.cells g.row 27)) ∧ Hid (Has wx (wr.heap.size + 1 + 1) (.cells g.row 27)) ∧ Hid (Has wx (w0.heap.size + 1 + 1) (.cells #[.pointer (some ⟨w0.heap.size + 1, 0, none⟩)] 46)) ∧ Hid (Below w0.heap.size w0 wx))
        case first =>
          by_cases h1 : (kd == 1) = true
          · have CPM := fun S' w h => putH (F := G) (gdR.out S') w0.heap.size L (⟨c', u, ep, sq, ak, bd⟩ : Gr) w h200 h
            have CPR := fun S' w h => Calls.held (F := G) (w := w) (gdM.out S') h (fun r hN => rput_any (w0.heap.size + 1) r L (⟨c', u, ep, sq, ak, bd⟩ : Gr) w hN h200)
            have HLen := putG_len L (⟨c', u, ep, sq, ak, bd⟩ : Gr)
            obtain ⟨R, hR⟩ : ∃ R, putG L (⟨c', u, ep, sq, ak, bd⟩ : Gr) = R := ⟨_, rfl⟩
            rw [hR] at CPM CPR HLen
            obtain ⟨L1, er⟩ := R
            simp only [Gr.val] at CPM CPR
            simp only at HLen
            replace HLen : Hid (L1.length ≤ k + 1) := Lib.hid (by have := HL.out; omega)
            replace CPM := Lib.hid CPM
            replace CPR := Lib.hid CPR
            clear hR
            have y1 := Y1.out.cell 1 _ rfl
            have y2 := Y1.out.cell 2 _ rfl
            have y3 := Y1.out.cell 3 _ rfl
            have y4 := Y1.out.cell 4 _ rfl
            have y5 := Y1.out.cell 5 _ rfl
            have y6 := Y1.out.cell 6 _ rfl
            have u0 := U3.out.cell 0 _ rfl
            have HDa := Lib.hid (H3.out.below (Star.good (gdM.out _) (gdR.out _)) ((Below.refl _ w3).drew))
            have HDb := Lib.hid HDa.out.comm
            have DBa : Hid (Below w3.heap.size w3 w3.drew) := Lib.hid ((Below.refl _ _).drew)
            have HK : Hid (∀ w', KeptF G w3 w' → (fun w' => w'.cell? ⟨wr.heap.size, 1, none⟩ = some (.int .i64 c') ∧ w'.cell? ⟨wr.heap.size, 2, none⟩ = some (.bool u) ∧ w'.cell? ⟨wr.heap.size, 3, none⟩ = some (.int .i64 ep) ∧ w'.cell? ⟨wr.heap.size, 4, none⟩ = some (.int .i64 sq) ∧ w'.cell? ⟨wr.heap.size, 5, none⟩ = some (.int .i64 ak) ∧ w'.cell? ⟨wr.heap.size, 6, none⟩ = some (.string bd) ∧ w'.cell? ⟨w0.heap.size + 1 + 1, 0, none⟩ = some (.pointer (some ⟨w0.heap.size + 1, 0, none⟩))) w') := Lib.hid (fun w' kk => ⟨(Y1.out.keptF kk FY1.out).cell 1 _ rfl, (Y1.out.keptF kk FY1.out).cell 2 _ rfl, (Y1.out.keptF kk FY1.out).cell 3 _ rfl, (Y1.out.keptF kk FY1.out).cell 4 _ rfl, (Y1.out.keptF kk FY1.out).cell 5 _ rfl, (Y1.out.keptF kk FY1.out).cell 6 _ rfl, (U3.out.keptF kk FU3.out).cell 0 _ rfl⟩)
            go_upto_region 19 with (fail)
            go_region_held3 (fun w' => w'.cell? ⟨wr.heap.size, 1, none⟩ = some (.int .i64 c') ∧ w'.cell? ⟨wr.heap.size, 2, none⟩ = some (.bool u) ∧ w'.cell? ⟨wr.heap.size, 3, none⟩ = some (.int .i64 ep) ∧ w'.cell? ⟨wr.heap.size, 4, none⟩ = some (.int .i64 sq) ∧ w'.cell? ⟨wr.heap.size, 5, none⟩ = some (.int .i64 ak) ∧ w'.cell? ⟨wr.heap.size, 6, none⟩ = some (.string bd) ∧ w'.cell? ⟨w0.heap.size + 1 + 1, 0, none⟩ = some (.pointer (some ⟨w0.heap.size + 1, 0, none⟩))) ((refine HK.out _ ?_; first | with_reducible exact Kept.of DBa.out | with_reducible exact s4 | with_reducible exact s5 | with_reducible exact s9))
              (first
              | (go_at_call 9; ((with_reducible refine (CPM.out _ _ HDa.out).mono ?_)); rintro e w4 ⟨rfl, h4, k4⟩; have s4 : KeptF G w3 w4 := (Kept.of DBa.out).trans k4; have H4 := Lib.hid h4.comm; clear h4 k4)
              | (go_at_call 9; ((with_reducible refine (CPM.out _ _ H5.out).mono ?_)); rintro e w9 ⟨rfl, h9, k9⟩; have s9 : KeptF G w3 w9 := s5.trans k9; have H9 := Lib.hid h9; clear h9 k9)
              | (go_at_call 16; ((with_reducible refine (CPR.out _ _ HDb.out).mono ?_)); rintro e w5 ⟨rfl, h5, k5⟩; have s5 : KeptF G w3 w5 := (Kept.of DBa.out).trans k5; have H5 := Lib.hid h5.comm; clear h5 k5)
              | (go_at_call 16; ((with_reducible refine (CPR.out _ _ H4.out).mono ?_)); rintro e w9 ⟨rfl, h9, k9⟩; have s9 : KeptF G w3 w9 := s4.trans k9; have H9 := Lib.hid h9.comm; clear h9 k9))
            all_goals
              go_wp2_with fail
              go_meet
              exact ⟨L1, Gr.none, true, rfl, rfl, HLen, Lib.hid (H9.out.less FL3.out), Lib.hid (Y2.out.keptF s9 FY2.out), Lib.hid (Y3.out.keptF s9 FY3.out), Lib.hid (U3.out.keptF s9 FU3.out), Lib.hid (B3.out.trans (s9.belowB FB3.out B3.out.size))⟩
          · have h1' : (kd == 1) = false := by simpa using h1
            clear h1
            by_cases h2 : (kd == 2) = true
            · have CPM := fun S' w h => pickH (F := G) (gdR.out S') w0.heap.size L c' u at1 w HA.out.1 HA.out.2 h
              have CPR := fun S' w h => Calls.held (F := G) (w := w) (gdM.out S') h (fun r hN => rpick_any (w0.heap.size + 1) r L c' u at1 w hN h200 HA.out.1 HA.out.2)
              have HLen : (pickG L c' u at1).1.length ≤ L.length := pullG_len L (plc c' u L at1)
              obtain ⟨R, hR⟩ : ∃ R, pickG L c' u at1 = R := ⟨_, rfl⟩
              rw [hR] at CPM CPR HLen
              obtain ⟨L1, ⟨gc, gu, gep, gsq, gak, gbd⟩, tt⟩ := R
              simp only [Gr.val] at CPM CPR
              simp only at HLen
              replace HLen : Hid (L1.length ≤ k + 1) := Lib.hid (by have := HL.out; omega)
              replace CPM := Lib.hid CPM
              replace CPR := Lib.hid CPR
              clear hR
              have y7 := Y1.out.cell 7 _ rfl
              have u0 := U3.out.cell 0 _ rfl
              go_wp2_with fail
              refine (CPM.out _ _ H3.out).mono ?_
              rintro e w4 ⟨rfl, h4, k4⟩
              have H4 := Lib.hid h4.comm
              have K4 := Lib.hid k4
              have Z1 := Lib.hid (Y1.out.keptF k4 FY1.out)
              have Z2 := Lib.hid (Y2.out.keptF k4 FY2.out)
              have Z3 := Lib.hid (Y3.out.keptF k4 FY3.out)
              have ZU := Lib.hid (U3.out.keptF k4 FU3.out)
              clear h4 k4 u0 y7
              go_wp2_with ((with_reducible refine at_store rfl ?_); refine wpList_put_row rfl _ _ _ rfl rfl (wr.heap.size + 1) _ rfl rfl _ _ Z2.out (by kernel_rfl) rfl (by first | kernel_rfl | simp [Value.oneCell']) ?_; intro w5 X2 B5; have P2 := Lib.hid X2; have Q5 := Lib.hid B5; have u0 := (ZU.out.but B5 (by omega)).cell 0 _ rfl; have y7 := (Z1.out.but B5 (by omega)).cell 7 _ rfl; clear X2 B5)
              refine (CPR.out _ _ (H4.out.but (Star.good (gdR.out _) (gdM.out _)) Q5.out FY2.out)).mono ?_
              rintro e w6 ⟨rfl, h6, k6⟩
              have H6 := Lib.hid h6.comm
              have K6 := Lib.hid k6
              have V2 : Hid (Has w6 (wr.heap.size + 1) (.cells #[.int .i64 gc, .bool gu, .int .i64 gep, .int .i64 gsq, .int .i64 gak, .string gbd] 27)) := Lib.hid (Has.keptF P2.out k6 FY2.out)
              have V3 := Lib.hid ((Z3.out.but Q5.out (by omega)).keptF k6 FY3.out)
              have VU := Lib.hid ((ZU.out.but Q5.out (by omega)).keptF k6 FU3.out)
              have B4 := Lib.hid (B3.out.trans (K4.out.belowB FB3.out B3.out.size))
              have B5 := Lib.hid (B4.out.trans (Q5.out.below (by omega) B4.out.size))
              have B6 := Lib.hid (B5.out.trans (k6.belowB FB3.out B5.out.size))
              clear h6 k6 u0 y7
              go_wp2_with ((with_reducible refine at_store rfl ?_); refine wpList_put_row rfl _ _ _ rfl rfl (wr.heap.size + 1 + 1) _ rfl rfl _ _ V3.out (by kernel_rfl) rfl (by first | kernel_rfl | simp [Value.oneCell']) ?_; intro w7 X3 B7; have P3 := Lib.hid X3; have Q7 := Lib.hid B7; clear X3 B7)
              go_meet
              exact ⟨L1, ⟨gc, gu, gep, gsq, gak, gbd⟩, tt, rfl, rfl, HLen, Lib.hid ((H6.out.but (Star.good (gdM.out _) (gdR.out _)) Q7.out FY3.out).less FL3.out), Lib.hid (V2.out.but Q7.out (by omega)), P3, Lib.hid (VU.out.but Q7.out (by omega)), Lib.hid (B6.out.trans (Q7.out.below (by have := hu0; omega) B6.out.size))⟩
            · have h2' : (kd == 2) = false := by simpa using h2
              clear h2
              by_cases h3 : (kd == 3) = true
              · have CPM := fun S' w h => copyH (F := G) (gdR.out S') w0.heap.size L c' u at1 w h200 HA.out.1 HA.out.2 h
                have CPR := fun S' w h => Calls.held (F := G) (w := w) (gdM.out S') h (fun r hN => rcopy_any (w0.heap.size + 1) r L c' u at1 w hN h200 HA.out.1 HA.out.2)
                have HLen := copyG_len L c' u at1
                obtain ⟨R, hR⟩ : ∃ R, copyG L c' u at1 = R := ⟨_, rfl⟩
                rw [hR] at CPM CPR HLen
                obtain ⟨L1, tt⟩ := R
                simp only at CPM CPR HLen
                replace HLen : Hid (L1.length ≤ k + 1) := Lib.hid (by have := HL.out; omega)
                replace CPM := Lib.hid CPM
                replace CPR := Lib.hid CPR
                clear hR
                have y7 := Y1.out.cell 7 _ rfl
                have u0 := U3.out.cell 0 _ rfl
                go_wp2_with fail
                refine (CPM.out _ _ H3.out).mono ?_
                rintro e w4 ⟨rfl, h4, k4⟩
                have H4 := Lib.hid h4.comm
                have K4 := Lib.hid k4
                clear y7 u0
                have y7 := (Y1.out.keptF k4 FY1.out).cell 7 _ rfl
                have u0 := (U3.out.keptF k4 FU3.out).cell 0 _ rfl
                clear h4 k4
                go_wp2_with fail
                refine (CPR.out _ _ H4.out).mono ?_
                rintro e w6 ⟨rfl, h6, k6⟩
                have H6 := Lib.hid h6.comm
                have s9 : KeptF G w3 w6 := K4.out.trans k6
                clear h6 k6 u0 y7
                go_wp2_with fail
                go_meet
                exact ⟨L1, Gr.none, tt, rfl, rfl, HLen, Lib.hid (H6.out.less FL3.out), Lib.hid (Y2.out.keptF s9 FY2.out), Lib.hid (Y3.out.keptF s9 FY3.out), Lib.hid (U3.out.keptF s9 FU3.out), Lib.hid (B3.out.trans (s9.belowB FB3.out B3.out.size))⟩
              · have h3' : (kd == 3) = false := by simpa using h3
                clear h3
                by_cases h4 : (kd == 4) = true
                · have CPM := fun S' w h => eldestH (F := G) (gdR.out S') w0.heap.size L w h
                  have CPR := fun S' w h => Calls.held (F := G) (w := w) (gdM.out S') h (fun r hN => reldest_any (w0.heap.size + 1) r L w hN h200)
                  have HLen := pullG_len L 0
                  obtain ⟨R, hR⟩ : ∃ R, pullG L 0 = R := ⟨_, rfl⟩
                  rw [hR] at CPM CPR HLen
                  obtain ⟨L1, ⟨gc, gu, gep, gsq, gak, gbd⟩, tt⟩ := R
                  simp only [Gr.val] at CPM CPR
                  simp only at HLen
                  replace HLen : Hid (L1.length ≤ k + 1) := Lib.hid (by have := HL.out; omega)
                  replace CPM := Lib.hid CPM
                  replace CPR := Lib.hid CPR
                  clear hR
                  skip
                  have u0 := U3.out.cell 0 _ rfl
                  go_wp2_with fail
                  refine (CPM.out _ _ H3.out).mono ?_
                  rintro e w4 ⟨rfl, h4, k4⟩
                  have H4 := Lib.hid h4.comm
                  have K4 := Lib.hid k4
                  have Z1 := Lib.hid (Y1.out.keptF k4 FY1.out)
                  have Z2 := Lib.hid (Y2.out.keptF k4 FY2.out)
                  have Z3 := Lib.hid (Y3.out.keptF k4 FY3.out)
                  have ZU := Lib.hid (U3.out.keptF k4 FU3.out)
                  clear h4 k4 u0 
                  go_wp2_with ((with_reducible refine at_store rfl ?_); refine wpList_put_row rfl _ _ _ rfl rfl (wr.heap.size + 1) _ rfl rfl _ _ Z2.out (by kernel_rfl) rfl (by first | kernel_rfl | simp [Value.oneCell']) ?_; intro w5 X2 B5; have P2 := Lib.hid X2; have Q5 := Lib.hid B5; have u0 := (ZU.out.but B5 (by omega)).cell 0 _ rfl; clear X2 B5)
                  refine (CPR.out _ _ (H4.out.but (Star.good (gdR.out _) (gdM.out _)) Q5.out FY2.out)).mono ?_
                  rintro e w6 ⟨rfl, h6, k6⟩
                  have H6 := Lib.hid h6.comm
                  have K6 := Lib.hid k6
                  have V2 : Hid (Has w6 (wr.heap.size + 1) (.cells #[.int .i64 gc, .bool gu, .int .i64 gep, .int .i64 gsq, .int .i64 gak, .string gbd] 27)) := Lib.hid (Has.keptF P2.out k6 FY2.out)
                  have V3 := Lib.hid ((Z3.out.but Q5.out (by omega)).keptF k6 FY3.out)
                  have VU := Lib.hid ((ZU.out.but Q5.out (by omega)).keptF k6 FU3.out)
                  have B4 := Lib.hid (B3.out.trans (K4.out.belowB FB3.out B3.out.size))
                  have B5 := Lib.hid (B4.out.trans (Q5.out.below (by omega) B4.out.size))
                  have B6 := Lib.hid (B5.out.trans (k6.belowB FB3.out B5.out.size))
                  clear h6 k6 u0 
                  go_wp2_with ((with_reducible refine at_store rfl ?_); refine wpList_put_row rfl _ _ _ rfl rfl (wr.heap.size + 1 + 1) _ rfl rfl _ _ V3.out (by kernel_rfl) rfl (by first | kernel_rfl | simp [Value.oneCell']) ?_; intro w7 X3 B7; have P3 := Lib.hid X3; have Q7 := Lib.hid B7; clear X3 B7)
                  go_meet
                  exact ⟨L1, ⟨gc, gu, gep, gsq, gak, gbd⟩, tt, rfl, rfl, HLen, Lib.hid ((H6.out.but (Star.good (gdM.out _) (gdR.out _)) Q7.out FY3.out).less FL3.out), Lib.hid (V2.out.but Q7.out (by omega)), P3, Lib.hid (VU.out.but Q7.out (by omega)), Lib.hid (B6.out.trans (Q7.out.below (by have := hu0; omega) B6.out.size))⟩
                · have h4' : (kd == 4) = false := by simpa using h4
                  clear h4
                  by_cases h5 : (kd == 5) = true
                  · have CPM := fun S' w h => clearH (F := G) (gdR.out S') w0.heap.size L c' w h
                    have CPR := fun S' w h => Calls.held (F := G) (w := w) (gdM.out S') h (fun r hN => rclear_any (w0.heap.size + 1) r L c' w hN h200)
                    have HLen : (clearG L c').1.length ≤ L.length := List.length_filter_le _ _
                    obtain ⟨R, hR⟩ : ∃ R, clearG L c' = R := ⟨_, rfl⟩
                    rw [hR] at CPM CPR HLen
                    obtain ⟨L1, er⟩ := R
                    simp only at CPM CPR HLen
                    replace HLen : Hid (L1.length ≤ k + 1) := Lib.hid (by have := HL.out; omega)
                    replace CPM := Lib.hid CPM
                    replace CPR := Lib.hid CPR
                    clear hR
                    have u0 := U3.out.cell 0 _ rfl
                    have HDa := Lib.hid (H3.out.below (Star.good (gdM.out _) (gdR.out _)) ((Below.refl _ w3).drew))
                    have HDb := Lib.hid HDa.out.comm
                    have DBa : Hid (Below w3.heap.size w3 w3.drew) := Lib.hid ((Below.refl _ _).drew)
                    have HK : Hid (∀ w', KeptF G w3 w' → (fun w' => w'.cell? ⟨w0.heap.size + 1 + 1, 0, none⟩ = some (.pointer (some ⟨w0.heap.size + 1, 0, none⟩))) w') := Lib.hid (fun w' kk => (U3.out.keptF kk FU3.out).cell 0 _ rfl)
                    go_upto_region 31 with (fail)
                    go_region_held3 (fun w' => w'.cell? ⟨w0.heap.size + 1 + 1, 0, none⟩ = some (.pointer (some ⟨w0.heap.size + 1, 0, none⟩))) ((refine HK.out _ ?_; first | with_reducible exact Kept.of DBa.out | with_reducible exact s4 | with_reducible exact s5 | with_reducible exact s9))
                      (first
                      | (go_at_call 14; ((with_reducible refine (CPM.out _ _ HDa.out).mono ?_)); rintro e w4 ⟨rfl, h4, k4⟩; have s4 : KeptF G w3 w4 := (Kept.of DBa.out).trans k4; have H4 := Lib.hid h4.comm; clear h4 k4)
                      | (go_at_call 14; ((with_reducible refine (CPM.out _ _ H5.out).mono ?_)); rintro e w9 ⟨rfl, h9, k9⟩; have s9 : KeptF G w3 w9 := s5.trans k9; have H9 := Lib.hid h9; clear h9 k9)
                      | (go_at_call 20; ((with_reducible refine (CPR.out _ _ HDb.out).mono ?_)); rintro e w5 ⟨rfl, h5, k5⟩; have s5 : KeptF G w3 w5 := (Kept.of DBa.out).trans k5; have H5 := Lib.hid h5.comm; clear h5 k5)
                      | (go_at_call 20; ((with_reducible refine (CPR.out _ _ H4.out).mono ?_)); rintro e w9 ⟨rfl, h9, k9⟩; have s9 : KeptF G w3 w9 := s4.trans k9; have H9 := Lib.hid h9.comm; clear h9 k9))
                    all_goals
                      go_wp2_with fail
                      go_meet
                      exact ⟨L1, Gr.none, true, rfl, rfl, HLen, Lib.hid (H9.out.less FL3.out), Lib.hid (Y2.out.keptF s9 FY2.out), Lib.hid (Y3.out.keptF s9 FY3.out), Lib.hid (U3.out.keptF s9 FU3.out), Lib.hid (B3.out.trans (s9.belowB FB3.out B3.out.size))⟩
                  · have h5' : (kd == 5) = false := by simpa using h5
                    clear h5
                    go_wp2_with fail
                    go_meet
                    exact ⟨L, Gr.none, true, rfl, rfl, Lib.hid (by have := HL.out; omega), Lib.hid (H3.out.less FL3.out), Y2, Y3, U3, B3⟩
        case rest =>
          obtain ⟨L', ⟨gc, gu, gep, gsq, gak, gbd⟩, tt, rfl, rfl, HL', HS', Z2, Z3, ZU, HB'⟩ := hcut
          simp only [Gr.row] at Z2 Z3
          have a0 := cell_regrown (Z2.out.cell 0 _ rfl)
          have a1 := cell_regrown (Z2.out.cell 1 _ rfl)
          have a2 := cell_regrown (Z2.out.cell 2 _ rfl)
          have a3 := cell_regrown (Z2.out.cell 3 _ rfl)
          have a4 := cell_regrown (Z2.out.cell 4 _ rfl)
          have a5 := cell_regrown (Z2.out.cell 5 _ rfl)
          have e0 := cell_regrown (Z3.out.cell 0 _ rfl)
          have e1 := cell_regrown (Z3.out.cell 1 _ rfl)
          have e2 := cell_regrown (Z3.out.cell 2 _ rfl)
          have e3 := cell_regrown (Z3.out.cell 3 _ rfl)
          have e4 := cell_regrown (Z3.out.cell 4 _ rfl)
          have e5 := cell_regrown (Z3.out.cell 5 _ rfl)
          have u0 := cell_regrown (ZU.out.cell 0 _ rfl)
          have CX : ∀ w, (binOp .neq 27 (.agg #[.int .i64 gc, .bool gu, .int .i64 gep, .int .i64 gsq, .int .i64 gak, .string gbd]) (.agg #[.int .i64 gc, .bool gu, .int .i64 gep, .int .i64 gsq, .int .i64 gak, .string gbd])).run Try.prog w = .ok (.bool false) w := fun w => by
            have := grNeqBin (⟨gc, gu, gep, gsq, gak, gbd⟩ : Gr) ⟨gc, gu, gep, gsq, gak, gbd⟩ w
            rw [grEq_self] at this
            exact this
          have ctt : (tt != tt) = false := by simp
          have c1 := fun x os => Calls.regrown_of ((countH (gdR.out L') w0.heap.size L' c' u (grow (redrawn wc x) os) (HS'.out.below (Star.good (gdM.out _) (gdR.out _)) (below_regrown wc x os))).mono (fun _ _ h => ⟨h.1, h.2.2⟩))
          have c2 := fun x os => Calls.regrown_of (by
            obtain ⟨r, hN⟩ := (HS'.out.comm.below (Star.good (gdR.out _) (gdM.out _)) (below_regrown wc x os)).net
            exact rcount_any (w0.heap.size + 1) r c' u L' (grow (redrawn wc x) os) hN)
          go_upto_region 33 with (fail)
          refine wp_region_quiet_below (by kernel_rfl) (by kernel_rfl) ?_
          repeat (quiet_step (first | exact c1 _ _ | exact c2 _ _))
          refine wpQuiet_nil ?_
          intro _ hw4
          obtain ⟨⟨dq, osq⟩, hw5⟩ := hw4
          subst hw5
          go_wp2_with fail
          go_roundw
          case rel => exact ⟨k + 1, L', by omega, by omega, by go_num, HL', Lib.hid (HS'.out.below (Star.good (gdM.out _) (gdR.out _)) (below_regrown wc _ _)), Lib.hid (ZU.out.below (below_regrown wc _ _)), Lib.hid (bup HB'.out (below_regrown wc _ _))⟩
          case measure => simp [intOf]; omega
    · have hk3 : n ≤ k ∨ 200 ≤ k := by omega
      have CF := fun (b : Nat) (w : World) => func_ne_nil b w
      have BS : Below wr.heap.size wr ((wr.alloc (.cells #[.pointer (some ⟨w0.heap.size, 0, none⟩)] 24)).alloc (.cells #[.int .i64 0] 3)) := bup (bnew wr _) (bnew _ _)
      obtain ⟨r1, hN1⟩ := HS.out.net
      obtain ⟨r2, hN2⟩ := HS.out.comm.net
      have HZ : Hid (∀ j, zone (w0.heap.size + 1) r2 j → ¬ j = wr.heap.size + 1) := Lib.hid (fun j hj => by have := hN2.lt j hj; omega)
      have N1S := Lib.hid (hN1.below BS)
      have N2S := Lib.hid (hN2.below BS)
      clear hN1 hN2
      have HUS := Lib.hid (HU.out.below BS)
      have HBS := Lib.hid (bup HB.out BS)
      have HNS : Hid (Has ((wr.alloc (.cells #[.pointer (some ⟨w0.heap.size, 0, none⟩)] 24)).alloc (.cells #[.int .i64 0] 3)) wr.heap.size (.cells #[.pointer (some ⟨w0.heap.size, 0, none⟩)] 24)) := Lib.hid ((Has.new _ _).alloc _)
      have HKS : Hid (Has ((wr.alloc (.cells #[.pointer (some ⟨w0.heap.size, 0, none⟩)] 24)).alloc (.cells #[.int .i64 0] 3)) (wr.heap.size + 1) (.cells #[.int .i64 0] 3)) := Lib.hid (Has.new1 _ _ _)
      have hL6 : L.length ≤ 1000000 := by have := HL.out; omega
      have hu0 : w0.heap.size + 1 + 1 < wr.heap.size := HU.out.lt
      clear BS
      by_cases hkn : k < n
      all_goals
        first | (have hk5 : 200 ≤ k := by omega) | skip
        clear hlt
        go_upto_region 39 with (go_at_call 22; (with_reducible refine (all_any _ _).mono ?_); rintro e w1 ⟨rfl, rfl⟩)
        go_cut [139] from 21 to 167 (fun v139 wx => v139 = .func (.func 31) #[] #[.pointer (some ⟨wr.heap.size, 0, none⟩)] ∧ Hid (NetAt 53 wx w0.heap.size r1 L) ∧ Hid (NetAt 48 wx (w0.heap.size + 1) r2 L) ∧ Hid (Has wx (w0.heap.size + 1 + 1) (.cells #[.pointer (some ⟨w0.heap.size + 1, 0, none⟩)] 46)) ∧ Hid (Has wx wr.heap.size (.cells #[.pointer (some ⟨w0.heap.size, 0, none⟩)] 24)) ∧ Hid (Has wx (wr.heap.size + 1) (.cells #[.int .i64 0] 3)) ∧ Hid (Below w0.heap.size w0 wx))
        case first =>
          go_wp2_with fail
          go_meet
          exact ⟨rfl, N1S, N2S, HUS, HNS, HKS, HBS⟩
        case rest =>
          obtain ⟨rfl, HN1, HN2, HU', HN', HK', HB'⟩ := hcut
          clear N1S N2S HUS HBS HNS HKS HS HU HB
          have hkl := HK'.out.lt
          have BW : Below w.heap.size w wc := B0.out.trans (HB'.out.mono B0.out.size)
          have G0 : Going w w.heap.size (wr.heap.size + 1) (w0.heap.size + 1 + 1) (w0.heap.size + 1) r2 L [] wc := ⟨rfl, HK'.out, HN2.out, HU'.out, RB.out.below HB'.out, BW⟩
          go_wp2_with fail
          refine (wpIn_wide (n := 5)).1 ?_
          refine wpIn_rangeFunc_ownH rfl (by omega) (gf := 31) (lb := #[.pointer (some ⟨wr.heap.size, 0, none⟩)]) rfl trivial (enters_of Try.func31 (by kernel_rfl) rfl)
            (all_stops 4 (by omega) wr.heap.size w0.heap.size r1 L (fun k => k = wr.heap.size + 1) wc hL6 HN1.out HN'.out (fun k hk => by omega))
            (fun h k => h.trans k) (fun W l o o' hl h1 h2 _ => KeptC.frame W l o o' h1 h2) (Below.refl _ _) (fun _ => rfl)
            (fun pre W => Going w w.heap.size (wr.heap.size + 1) (w0.heap.size + 1 + 1) (w0.heap.size + 1) r2 L pre W)
            (fun z pre W => z = .ret ∧ pre ≠ L.take pre.length)
            (Going.own BW.size) (fun z s X Y row hs _ _ => hs) G0
            (fun x a' W => ∃ gb, a' = { tmps := #[.slice A n c, undef, .pointer (some ⟨w.heap.size, 0, none⟩), .pointer (some ⟨w0.heap.size, 0, none⟩), .pointer (some ⟨w0.heap.size + 1 + 1, 0, none⟩), .int .i64 k, u6, u7, u8, u9, u10, u11, u12, .func (.func 31) #[] #[.pointer (some ⟨wr.heap.size, 0, none⟩)], .pointer (some ⟨wr.heap.size + 1, 0, none⟩), .pointer (some ⟨gb, 0, none⟩), .bool true, .bool false, .pointer (some ⟨w0.heap.size, 0, none⟩), .agg #[.slice none 0 0], .pointer (some ⟨w0.heap.size + 1, 0, none⟩), u21, u22, u23, u24, u25, u26, u27, u28, u29, u30, u31, u32, u33, u34, u35, u36, u37, u38, u39, u40, u41, u42, u43, u44, u45, u46, u47, u48, u49, u50, u51, u52, u53, u54, u55, u56, u57, u58, u59, u60, u61, u62, u63, u64, u65, u66, u67, u68, u69, u70, u71, u72, u73, u74, u75, u76, u77, u78, u79, u80, u81, u82, u83, u84, u85, u86, u87, u88, u89, u90, u91, u92, u93, u94, u95, u96, u97, u98, u99, u100, u101, u102, u103, u104, u105, u106, u107, u108, u109, u110, u111, u112, u113, u114, u115, u116, u117, u118, u119, u120, u121, u122, u123, u124, u125, u126, u127, u128, u129, u130, u131, u132, u133, u134, u135, u136, u137, u138, .func (.func 31) #[] #[.pointer (some ⟨wr.heap.size, 0, none⟩)], x.val, u141, u142, u143, u144, u145, u146, u147, u148, u149, u150, u151, u152, u153, u154, u155, u156, u157, u158, u159, u160, u161, u162, u163, u164, u165, u166, u167], defers := [] } ∧ Has W gb (.cells x.row 27))
            (fun x a' s X Y row hs hg hr => by
              obtain ⟨gb, h1, h2⟩ := hs
              exact ⟨gb, h1, h2.keptC (KeptC.grown (S := fun _ => False) hg (fun r e => (hr r e).2)) rfl (fun e => e)⟩)
            ?assign ?body ?done ?stop
          case assign =>
            intro l pre x W K hI hK
            have hJ := hK _ _ (KeepsFrom.refl _ W |>.trans ((KeepsOthers.alloc W (.cells x.row 27)).from _)) (Kept.of (bnew W (.cells x.row 27))).c (hI.keptC (Kept.of (bnew W _)).c (hI.below.trans ((bnew W _).mono hI.below.size))) ⟨W.heap.size, rfl, Has.new W _⟩
            clear hK
            obtain ⟨xc, xu, xe, xs, xk, xb⟩ := x
            simp only [Gr.val, Gr.row] at hJ ⊢
            gi_wp2
            exact hJ
          case body =>
            rintro l pre x a' W hl hrec hG ⟨gb, rfl, hX⟩ hlt
            obtain ⟨y, hy⟩ : ∃ y, L[pre.length]? = some y := ⟨_, List.getElem?_eq_getElem hlt⟩
            have HY := Lib.hid hy
            obtain ⟨A2, cap2, hp2, hrow2, _, hle2, hcap2, hat2⟩ := hG.net.open
            obtain ⟨g2, rfl, _, hGr⟩ := hat2 pre.length y hy
            have HG := Lib.hid hG
            have k0 := hG.k.cell 0 _ rfl
            have kf := hG.k.free 0
            have u0 := hG.u.cell 0 _ rfl
            have r0 := hG.res.cell 0 _ rfl
            have rf := hG.res.free 0
            have p0 := hp2.cell 0 _ rfl
            have s0 := hGr.a0
            have s1 := hGr.a1
            have s2 := hGr.a2
            have s3 := hGr.a3
            have s4 := hGr.a4
            have s5 := hGr.a5
            have CX := fun w => grNeqBin y x w
            have HE := Lib.hid (grEq_iff y x)
            have hkl2 : wr.heap.size + 1 < W.heap.size := hG.k.lt
            have hrl2 : w.heap.size < W.heap.size := hG.res.lt
            obtain ⟨m, hm⟩ : ∃ m, L.length = m := ⟨_, rfl⟩
            rw [hm] at hlt p0 hle2
            have hm6 : m ≤ 1000000 := by omega
            have hge1 : decide (m ≤ pre.length) = false := by simp; omega
            have hge2 : decide ((m : Int) ≤ (pre.length : Int)) = false := by simp; omega
            obtain ⟨eq, heq⟩ : ∃ b, grEq y x = b := ⟨_, rfl⟩
            simp only [heq] at CX
            have HQ := Lib.hid heq
            clear hp2 hrow2 hat2 hGr hG hy hrec heq hm
            obtain ⟨xc, xu, xe, xs, xk, xb⟩ := x
            simp only [Gr.row] at hX
            have x0 := hX.cell 0 _ rfl
            have x1 := hX.cell 1 _ rfl
            have x2 := hX.cell 2 _ rfl
            have x3 := hX.cell 3 _ rfl
            have x4 := hX.cell 4 _ rfl
            have x5 := hX.cell 5 _ rfl
            clear hX
            obtain ⟨yc, yu, ye, ys, yk, yb⟩ := y
            simp only [Gr.val] at CX ⊢
            simp only at s0 s1 s2 s3 s4 s5
            cases eq with
            | true =>
              simp only [Bool.not_true] at CX
              gi_wp2
              refine wpIn_region_quiet_round (by kernel_rfl) (by kernel_rfl) (by kernel_rfl) ?_
              repeat (gi_big_quiet_step (fail))
              refine wpQuietIn_nil ?_
              intro _ hw'
              obtain ⟨nq, hw''⟩ := hw'
              subst hw''
              gi_wp2
              have KW : KeptC (fun k => k = wr.heap.size + 1) W ((W.drewN nq).setCell ⟨wr.heap.size + 1, 0, none⟩ (.int .i64 ((pre.length : Int) + 1))) := ((Kept.of (S := fun k => k = wr.heap.size + 1) (draws_below W nq)).trans (Kept.but (S := fun k => k = wr.heap.size + 1) (But.set (wr.heap.size + 1) 0 _ _) rfl)).c
              have hxy := HE.out.1 HQ.out
              have hlen : ((pre.length : Int) + 1) = (((pre ++ [(⟨xc, xu, xe, xs, xk, xb⟩ : Gr)]).length : Nat) : Int) := by rw [List.length_append]; rfl
              refine ⟨((⟨Nat.le_refl _, fun _ _ h _ => h⟩ : KeepsOthers W (W.drewN nq)).trans (KeepsOthers.setCell _ _ _)).from _, KW, ⟨?_, ?_, HG.out.net.keptC KW HZ.out, HG.out.u.keptC KW rfl (by omega), HG.out.res.keptC KW rfl (by omega), (HG.out.below.trans ((draws_below W nq).mono HG.out.below.size)).setCell (p := ⟨wr.heap.size + 1, 0, none⟩) (show w.heap.size ≤ wr.heap.size + 1 by omega) _⟩⟩
              · rw [List.length_append, List.length_singleton, List.take_add_one, ← HG.out.pfx, HY.out, hxy]; rfl
              · rw [← hlen]; exact (HG.out.k.draws nq).set 0 _
            | false =>
              simp only [Bool.not_false] at CX
              gi_wp2
              refine wpIn_region_quiet_round (by kernel_rfl) (by kernel_rfl) (by kernel_rfl) ?_
              repeat (gi_big_quiet_step (fail))
              refine wpQuietIn_nil ?_
              intro _ hw'
              obtain ⟨nq, hw''⟩ := hw'
              subst hw''
              gi_wp2
              refine ⟨((⟨Nat.le_refl _, fun _ _ h _ => h⟩ : KeepsOthers W (W.drewN nq)).trans (KeepsOthers.setCell _ _ _)).from _, rfl, fun h => ?_⟩
              rw [List.length_append, List.length_singleton, List.take_add_one, ← HG.out.pfx, HY.out] at h
              have h2 := List.append_cancel_left h
              have h3 := HE.out.2 (by simpa using h2.symm)
              rw [HQ.out] at h3
              cases h3
          case done =>
            intro D ys W hD hys hG hK
            rw [hys] at hG
            clear hys
            obtain ⟨A2, cap2, hp2, _, _, hle2, hcap2, _⟩ := hG.net.open
            have HG := Lib.hid hG
            have k0 := hG.k.cell 0 _ rfl
            have u0 := hG.u.cell 0 _ rfl
            have r0 := hG.res.cell 0 _ rfl
            have rf := hG.res.free 0
            have p0 := hp2.cell 0 _ rfl
            have HK := Lib.hid hK
            have hkl2 : wr.heap.size + 1 < W.heap.size := hG.k.lt
            have hrl2 : w.heap.size < W.heap.size := hG.res.lt
            obtain ⟨m, hm⟩ : ∃ m, L.length = m := ⟨_, rfl⟩
            rw [hm] at k0 p0 hle2
            have hm6 : m ≤ 1000000 := by omega
            clear hp2 hG hK hm
            go_wp2_with fail
            go_still_tail 7, (by kernel_rfl)
            change wpList _ _ _ _ _ W.drew
            go_wp2_with fail
            (try simp only [Exit.inBlock, Exit.then])
            have hwc : w.heap.size < wc.heap.size := G0.res.lt
            have HKD : (W.setCell ⟨w.heap.size, 0, none⟩ (.bool true)).drew.heap[D]? = some (.deferred (some [])) := Has.setOther (show Has W D _ from HK.out) (by omega) 0 (.bool true)
            have HBD : Below w.heap.size w (W.setCell ⟨w.heap.size, 0, none⟩ (.bool true)).drew := (HG.out.below.setCell (p := ⟨w.heap.size, 0, none⟩) (Nat.le_refl _) _).drew
            refine ⟨by simp, .inl ⟨_, _, rfl, run_takeDeferred HKD, ?_⟩⟩
            refine ⟨_, results_cell_bool rfl _ _ w.heap.size true rfl ?_ Try.underlying4, rfl, ?_⟩
            · exact (World.cell?_of_block (World.putObj_heap_other (by show w.heap.size ≠ D; omega))).trans ((HG.out.res.set 0 (.bool true)).cell 0 _ rfl)
            · exact HBD.trans (belowK_b (w := w) (Nat.le_refl _) _ D _ _ (by omega) HKD rfl rfl)
          case stop =>
            rintro D cc pre W hD ⟨m, hm, rfl⟩ ⟨_, hne⟩ hK
            exact absurd (by rw [List.length_take, Nat.min_eq_left hm]) hne
end Go.Proofs.Ytkdopflnaeejeaa
