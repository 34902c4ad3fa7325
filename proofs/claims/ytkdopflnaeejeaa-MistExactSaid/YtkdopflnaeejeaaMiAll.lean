/-
  The iterator over all that is under way: it goes over a copy of its own.
-/
import Derived.Test.YtkdopflnaeejeaaMiRefA
import Derived.Test.YtkdopflnaeejeaaMiClear
import Derived.Test.YtkdopflnaeejeaaMiCount
import Derived.Lib.SliceRun
namespace Go.Proofs.Ytkdopflnaeejeaa
open Go.RowKit Go.Shelf Go.Lib
set_option linter.unusedVariables false
set_option linter.unusedSimpArgs false
attribute [local go_sem] Oper.semAt_some

/-- All blocks of cells are as they were, but for some; what is no block of cells may turn. -/
structure KeptC (S : Nat → Prop) (w w' : World) : Prop where
  size : w.heap.size ≤ w'.heap.size
  block : ∀ k o, w.heap[k]? = some o → o.isCells = true → ¬ S k → w'.heap[k]? = some o
theorem KeptC.refl (S : Nat → Prop) (w : World) : KeptC S w w := ⟨Nat.le_refl _, fun _ _ h _ _ => h⟩
theorem KeptC.trans {S : Nat → Prop} {w w1 w2 : World} (h : KeptC S w w1) (g : KeptC S w1 w2) : KeptC S w w2 :=
  ⟨Nat.le_trans h.size g.size, fun k o hk ho hs => g.block k o (h.block k o hk ho hs) ho hs⟩
theorem Kept.c {S : Nat → Prop} {w w' : World} (h : Kept S w w') : KeptC S w w' :=
  ⟨h.size, fun k o hk _ hs => (h.block k (Array.getElem?_eq_some_iff.1 hk).1 hs).trans hk⟩
theorem KeptC.frame {S : Nat → Prop} (W : World) (l : Nat) (o o' : Obj) (hl : W.heap[l]? = some o) (ho : o.isCells = false) : KeptC S W (W.putObj l o') :=
  ⟨(grownBy_putObj' W l o').size, fun k p hk hp _ => by
    have hne : k ≠ l := fun e => by subst e; rw [hl] at hk; cases hk; rw [ho] at hp; cases hp
    exact ((grownBy_putObj' W l o').block k (Array.getElem?_eq_some_iff.1 hk).1 (fun e => hne (by cases e; rfl))).trans hk⟩
theorem Has.keptC {S : Nat → Prop} {w w' : World} {b : Nat} {o : Obj} (h : Has w b o) (k : KeptC S w w') (ho : o.isCells = true) (hs : ¬ S b) : Has w' b o := k.block b o h ho hs
theorem RowG.keptC {S : Nat → Prop} {base : Nat} {w w' : World} {v : Value} {q : List Gr} (h : RowG base w v q) (k : KeptC S w w') (hs : ∀ g, v.ownBlock = some g → ¬ S g) : RowG base w' v q := by
  obtain ⟨h1, h2⟩ := h
  refine ⟨h1, ?_⟩
  rcases h2 with h2 | ⟨g, cap, cur, rfl, hb, hg, h3⟩
  · exact .inl h2
  · exact .inr ⟨g, cap, cur, rfl, hb, k.block g _ hg rfl (hs g rfl), h3⟩
set_option maxRecDepth 100000 in
theorem all_any (p : Nat) (w : World) :
    Calls Try.prog 22 #[.pointer (some ⟨p, 0, none⟩)] w fun e w' => e = .returned (.func (.func 31) #[] #[.pointer (some ⟨w.heap.size, 0, none⟩)]) ∧ w.alloc (.cells #[.pointer (some ⟨p, 0, none⟩)] 24) = w' := by
  go_enter Try.func22, Try.ntmps22
  go_wp2_with fail
  go_ret
  exact ⟨rfl, rfl⟩
set_option maxRecDepth 100000 in
set_option maxHeartbeats 2000000 in
theorem clone_any (A : Option Addr) (cap : Nat) (q : List Gr) (w : World) (h : RowG 0 w (.slice A q.length cap) q) (hq : q.length ≤ 1000000) :
    Calls Try.prog 32 #[.slice A q.length cap] w fun e w' => ∃ A' cap', e = .returned (.slice A' q.length cap') ∧ cap' ≤ 9223372036854775807 ∧ RowG 0 w' (.slice A' q.length cap') q ∧ (∀ j, (Value.slice A' q.length cap').ownBlock = some j → w.heap.size ≤ j) ∧ Below w.heap.size w w' := by
  cases A with
  | none =>
    have h0 : q = [] ∧ cap = 0 := by
      rcases h.2 with ⟨h1, h2⟩ | ⟨g, cap', cur, e, _⟩
      · injection h1 with _ e1 e2; exact ⟨List.eq_nil_of_length_eq_zero e1, e2⟩
      · cases e
    obtain ⟨rfl, rfl⟩ := h0
    have HR := Lib.hid h
    clear h hq
    simp only [List.length_nil] at *
    have hse := fun w => run_eql_slice_nil (P := Try.prog) w 22 27 none 0 0 0 0 (by kernel_rfl)
    go_enter Try.func32, Try.ntmps32
    go_wp2_with fail
    trace_state
    go_ret
    exact ⟨none, 0, rfl, by omega, HR.out, (fun j e => by cases e), Below.refl _ _⟩
  | some a =>
    obtain ⟨g, rfl⟩ : ∃ g, a = ⟨g, 0, none⟩ := by
      rcases h.2 with ⟨h1, h2⟩ | ⟨g, cap', cur, e, _⟩
      · cases h1
      · cases e; exact ⟨g, rfl⟩
    have hf := h.form
    obtain ⟨A', cap', e, hle, hcap⟩ := hf
    cases e
    have hgl : g < w.heap.size := (h.lt rfl).2
    have HC : Hid (∀ j u, (flatG q)[j]? = some u → (w.alloc (.cells #[] 27)).cell? ((⟨g, 0, none⟩ : Addr).add j) = some u) := Lib.hid (fun j u hu => by
      have hj : j < q.length * 6 := by rw [← flatG_len]; exact (List.getElem?_eq_some_iff.1 hu).1
      rw [Addr.add_lit]
      have hW : RowG 0 (w.alloc (.cells #[] 27)) (.slice (some ⟨g, 0, none⟩) q.length cap) q := h.held (S := fun _ => False) (Kept.of (bnew w _)) (fun _ _ e => e)
      have := World.ownsRow.cellAt hW j (by omega)
      rw [Nat.zero_add, this, ← hu])
    have HE0 := Lib.hid (RowG.empty 0 w (by omega))
    have HT1 := Lib.hid (flatG_one q)
    have HL := Lib.hid (flatG_len q)
    obtain ⟨n, hn⟩ : ∃ n, q.length = n := ⟨_, rfl⟩
    have Hn := Lib.hid hn
    rw [hn] at HL hle hq ⊢
    clear h hn
    have hse := fun w => run_eql_slice_nil (P := Try.prog) w 22 27 (some ⟨g, 0, none⟩) n cap 0 0 (by kernel_rfl)
    go_enter Try.func32, Try.ntmps32
    go_wp2_with (at_builtin; refine grow_own gramElem rfl (.tmp 5) (.tmp 6) rfl _ _ 0 (flatG []) rfl HE0.out (some ⟨g, 0, none⟩) n cap (flatG q) rfl HL.out (.inr ⟨_, rfl, HC.out⟩) HT1.out (by omega) (by omega) ?_; intro v2 w2 R2 g2 f2; obtain ⟨A2, cap2, rfl, h21, h22⟩ := ownsRow_form R2; have R2' := Lib.hid R2; have g2' := Lib.hid g2; have f2' := Lib.hid f2; clear R2 g2 f2)
    go_ret
    have hR : RowG 0 w2 (.slice A2 n cap2) q := by
      have h := R2'.out
      rw [Nat.zero_add] at h
      unfold RowG
      rw [Hn.out]
      exact h
    refine ⟨A2, cap2, rfl, h22, hR, fun j e => ?_, ?_⟩
    · have := f2'.out j (by rw [Nat.zero_add]; exact e)
      rcases this with h | h
      · have := ownBlock_at h; omega
      · simp at h; omega
    · exact (bnew w (.cells #[] 27)).trans ((Kept.grown (S := fun k => w.heap.size ≤ k) g2'.out (fun k e => by have := ownBlock_at e; omega)).below (fun _ h => h) (by simp))
set_option maxRecDepth 100000 in
set_option maxHeartbeats 2000000 in
/-- All datagrams, for whatever loop body keeps the blocks of cells but for some that lay before. -/
theorem all2_in (n : Nat) (hn : 1 ≤ n) (l Bn p : Nat) (r : Option Nat) (S : Nat → Prop) (q : List Gr) (hq : q.length ≤ 1000000) (J Jx : List Gr → World → Prop) (W : World) (hJa : AbidesFrom W.heap.size J)
    (hY : ∀ pre (x : Gr) W, J pre W → pre.length < q.length → YieldAt Fence.wide (n - 1) Try.prog l #[x.val] W fun e W' =>
      (e = .returned (.bool true) ∧ J (pre ++ [x]) W' ∧ KeptC S W W') ∨ (e = .returned (.bool false) ∧ Jx (pre ++ [x]) W'))
    (h0 : J [] W) (hBn : W.cell? ⟨Bn, 0, none⟩ = some (.pointer (some ⟨p, 0, none⟩))) (hN : NetAt 53 W p r q) (hS : ∀ k, S k → k < W.heap.size) :
    CallsIn Fence.wide n Try.prog 31 #[.func (.yield l) #[] #[], .pointer (some ⟨Bn, 0, none⟩)] W fun e W' => (∃ v, e = .returned v) ∧
      ((∃ ys, ys = q ∧ J ys W') ∨ (∃ pre, (∃ k, k ≤ q.length ∧ pre = q.take k) ∧ Jx pre W')) := by
  obtain ⟨A, cap, hp, hrow, hv, hle, hcap, hat⟩ := hN.open
  have CC := Lib.hid (fun w h => clone_any A cap q w h hq)
  have HR := Lib.hid hrow
  have hpl := hp.lt
  have p0 := hp.cell 0 _ rfl
  obtain ⟨m, hm⟩ : ∃ m, q.length = m := ⟨_, rfl⟩
  have Hm := Lib.hid hm
  rw [hm] at CC hY hq p0 hle ⊢
  have HY := Lib.hid hY
  have HJ0 := Lib.hid h0
  have HJa := Lib.hid hJa
  have HS := Lib.hid hS
  clear hN hp hrow hv hat hm hY h0 hJa hS
  refine callsIn_of_wp Try.func31 rfl trivial ?_ rfl
  simp only [Try.ntmps31, List.size_toArray, List.length_cons, List.length_nil, Nat.reduceAdd, Nat.reduceSub, Array.replicate_succ, Array.replicate_zero, List.push_toArray, List.append_toArray, List.nil_append, List.cons_append]
  gi_wp2_with (refine ⟨trivial, ?_⟩; gi_at_call 32; refine (callsIn_wide.2 (CC.out _ (by rw [← Hm.out] at *; exact HR.out))).mono ?_; rintro e W1 ⟨A1, cap1, rfl, hc1, R1, f1, b1⟩)
  have HJ1 := Lib.hid (HJa.out _ _ _ none HJ0.out ⟨b1.os, b1.tape, b1.output, b1.size, fun k hk _ => b1.block k hk⟩ (by simp))
  have HR1 := Lib.hid R1
  have HF1 := Lib.hid f1
  have HB1 := Lib.hid b1
  clear R1 f1 b1 CC HR p0
  gi_loopw [11] (fun i wr => ∃ k : Nat, k ≤ m ∧ i = .int .i64 k ∧ Hid (J (q.take k) wr) ∧ Hid (KeptC S W1 wr)) (fun i _ => m - (intOf i).toNat)
  case atStart => exact ⟨0, Nat.zero_le _, rfl, HJ1, Lib.hid (KeptC.refl _ _)⟩
  case round =>
    obtain ⟨k, hk, rfl, HJ, HB⟩ := hrel
    by_cases hlt : k < m
    · obtain ⟨x, hx⟩ : ∃ x, q[k]? = some x := ⟨_, List.getElem?_eq_getElem (by rw [Hm.out]; exact hlt)⟩
      obtain ⟨g, rfl⟩ : ∃ g, A1 = some ⟨g, 0, none⟩ := by
        rcases HR1.out.2 with ⟨h1, h2⟩ | ⟨g, cap', cur, e, _⟩
        · injection h1 with _ e1 e2; omega
        · injection e with e1; exact ⟨g, e1⟩
      have hgS : Hid (¬ S g) := Lib.hid (fun h => by have := HS.out g h; have := HF1.out g rfl; omega)
      have G0 := (HR1.out.keptC HB.out (fun g' e h => by cases e; exact hgS.out h)).at Hm.out.symm hx
      have d0 := G0.a0
      have d1 := G0.a1
      have d2 := G0.a2
      have d3 := G0.a3
      have d4 := G0.a4
      have d5 := G0.a5
      have Ht : Hid (q.take (k + 1) = q.take k ++ [x]) := Lib.hid (by rw [List.take_add_one, hx]; rfl)
      have hJ' := Lib.hid (HJa.out _ _ _ none HJ.out (World.grownBy_alloc wr (.cells #[.int .i64 x.cl, .bool x.up, .int .i64 x.ep, .int .i64 x.sq, .int .i64 x.ak, .string x.bd] 27) none) (by simp))
      have HB' := Lib.hid (HB.out.trans (Kept.of (bnew wr (.cells #[.int .i64 x.cl, .bool x.up, .int .i64 x.ep, .int .i64 x.sq, .int .i64 x.ak, .string x.bd] 27))).c)
      clear G0 HJ
      obtain ⟨fn, tmps, assign, body, hy, hR⟩ := HY.out _ x _ hJ'.out (by rw [List.length_take]; omega)
      simp only [Gr.val] at hy
      gi_wp2
      refine hR.mono ?_
      rintro e W3 (⟨rfl, hJ3, hk3⟩ | ⟨rfl, hJx3⟩)
      · have HJ3 := Lib.hid hJ3
        have HK3 := Lib.hid hk3
        clear hJ3 hk3 hR hy
        gi_wp2
        go_roundw
        case rel => exact ⟨k + 1, by omega, by go_num, Lib.hid (by rw [Ht.out]; exact HJ3.out), Lib.hid (HB'.out.trans HK3.out)⟩
        case measure => simp [intOf]; omega
      · have HJ3 := Lib.hid hJx3
        clear hJx3 hR hy
        gi_wp2
        refine bodyPost_ret (results_none rfl _ _ _) rfl ?_
        exact ⟨⟨_, rfl⟩, .inr ⟨_, ⟨k + 1, by omega, Ht.out.symm⟩, HJ3.out⟩⟩
    · obtain rfl : k = m := by omega
      have Hz : Hid (J q wr) := Lib.hid (by have := HJ.out; rwa [List.take_of_length_le (by rw [Hm.out]; omega)] at this)
      clear HJ
      gi_wp2
      go_end0
      exact ⟨⟨_, rfl⟩, .inl ⟨_, rfl, Hz.out⟩⟩
end Go.Proofs.Ytkdopflnaeejeaa
