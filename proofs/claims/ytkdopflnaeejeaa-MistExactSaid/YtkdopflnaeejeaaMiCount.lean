/-
  How many datagrams a way has, and where its k-th one stands: the two loops over a way.
-/
import Derived.Test.YtkdopflnaeejeaaMiWay
namespace Go.Proofs.Ytkdopflnaeejeaa
open Go.RowKit Go.Shelf
set_option linter.unusedVariables false
set_option linter.unusedSimpArgs false
attribute [local go_sem] Oper.semAt_some

set_option maxRecDepth 100000 in
set_option maxHeartbeats 2000000 in
theorem count_some (t : TypeId) (p : Nat) (r : Option Nat) (c : Int) (u : Bool) (q : List Gr) (w : World) (hN : NetAt t w p r q) :
    Calls Try.prog 13 #[.pointer (some ⟨p, 0, none⟩), .int .i64 c, .bool u] w fun e w' => e = .returned (.int .i64 (cnt c u q : Int)) ∧ Below w.heap.size w w' := by
  refine (callsIn_wide (n := 5)).1 ?_
  refine callsIn_of_wp_marks Try.func13 rfl trivial ?_ rfl
  simp only [Try.ntmps13, List.size_toArray, List.length_cons, List.length_nil, Nat.reduceAdd, Nat.reduceSub, Array.replicate_succ, Array.replicate_zero, List.push_toArray, List.append_toArray, List.nil_append, List.cons_append]
  gi_wp2_with (refine ⟨trivial, ?_⟩; gi_at_call 25; refine (callsIn_wide.2 (way_any _ _ _ _)).mono ?_; rintro e w' ⟨rfl, rfl⟩)
  obtain ⟨_, _, _, _, _, _, hcap, _⟩ := hN.open
  have hlen : q.length ≤ 9223372036854775807 := by omega
  have b0 := Boxed.new w 3 (.int .i64 0)
  have N0 : NetAt t ((((w.alloc (.cells #[.int .i64 0] 3)).alloc (.cells #[.pointer (some ⟨p, 0, none⟩)] 24)).alloc (.cells #[.int .i64 c] 3)).alloc (.cells #[.bool u] 4)) p r q :=
    hN.below (bup (bup (bup (bnew w _) (bnew _ _)) (bnew _ _)) (bnew _ _))
  have H1 : Has ((((w.alloc (.cells #[.int .i64 0] 3)).alloc (.cells #[.pointer (some ⟨p, 0, none⟩)] 24)).alloc (.cells #[.int .i64 c] 3)).alloc (.cells #[.bool u] 4)) (w.heap.size + 1) (.cells #[.pointer (some ⟨p, 0, none⟩)] 24) := ((Has.new1 _ _ _).alloc _).alloc _
  have H2 : Has ((((w.alloc (.cells #[.int .i64 0] 3)).alloc (.cells #[.pointer (some ⟨p, 0, none⟩)] 24)).alloc (.cells #[.int .i64 c] 3)).alloc (.cells #[.bool u] 4)) (w.heap.size + 1 + 1) (.cells #[.int .i64 c] 3) := (Has.new2 _ _ _ _).alloc _
  have H3 : Has ((((w.alloc (.cells #[.int .i64 0] 3)).alloc (.cells #[.pointer (some ⟨p, 0, none⟩)] 24)).alloc (.cells #[.int .i64 c] 3)).alloc (.cells #[.bool u] 4)) (w.heap.size + 1 + 1 + 1) (.cells #[.bool u] 4) := Has.at _ _ (by simp)
  have hB0 : Below w.heap.size w ((((w.alloc (.cells #[.int .i64 0] 3)).alloc (.cells #[.pointer (some ⟨p, 0, none⟩)] 24)).alloc (.cells #[.int .i64 c] 3)).alloc (.cells #[.bool u] 4)) := bup (bup (bup (bnew w _) (bnew _ _)) (bnew _ _)) (bnew _ _)
  have B0 := ((b0.alloc (.cells #[.pointer (some ⟨p, 0, none⟩)] 24)).alloc (.cells #[.int .i64 c] 3)).alloc (.cells #[.bool u] 4)
  have hz := hN.lt
  have hsz : ((((w.alloc (.cells #[.int .i64 0] 3)).alloc (.cells #[.pointer (some ⟨p, 0, none⟩)] 24)).alloc (.cells #[.int .i64 c] 3)).alloc (.cells #[.bool u] 4)).heap.size = w.heap.size + 4 := by simp
  refine wpIn_rangeFunc_ownG rfl (by omega) (gf := 34) (lb := #[.pointer (some ⟨w.heap.size + 1, 0, none⟩), .pointer (some ⟨w.heap.size + 1 + 1, 0, none⟩), .pointer (some ⟨w.heap.size + 1 + 1 + 1, 0, none⟩)]) rfl trivial (enters_of Try.func34 (by kernel_rfl) rfl)
    (way_stops Fence.wide 4 trivial rfl (by omega) (w.heap.size + 1) t p r c u q (fun k => k = w.heap.size ∨ w.heap.size + 4 ≤ k) _ N0 H1 H2 H3 (by omega) (by omega) (fun k hk => by have := hz k hk; omega))
    (fun h k => h.trans k) (fun W l o o' hl _ _ _ => Kept.grown (grownBy_putObj' W l o') (fun g e => by cases e; rw [hsz] at hl; exact .inr hl)) (Below.refl _ _) (fun _ => rfl)
    (fun pre W => (W.cell? ⟨w.heap.size, 0, none⟩ = some (.int .i64 (pre.length : Int)) ∧ W.frozen? ⟨w.heap.size, 0, none⟩ = false) ∧ Below w.heap.size w W)
    (fun _ _ _ => False)
    (OwnFrom.and (Own.from (fun s A B row hs hg hr => ⟨cell_kept hs.1 hg hr, (frozen_kept hs.1 hg hr).trans hs.2⟩) _) (ownFrom_below (Nat.le_refl _) (by simp; omega)))
    (fun _ _ _ _ _ hs _ _ => hs)
    ⟨⟨B0.cell, B0.frozen⟩, hB0⟩
    (fun x => { tmps := #[.pointer (some ⟨p, 0, none⟩), .int .i64 c, .bool u, undef, undef, undef, .int .i64 0, .pointer (some ⟨w.heap.size, 0, none⟩), .pointer (some ⟨p, 0, none⟩), .int .i64 c, .bool u, .func (.func 34) #[] #[.pointer (some ⟨w.heap.size + 1, 0, none⟩), .pointer (some ⟨w.heap.size + 1 + 1, 0, none⟩), .pointer (some ⟨w.heap.size + 1 + 1 + 1, 0, none⟩)], .int .i64 (x : Int), undef, undef, undef], defers := [] }) ?assign ?body ?done ?stop
  case assign =>
    intro l x W K hK
    gi_wp2
    refine cast (congrArg (fun z => K { tmps := z, defers := [] } W) ?_) hK
    first | (simp; done) | kernel_rfl
  case body =>
    rintro l pre x W ⟨⟨hc, hf⟩, hB⟩ hlt
    have h63 : pre.length < 9223372036854775807 := by omega
    gi_wp2
    exact ⟨(KeepsOthers.setCell _ _ _).from _, Kept.but (But.set w.heap.size 0 W _) (.inl rfl), ⟨by rw [List.length_append]; exact World.cell?_setCell_same' _ _ _ (by rw [hc]; rfl), by rw [World.frozen?_setCell]; exact hf⟩, hB.setCell (p := ⟨w.heap.size, 0, none⟩) (Nat.le_refl _) _⟩
  case done =>
    rintro D ys W hD rfl ⟨⟨hc, _⟩, hB⟩ hK
    rw [idxF_len] at hc
    gi_wp2
    refine ⟨by simp, .inl ⟨_, _, rfl, run_takeDeferred hK, ?_⟩⟩
    exact ⟨_, results_tmp rfl _ _ _, rfl, hB.trans (belowK_b (w := w) (Nat.le_refl _) W D _ _ (by rw [hsz] at hD; omega) hK rfl rfl)⟩
  case stop =>
    rintro D c pre W _ _ h _
    exact h.elim
set_option maxRecDepth 100000 in
set_option maxHeartbeats 4000000 in
theorem count_nil (c : Int) (u : Bool) (w : World) :
    Calls Try.prog 13 #[.pointer none, .int .i64 c, .bool u] w fun e w' => e = .returned (.int .i64 0) ∧ Below w.heap.size w w' := by
  refine (callsIn_wide (n := 5)).1 ?_
  refine callsIn_of_wp_marks Try.func13 rfl trivial ?_ rfl
  simp only [Try.ntmps13, List.size_toArray, List.length_cons, List.length_nil, Nat.reduceAdd, Nat.reduceSub, Array.replicate_succ, Array.replicate_zero, List.push_toArray, List.append_toArray, List.nil_append, List.cons_append]
  gi_wp2_with (refine ⟨trivial, ?_⟩; gi_at_call 25; refine (callsIn_wide.2 (way_any _ _ _ _)).mono ?_; rintro e w' ⟨rfl, rfl⟩)
  have b0 := Boxed.new w 3 (.int .i64 0)
  have H1 : Has ((((w.alloc (.cells #[.int .i64 0] 3)).alloc (.cells #[.pointer none] 24)).alloc (.cells #[.int .i64 c] 3)).alloc (.cells #[.bool u] 4)) (w.heap.size + 1) (.cells #[.pointer none] 24) := ((Has.new1 _ _ _).alloc _).alloc _
  have hB0 : Below w.heap.size w ((((w.alloc (.cells #[.int .i64 0] 3)).alloc (.cells #[.pointer none] 24)).alloc (.cells #[.int .i64 c] 3)).alloc (.cells #[.bool u] 4)) := bup (bup (bup (bnew w _) (bnew _ _)) (bnew _ _)) (bnew _ _)
  have B0 := ((b0.alloc (.cells #[.pointer none] 24)).alloc (.cells #[.int .i64 c] 3)).alloc (.cells #[.bool u] 4)
  have hsz : ((((w.alloc (.cells #[.int .i64 0] 3)).alloc (.cells #[.pointer none] 24)).alloc (.cells #[.int .i64 c] 3)).alloc (.cells #[.bool u] 4)).heap.size = w.heap.size + 4 := by simp
  refine wpIn_rangeFunc_ownG rfl (by omega) (gf := 34) (lb := #[.pointer (some ⟨w.heap.size + 1, 0, none⟩), .pointer (some ⟨w.heap.size + 1 + 1, 0, none⟩), .pointer (some ⟨w.heap.size + 1 + 1 + 1, 0, none⟩)]) rfl trivial (enters_of Try.func34 (by kernel_rfl) rfl)
    (way_stops_nil Fence.wide 4 trivial rfl (w.heap.size + 1) _ _ (fun k => k = w.heap.size ∨ w.heap.size + 4 ≤ k) _ H1)
    (fun h k => h.trans k) (fun W l o o' hl _ _ _ => Kept.grown (grownBy_putObj' W l o') (fun g e => by cases e; rw [hsz] at hl; exact .inr hl)) (Below.refl _ _) (fun _ => rfl)
    (fun pre W => (W.cell? ⟨w.heap.size, 0, none⟩ = some (.int .i64 (pre.length : Int)) ∧ W.frozen? ⟨w.heap.size, 0, none⟩ = false) ∧ Below w.heap.size w W)
    (fun _ _ _ => False)
    (OwnFrom.and (Own.from (fun s A B row hs hg hr => ⟨cell_kept hs.1 hg hr, (frozen_kept hs.1 hg hr).trans hs.2⟩) _) (ownFrom_below (Nat.le_refl _) (by simp; omega)))
    (fun _ _ _ _ _ hs _ _ => hs)
    ⟨⟨B0.cell, B0.frozen⟩, hB0⟩
    (fun x => { tmps := #[.pointer none, .int .i64 c, .bool u, undef, undef, undef, .int .i64 0, .pointer (some ⟨w.heap.size, 0, none⟩), .pointer none, .int .i64 c, .bool u, .func (.func 34) #[] #[.pointer (some ⟨w.heap.size + 1, 0, none⟩), .pointer (some ⟨w.heap.size + 1 + 1, 0, none⟩), .pointer (some ⟨w.heap.size + 1 + 1 + 1, 0, none⟩)], .int .i64 (x : Int), undef, undef, undef], defers := [] }) ?assign ?body ?done ?stop
  case assign =>
    intro l x W K hK
    gi_wp2
    refine cast (congrArg (fun z => K { tmps := z, defers := [] } W) ?_) hK
    first | (simp; done) | kernel_rfl
  case body =>
    rintro l pre x W _ hlt
    exact absurd hlt (by omega)
  case done =>
    rintro D ys W hD rfl ⟨⟨hc, _⟩, hB⟩ hK
    gi_wp2
    refine ⟨by simp, .inl ⟨_, _, rfl, run_takeDeferred hK, ?_⟩⟩
    exact ⟨_, results_tmp rfl _ _ _, rfl, hB.trans (belowK_b (w := w) (Nat.le_refl _) W D _ _ (by rw [hsz] at hD; omega) hK rfl rfl)⟩
  case stop =>
    rintro D c pre W _ _ h _
    exact h.elim
theorem wrap_dec (k : Int) (n : Nat) : wrap64 (wrap64 (k - n) - 1) = wrap64 (k - ((n + 1 : Nat) : Int)) := by
  unfold wrap64; omega
theorem wrap_zero {k : Int} {n : Nat} (h1 : -9223372036854775808 ≤ k) (h2 : k ≤ 9223372036854775807) (hn : n ≤ 9223372036854775807) : wrap64 (k - n) = 0 ↔ k = n := by
  unfold wrap64; omega
set_option maxRecDepth 100000 in
set_option maxHeartbeats 4000000 in
theorem place_some (t : TypeId) (p : Nat) (r : Option Nat) (c : Int) (u : Bool) (k : Int) (q : List Gr) (w : World) (hN : NetAt t w p r q) (hk1 : -9223372036854775808 ≤ k) (hk2 : k ≤ 9223372036854775807) :
    Calls Try.prog 24 #[.pointer (some ⟨p, 0, none⟩), .int .i64 c, .bool u, .int .i64 k] w fun e w' => e = .returned (.int .i64 (plc c u q k)) ∧ Below w.heap.size w w' := by
  refine (callsIn_wide (n := 5)).1 ?_
  refine callsIn_of_wp_marks Try.func24 rfl trivial ?_ rfl
  simp only [Try.ntmps24, List.size_toArray, List.length_cons, List.length_nil, Nat.reduceAdd, Nat.reduceSub, Array.replicate_succ, Array.replicate_zero, List.push_toArray, List.append_toArray, List.nil_append, List.cons_append]
  gi_wp2_with (refine ⟨trivial, ?_⟩; gi_at_call 25; refine (callsIn_wide.2 (way_any _ _ _ _)).mono ?_; rintro e w' ⟨rfl, rfl⟩)
  obtain ⟨_, _, _, _, _, _, hcap, _⟩ := hN.open
  have hlen : q.length ≤ 9223372036854775807 := by omega
  have N0 : NetAt t (((((w.alloc (.cells #[.int .i64 k] 3)).alloc (.cells #[.int .i64 0] 3)).alloc (.cells #[.pointer (some ⟨p, 0, none⟩)] 24)).alloc (.cells #[.int .i64 c] 3)).alloc (.cells #[.bool u] 4)) p r q := hN.below (bup (bup (bup (bup (bnew w _) (bnew _ _)) (bnew _ _)) (bnew _ _)) (bnew _ _))
  have H1 : Has (((((w.alloc (.cells #[.int .i64 k] 3)).alloc (.cells #[.int .i64 0] 3)).alloc (.cells #[.pointer (some ⟨p, 0, none⟩)] 24)).alloc (.cells #[.int .i64 c] 3)).alloc (.cells #[.bool u] 4)) (w.heap.size + 1 + 1) (.cells #[.pointer (some ⟨p, 0, none⟩)] 24) := ((Has.new2 _ _ _ _).alloc _).alloc _
  have H2 : Has (((((w.alloc (.cells #[.int .i64 k] 3)).alloc (.cells #[.int .i64 0] 3)).alloc (.cells #[.pointer (some ⟨p, 0, none⟩)] 24)).alloc (.cells #[.int .i64 c] 3)).alloc (.cells #[.bool u] 4)) (w.heap.size + 1 + 1 + 1) (.cells #[.int .i64 c] 3) := (Has.at _ _ (by simp)).alloc _
  have H3 : Has (((((w.alloc (.cells #[.int .i64 k] 3)).alloc (.cells #[.int .i64 0] 3)).alloc (.cells #[.pointer (some ⟨p, 0, none⟩)] 24)).alloc (.cells #[.int .i64 c] 3)).alloc (.cells #[.bool u] 4)) (w.heap.size + 1 + 1 + 1 + 1) (.cells #[.bool u] 4) := Has.at _ _ (by simp)
  have hB0 : Below w.heap.size w (((((w.alloc (.cells #[.int .i64 k] 3)).alloc (.cells #[.int .i64 0] 3)).alloc (.cells #[.pointer (some ⟨p, 0, none⟩)] 24)).alloc (.cells #[.int .i64 c] 3)).alloc (.cells #[.bool u] 4)) := bup (bup (bup (bup (bnew w _) (bnew _ _)) (bnew _ _)) (bnew _ _)) (bnew _ _)
  have K0 : Has (((((w.alloc (.cells #[.int .i64 k] 3)).alloc (.cells #[.int .i64 0] 3)).alloc (.cells #[.pointer (some ⟨p, 0, none⟩)] 24)).alloc (.cells #[.int .i64 c] 3)).alloc (.cells #[.bool u] 4)) w.heap.size (.cells #[.int .i64 k] 3) := ((((Has.new _ _).alloc _).alloc _).alloc _).alloc _
  have R0 : Has (((((w.alloc (.cells #[.int .i64 k] 3)).alloc (.cells #[.int .i64 0] 3)).alloc (.cells #[.pointer (some ⟨p, 0, none⟩)] 24)).alloc (.cells #[.int .i64 c] 3)).alloc (.cells #[.bool u] 4)) (w.heap.size + 1) (.cells #[.int .i64 0] 3) := (((Has.new1 _ _ _).alloc _).alloc _).alloc _
  have hz := hN.lt
  have hsz : ((((((w.alloc (.cells #[.int .i64 k] 3)).alloc (.cells #[.int .i64 0] 3)).alloc (.cells #[.pointer (some ⟨p, 0, none⟩)] 24)).alloc (.cells #[.int .i64 c] 3)).alloc (.cells #[.bool u] 4))).heap.size = w.heap.size + 5 := by simp
  refine wpIn_rangeFunc_ownG rfl (by omega) (gf := 34) (lb := #[.pointer (some ⟨w.heap.size + 1 + 1, 0, none⟩), .pointer (some ⟨w.heap.size + 1 + 1 + 1, 0, none⟩), .pointer (some ⟨w.heap.size + 1 + 1 + 1 + 1, 0, none⟩)]) rfl trivial (enters_of Try.func34 (by kernel_rfl) rfl)
    (way_stops Fence.wide 4 trivial rfl (by omega) (w.heap.size + 1 + 1) t p r c u q (fun k => k = w.heap.size ∨ k = w.heap.size + 1 ∨ w.heap.size + 5 ≤ k) _ N0 H1 H2 H3 (by omega) (by omega) (fun k hk => by have := hz k hk; omega))
    (fun h k => h.trans k) (fun W l o o' hl _ _ _ => Kept.grown (grownBy_putObj' W l o') (fun g e => by cases e; rw [hsz] at hl; exact .inr (.inr hl))) (Below.refl _ _) (fun _ => rfl)
    (fun pre W => ((k < 0 ∨ (pre.length : Int) ≤ k) ∧ W.cell? ⟨w.heap.size, 0, none⟩ = some (.int .i64 (wrap64 (k - pre.length))) ∧ W.frozen? ⟨w.heap.size, 0, none⟩ = false ∧ W.cell? ⟨w.heap.size + 1, 0, none⟩ = some (.int .i64 0) ∧ W.frozen? ⟨w.heap.size + 1, 0, none⟩ = false) ∧ Below w.heap.size w W)
    (fun z (pre : List Nat) W => (z = .ret ∧ ∃ (ini : List Nat) (last : Nat), pre = ini ++ [last] ∧ k = (ini.length : Int) ∧ W.cell? ⟨w.heap.size + 1, 0, none⟩ = some (.int .i64 (last : Int))) ∧ Below w.heap.size w W)
    (OwnFrom.and (Own.from (fun s A B row hs hg hr => ⟨hs.1, cell_kept hs.2.1 hg hr, (frozen_kept hs.2.1 hg hr).trans hs.2.2.1, cell_kept hs.2.2.2.1 hg hr, (frozen_kept hs.2.2.2.1 hg hr).trans hs.2.2.2.2⟩) _) (ownFrom_below (Nat.le_refl _) (by simp; omega)))
    (fun z => OwnFrom.and (Own.from (fun s A B row hs hg hr => by obtain ⟨hc, ini, last, e1, e2, e4⟩ := hs; exact ⟨hc, ini, last, e1, e2, cell_kept e4 hg hr⟩) _) (ownFrom_below (Nat.le_refl _) (by simp; omega)))
    ⟨⟨by simp only [List.length_nil]; omega, by rw [show _ = some (.int .i64 k) from K0.cell 0 _ rfl, show wrap64 (k - (([] : List Nat).length : Nat)) = k by simp only [List.length_nil]; unfold wrap64; omega], K0.free 0, R0.cell 0 _ rfl, R0.free 0⟩, hB0⟩
    (fun x => { tmps := #[.pointer (some ⟨p, 0, none⟩), .int .i64 c, .bool u, .int .i64 k, undef, undef, undef, .pointer (some ⟨w.heap.size, 0, none⟩), .pointer (some ⟨w.heap.size + 1, 0, none⟩), .int .i64 (x : Int), .pointer (some ⟨p, 0, none⟩), .int .i64 c, .bool u, .func (.func 34) #[] #[.pointer (some ⟨w.heap.size + 1 + 1, 0, none⟩), .pointer (some ⟨w.heap.size + 1 + 1 + 1, 0, none⟩), .pointer (some ⟨w.heap.size + 1 + 1 + 1 + 1, 0, none⟩)], .int .i64 (x : Int), undef, undef, undef, undef, undef], defers := [] }) ?assign ?body ?done ?stop
  case assign =>
    intro l x W K hK
    gi_wp2
    exact hK
  case body =>
    rintro l pre x W ⟨⟨hp, hc, hf, hc2, hf2⟩, hB⟩ hlt
    have h63 : pre.length ≤ 9223372036854775807 := by omega
    have hw := wrap_zero hk1 hk2 h63
    obtain ⟨d, hd⟩ : ∃ d, wrap64 (k - pre.length) = d := ⟨_, rfl⟩
    have hdec := wrap_dec k pre.length
    rw [hd] at hc hw hdec
    have Hdec := Lib.hid hdec
    clear hdec
    by_cases h0 : d = 0
    · have hk := hw.1 h0
      have hb : (d == 0) = true := by simpa using h0
      have Hk := Lib.hid hk
      clear hk hw h0 hd
      gi_wp2
      exact ⟨(KeepsOthers.setCell _ _ _).from _, ⟨rfl, pre, x, rfl, Hk.out, World.cell?_setCell_same' _ _ _ (by rw [hc2]; rfl)⟩, hB.setCell (p := ⟨w.heap.size + 1, 0, none⟩) (by simp) _⟩
    · have hk : k ≠ pre.length := fun e => h0 (hw.2 e)
      have hb : (d == 0) = false := by simpa using h0
      have Hk : Hid (k < 0 ∨ ((pre ++ [x]).length : Int) ≤ k) := Lib.hid (by rw [List.length_append]; simp only [List.length_cons, List.length_nil]; omega)
      clear hk hw h0 hd hp
      gi_wp2
      exact ⟨(KeepsOthers.setCell _ _ _).from _, Kept.but (But.set w.heap.size 0 W _) (.inl rfl), ⟨Hk.out, by rw [List.length_append]; exact (World.cell?_setCell_same' _ _ _ (by rw [hc]; rfl)).trans (by rw [Hdec.out]; rfl), by rw [World.frozen?_setCell]; exact hf, (Kept.but (But.set w.heap.size 0 W _) (S := fun j => j = w.heap.size) rfl).cell hc2 (by omega), by rw [World.frozen?_setCell]; exact hf2⟩, hB.setCell (p := ⟨w.heap.size, 0, none⟩) (Nat.le_refl _) _⟩
  case done =>
    rintro D ys W hD rfl ⟨⟨hp, _, _, hc2, hf2⟩, hB⟩ hK
    have hpl : plc c u q k = -1 := plc_neg (plc_none.2 (by rw [idxF_len] at hp; exact hp))
    gi_wp2
    have hK' := (KeepsOthers.setCell W ⟨w.heap.size + 1, 0, none⟩ (.int .i64 (-1))).same D _ hK rfl
    refine ⟨by simp, .inl ⟨_, _, rfl, run_takeDeferred hK', ?_⟩⟩
    have hc5 := cell_kept (World.cell?_setCell_same' W ⟨w.heap.size + 1, 0, none⟩ (.int .i64 (-1)) (by rw [hc2]; rfl)) (grownBy_putObj' _ D (.deferred none)) (fun r e => by cases e; exact ⟨_, hK', rfl⟩)
    refine ⟨.int .i64 (-1), ?_, by rw [hpl], (hB.setCell (p := ⟨w.heap.size + 1, 0, none⟩) (by simp) _).trans (belowK_b (w := w) (Nat.le_refl _) _ D _ _ (by rw [hsz] at hD; omega) hK' rfl rfl)⟩
    simp [results, Try.f24, go_sem, hc5]
  case stop =>
    rintro D z pre W hD ⟨j, hj, rfl⟩ ⟨⟨rfl, ini, last, e1, e2, hcr⟩, hB⟩ hK
    gi_wp2
    refine ⟨by simp, .inl ⟨_, _, rfl, run_takeDeferred hK, ?_⟩⟩
    have hc5 := cell_kept hcr (grownBy_putObj' _ D (.deferred none)) (fun r e => by cases e; exact ⟨_, hK, rfl⟩)
    refine ⟨.int .i64 (last : Int), ?_, by rw [e2, plc_here e1], hB.trans (belowK_b (w := w) (Nat.le_refl _) W D _ _ (by rw [hsz] at hD; omega) hK rfl rfl)⟩
    simp [results, Try.f24, go_sem, hc5]
set_option maxRecDepth 100000 in
set_option maxHeartbeats 4000000 in
theorem place_nil (c : Int) (u : Bool) (k : Int) (w : World) :
    Calls Try.prog 24 #[.pointer none, .int .i64 c, .bool u, .int .i64 k] w fun e w' => e = .returned (.int .i64 (-1)) ∧ Below w.heap.size w w' := by
  refine (callsIn_wide (n := 5)).1 ?_
  refine callsIn_of_wp_marks Try.func24 rfl trivial ?_ rfl
  simp only [Try.ntmps24, List.size_toArray, List.length_cons, List.length_nil, Nat.reduceAdd, Nat.reduceSub, Array.replicate_succ, Array.replicate_zero, List.push_toArray, List.append_toArray, List.nil_append, List.cons_append]
  gi_wp2_with (refine ⟨trivial, ?_⟩; gi_at_call 25; refine (callsIn_wide.2 (way_any _ _ _ _)).mono ?_; rintro e w' ⟨rfl, rfl⟩)
  have H1 : Has (((((w.alloc (.cells #[.int .i64 k] 3)).alloc (.cells #[.int .i64 0] 3)).alloc (.cells #[.pointer none] 24)).alloc (.cells #[.int .i64 c] 3)).alloc (.cells #[.bool u] 4)) (w.heap.size + 1 + 1) (.cells #[.pointer none] 24) := ((Has.new2 _ _ _ _).alloc _).alloc _
  have hB0 : Below w.heap.size w (((((w.alloc (.cells #[.int .i64 k] 3)).alloc (.cells #[.int .i64 0] 3)).alloc (.cells #[.pointer none] 24)).alloc (.cells #[.int .i64 c] 3)).alloc (.cells #[.bool u] 4)) := bup (bup (bup (bup (bnew w _) (bnew _ _)) (bnew _ _)) (bnew _ _)) (bnew _ _)
  have R0 : Has (((((w.alloc (.cells #[.int .i64 k] 3)).alloc (.cells #[.int .i64 0] 3)).alloc (.cells #[.pointer none] 24)).alloc (.cells #[.int .i64 c] 3)).alloc (.cells #[.bool u] 4)) (w.heap.size + 1) (.cells #[.int .i64 0] 3) := (((Has.new1 _ _ _).alloc _).alloc _).alloc _
  have hsz : ((((((w.alloc (.cells #[.int .i64 k] 3)).alloc (.cells #[.int .i64 0] 3)).alloc (.cells #[.pointer none] 24)).alloc (.cells #[.int .i64 c] 3)).alloc (.cells #[.bool u] 4))).heap.size = w.heap.size + 5 := by simp
  refine wpIn_rangeFunc_ownG rfl (by omega) (gf := 34) (lb := #[.pointer (some ⟨w.heap.size + 1 + 1, 0, none⟩), .pointer (some ⟨w.heap.size + 1 + 1 + 1, 0, none⟩), .pointer (some ⟨w.heap.size + 1 + 1 + 1 + 1, 0, none⟩)]) rfl trivial (enters_of Try.func34 (by kernel_rfl) rfl)
    (way_stops_nil Fence.wide 4 trivial rfl (w.heap.size + 1 + 1) _ _ (fun k => k = w.heap.size ∨ k = w.heap.size + 1 ∨ w.heap.size + 5 ≤ k) _ H1)
    (fun h k => h.trans k) (fun W l o o' hl _ _ _ => Kept.grown (grownBy_putObj' W l o') (fun g e => by cases e; rw [hsz] at hl; exact .inr (.inr hl))) (Below.refl _ _) (fun _ => rfl)
    (fun pre W => (W.cell? ⟨w.heap.size + 1, 0, none⟩ = some (.int .i64 0) ∧ W.frozen? ⟨w.heap.size + 1, 0, none⟩ = false) ∧ Below w.heap.size w W)
    (fun z (pre : List Nat) W => False)
    (OwnFrom.and (Own.from (fun s A B row hs hg hr => ⟨cell_kept hs.1 hg hr, (frozen_kept hs.1 hg hr).trans hs.2⟩) _) (ownFrom_below (Nat.le_refl _) (by simp; omega)))
    (fun _ _ _ _ _ hs _ _ => hs)
    ⟨⟨R0.cell 0 _ rfl, R0.free 0⟩, hB0⟩
    (fun x => { tmps := #[.pointer none, .int .i64 c, .bool u, .int .i64 k, undef, undef, undef, .pointer (some ⟨w.heap.size, 0, none⟩), .pointer (some ⟨w.heap.size + 1, 0, none⟩), .int .i64 (x : Int), .pointer none, .int .i64 c, .bool u, .func (.func 34) #[] #[.pointer (some ⟨w.heap.size + 1 + 1, 0, none⟩), .pointer (some ⟨w.heap.size + 1 + 1 + 1, 0, none⟩), .pointer (some ⟨w.heap.size + 1 + 1 + 1 + 1, 0, none⟩)], .int .i64 (x : Int), undef, undef, undef, undef, undef], defers := [] }) ?assign ?body ?done ?stop
  case assign =>
    intro l x W K hK
    gi_wp2
    exact hK
  case body =>
    rintro l pre x W _ hlt
    exact absurd hlt (by omega)
  case done =>
    rintro D ys W hD rfl ⟨⟨hc2, hf2⟩, hB⟩ hK
    gi_wp2
    have hK' := (KeepsOthers.setCell W ⟨w.heap.size + 1, 0, none⟩ (.int .i64 (-1))).same D _ hK rfl
    refine ⟨by simp, .inl ⟨_, _, rfl, run_takeDeferred hK', ?_⟩⟩
    have hc5 := cell_kept (World.cell?_setCell_same' W ⟨w.heap.size + 1, 0, none⟩ (.int .i64 (-1)) (by rw [hc2]; rfl)) (grownBy_putObj' _ D (.deferred none)) (fun r e => by cases e; exact ⟨_, hK', rfl⟩)
    refine ⟨.int .i64 (-1), ?_, rfl, (hB.setCell (p := ⟨w.heap.size + 1, 0, none⟩) (by simp) _).trans (belowK_b (w := w) (Nat.le_refl _) _ D _ _ (by rw [hsz] at hD; omega) hK' rfl rfl)⟩
    simp [results, Try.f24, go_sem, hc5]
  case stop =>
    rintro D z pre W hD _ h _
    exact h.elim
end Go.Proofs.Ytkdopflnaeejeaa
