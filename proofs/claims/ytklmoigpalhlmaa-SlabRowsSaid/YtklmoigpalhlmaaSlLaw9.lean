/-
  The walk of a statement of layer 3: an image gone over.
-/
import Derived.Test.YtklmoigpalhlmaaSlRows
import Derived.Test.YtklmoigpalhlmaaSlJ
import Derived.Test.YtklmoigpalhlmaaSlLaw0
import Derived.Sort.BigQuietIn
import Derived.Deep.QuietTactic
import Derived.BigQuiet
import Derived.Deep.CutRange
import Derived.Deep.CutBlock
import Derived.StillTailTactics
namespace Go.Proofs.Ytklmoigpalhlmaa
open Go.RowKit Go.Shelf
set_option linter.unusedVariables false
set_option linter.unusedSimpArgs false
attribute [local go_sem] Oper.semAt_some

theorem calls_of_wp_marks {P : Program} {f : FuncId} {fn : Func} {c : Code} {args : Array Value} {w : World} {R : Ending → World → Prop}
    (hf : P.funcs[f]? = some fn) (hb : fn.body = some c)
    (h : c.wp P (bodyPostM Fence.wide 5 P fn R) { tmps := args ++ Array.replicate (fn.ntmps - args.size) undef, defers := [] } w) : Calls P f args w R :=
  (callsIn_wide (n := 5)).1 (callsIn_of_wp_marks hf hb trivial (wpIn_wide.2 h) rfl)
theorem marks_ret {F : Fence} {n : Nat} {P : Program} {fn : Func} {R : Ending → World → Prop} {a : Act} {w : World} {v : Value}
    (hr : (results fn a.tmps).run P w = .ok v w) (hd : a.defers = []) (hR : R (.returned v) w) : bodyPostM F n P fn R .ret a w := by
  show LeavesInM F n P fn a.tmps R a.defers .returning w
  rw [hd]
  exact ⟨_, hr, hR⟩
theorem results_cell_bool {P : Program} {fn : Func} {p : Tmp} {ty : TypeId} (h : fn.results = #[.cell p ty]) (tmps : Array Value) (w : World) (g : Nat) (v : Bool)
    (hp : tmps.getD p undef = .pointer (some ⟨g, 0, none⟩)) (hg : w.cell? ⟨g, 0, none⟩ = some (.bool v)) (hu : P.underlying ty = some .bool) :
    (results fn tmps).run P w = .ok (.bool v) w := by
  have hp' : tmps[p]?.getD undef = .pointer (some ⟨g, 0, none⟩) := by simpa using hp
  simp [results, h, hp', asAddr, go_sem, hg, isAgg, run_underlying hu]
theorem func_ne_nil (b : Nat) (w : World) : (binOp .eql 50 (.func (.func 37) #[] #[.pointer (some ⟨b, 0, none⟩)]) .nilFunc).run Try.prog w = .ok (.bool false) w := by
  kernel_rfl
theorem range_both {P : Program} {c : Code} {id : Nat} {K : Act → World → Prop} {Q' : Exit → Act → World → Prop} {a : Act} {w : World} (J : Act → World → Prop)
    (h : c.wp P (fun e a w => (e = .normal ∨ e = .exit id) ∧ J a w) a w) (hJ : ∀ a w, J a w → K a w) : c.wp P (Exit.inBlock id (Exit.then K Q')) a w :=
  wp_mono h (fun e a w hh => by
    obtain ⟨he, hj⟩ := hh
    rcases he with rfl | rfl
    · exact hJ _ _ hj
    · simp only [Exit.inBlock, if_true, Exit.then]; exact hJ _ _ hj)
/-- What stands while an image is gone over. -/
structure RowsAt (w : World) (lsn : Int) (A : Option Addr) (n c : Nat) (qb a : Nat) (W : World) : Prop where
  p : Has W w.heap.size (.cells #[.int .i64 lsn, .slice A n c] 24)
  s : Has W (w.heap.size + 1) (.cells #[.int .i64 (a : Int)] 3)
  r : Has W (w.heap.size + 1 + 1) (.cells #[.bool false] 4)
  q : Has W qb (.cells #[.int .i64 lsn, .slice A n c] 24)
  below : Below w.heap.size w W
section
variable {w : World} {lsn : Int} {A : Option Addr} {n c qb a : Nat} {W W' : World}
theorem RowsAt.go (h : RowsAt w lsn A n c qb a W) (b : Below W.heap.size W W') : RowsAt w lsn A n c qb a W' := ⟨h.p.below b, h.s.below b, h.r.below b, h.q.below b, bup h.below b⟩
theorem RowsAt.but (h : RowsAt w lsn A n c qb a W) {b : Nat} (k : But b W W') (hb : w.heap.size + 1 + 1 < b) (hq : qb ≠ b) : RowsAt w lsn A n c qb a W' :=
  ⟨h.p.but k (by omega), h.s.but k (by omega), h.r.but k (by omega), h.q.but k hq, h.below.trans (k.below (by omega) h.below.size)⟩
theorem has_own {W W' : World} {row : Option Nat} {b : Nat} {cs : Array Value} {t : TypeId} {fr : Nat × Nat} (h : Has W b (.cells cs t fr)) (hg : W.grownBy W' row) (hr : ∀ r, row = some r → ∃ o : Obj, W.heap[r]? = some o ∧ o.isCells = false) : Has W' b (.cells cs t fr) :=
  (hg.block b h.lt (fun e => by
    obtain ⟨o, h1, h2⟩ := hr b e.symm
    have h3 : W.heap[b]? = some (.cells cs t fr) := h
    rw [h3] at h1; cases h1; cases h2)).trans h
theorem RowsAt.own {B : Nat} (hB : w.heap.size ≤ B) : OwnFrom B (fun (_ : Unit) W => RowsAt w lsn A n c qb a W) := fun s X Y row hs hg hr =>
  ⟨has_own hs.p hg (fun r e => (hr r e).2), has_own hs.s hg (fun r e => (hr r e).2), has_own hs.r hg (fun r e => (hr r e).2), has_own hs.q hg (fun r e => (hr r e).2), hs.below.grown hg hs.below.size (fun k e => Nat.le_trans hB (hr k e).1)⟩
end
/-- While it is gone over for the first time: how many have come, and no more than are asked. -/
structure Going1 (w : World) (lsn : Int) (A : Option Addr) (n c : Nat) (qb a nb : Nat) (pre : List (Nat × ByteArray)) (W : World) : Prop where
  at_ : RowsAt w lsn A n c qb a W
  k : Has W nb (.cells #[.int .i64 (pre.length : Int)] 3)
theorem Going1.own {w : World} {lsn : Int} {A : Option Addr} {n c qb a nb B : Nat} (hB : w.heap.size ≤ B) : OwnFrom B (fun pre W => Going1 w lsn A n c qb a nb pre W) := fun s X Y row hs hg hr =>
  ⟨RowsAt.own hB () X Y row hs.at_ hg hr, has_own hs.k hg (fun r e => (hr r e).2)⟩
/-- While it is gone over for the second time. -/
structure Going2 (w : World) (lsn : Int) (A : Option Addr) (n c : Nat) (l : List Sl) (qb a nb nv D lb cb : Nat) (pre : List (Nat × ByteArray)) (W : World) : Prop where
  at_ : RowsAt w lsn A n c qb a W
  k : Has W nb (.cells #[.int .i64 (nv : Int)] 3)
  d : Has W D (.deferred (some []))
  cnt : Has W cb (.cells #[.int .i64 (pre.length : Int)] 3)
  last : ∃ z : Int, Has W lb (.cells #[.int .i64 z] 3) ∧ (pre <+: rowS lsn l → z = lastOf pre)
theorem Going2.own {w : World} {lsn : Int} {A : Option Addr} {n c : Nat} {l : List Sl} {qb a nb nv D lb cb B : Nat} (hB : w.heap.size ≤ B) (hD : D < B) : OwnFrom B (fun pre W => Going2 w lsn A n c l qb a nb nv D lb cb pre W) := fun s X Y row hs hg hr =>
  ⟨RowsAt.own hB () X Y row hs.at_ hg hr, has_own hs.k hg (fun r e => (hr r e).2), (hg.block D hs.d.lt (fun e => by have := (hr D e.symm).1; omega)).trans hs.d, has_own hs.cnt hg (fun r e => (hr r e).2), by
    obtain ⟨z, h1, h2⟩ := hs.last
    exact ⟨z, has_own h1 hg (fun r e => (hr r e).2), h2⟩⟩
/-- What stands behind both. -/
structure Rest3 (w : World) (lsn : Int) (A : Option Addr) (n c : Nat) (qb a nb nv D D2 cb r : Nat) (W : World) : Prop where
  at_ : RowsAt w lsn A n c qb a W
  k : Has W nb (.cells #[.int .i64 (nv : Int)] 3)
  d : Has W D (.deferred (some []))
  d2 : Has W D2 (.deferred (some []))
  cnt : Has W cb (.cells #[.int .i64 (r : Int)] 3)
theorem Rest3.go {w : World} {lsn : Int} {A : Option Addr} {n c : Nat} {qb a nb nv D D2 cb r : Nat} {W W' : World} (h : Rest3 w lsn A n c qb a nb nv D D2 cb r W) (b : Below W.heap.size W W') : Rest3 w lsn A n c qb a nb nv D D2 cb r W' :=
  ⟨h.at_.go b, h.k.below b, h.d.below b, h.d2.below b, h.cnt.below b⟩
theorem keeps_below {W W' : World} (b : Below W.heap.size W W') : KeepsOthers W W' := ⟨b.size, fun k o hk _ => (b.block k (Array.getElem?_eq_some_iff.1 hk).1).trans hk⟩
theorem slot_used' (u : Bool) (d : ByteArray) (w : World) : (Instr.field 33 (.agg #[.bool u, .string d]) 0).run Try.prog w = .ok (.bool u) w := by kernel_rfl
set_option maxRecDepth 100000 in
set_option maxHeartbeats 8000000 in
theorem SlabRows_walk (lsn : Int) (A : Option Addr) (n c : Nat) (l : List Sl) (w : World) (I : IsSlots w A n c l) (_ : (Lit.int .i64 lsn).wf = true) (stop : Int) (_ : (Lit.int .i64 stop).wf = true) :
    Calls Try.prog 9 #[.agg #[.int .i64 lsn, .slice A n c], .int .i64 stop] w fun e w' => e = .returned (.bool true) ∧ Below w.heap.size w w' := by
  have CA := Lib.hid (fun w => slabAwake_any w)
  have CR := Lib.hid (fun w h => great_any lsn A n c l w h)
  have CT := Lib.hid (fun i w h => pat_any lsn A n c l i w h)
  have H := Lib.hid I
  clear I
  obtain ⟨a, ha, hae⟩ := slMod_form stop 40 (by omega) (by omega)
  have hae' : wrap64 ((IntKind.u64.wrap stop).tmod 40) = a := hae
  have CF := fun (b : Nat) (w : World) => func_ne_nil b w
  have Hae := Lib.hid hae'
  clear hae hae'
  obtain ⟨g1, hg1⟩ : ∃ g, slGreat l = g := ⟨_, rfl⟩
  rw [hg1] at CR
  have HG := Lib.hid hg1
  clear hg1
  refine calls_of_wp_marks Try.func9 rfl ?_
  simp only [Try.ntmps9, List.size_toArray, List.length_cons, List.length_nil, Nat.reduceAdd, Nat.reduceSub, Array.replicate_succ, Array.replicate_zero, List.push_toArray, List.append_toArray, List.nil_append, List.cons_append]
  go_wp2_with fail
  refine (CA.out _).mono ?_
  rintro e w1 ⟨rfl, b0⟩
  have P1 := Lib.hid ((((Has.new w (.cells #[.int .i64 lsn, .slice A n c] 24)).alloc (.cells #[.int .i64 stop] 3)).alloc (.cells #[.bool false] 4)).below b0)
  have S1 := Lib.hid (((Has.new1 w (.cells #[.int .i64 lsn, .slice A n c] 24) (.cells #[.int .i64 stop] 3)).alloc (.cells #[.bool false] 4)).below b0)
  have R1 := Lib.hid ((Has.new2 w (.cells #[.int .i64 lsn, .slice A n c] 24) (.cells #[.int .i64 stop] 3) (.cells #[.bool false] 4)).below b0)
  have B1 := Lib.hid (bup (bup (bup (bnew w _) (bnew _ _)) (bnew _ _)) b0)
  have H1 := Lib.hid (H.out.below B1.out)
  clear b0
  have p0 := P1.out.cell 0 _ rfl
  have p1 := P1.out.cell 1 _ rfl
  go_wp2_with fail
  refine (CR.out _ H1.out).mono ?_
  rintro e w2 ⟨rfl, b2⟩
  have P2 := Lib.hid (P1.out.below b2)
  have S2 := Lib.hid (S1.out.below b2)
  have R2 := Lib.hid (R1.out.below b2)
  have B2 := Lib.hid (bup B1.out b2)
  clear b2 p0 p1 P1 S1 R1 B1 H1
  have hsl : w.heap.size + 1 + 1 < w2.heap.size := R2.out.lt
  have hsl1 : w.heap.size + 1 < w2.heap.size := S2.out.lt
  have hsl0 : w.heap.size < w2.heap.size := P2.out.lt
  have p0 := P2.out.cell 0 _ rfl
  have p1 := P2.out.cell 1 _ rfl
  have s0 := S2.out.cell 0 _ rfl
  have sf := S2.out.free 0
  have r0 := R2.out.cell 0 _ rfl
  have rf := R2.out.free 0
  cases g1 with
  | true =>
    go_wp2_with fail
    (try simp only [Exit.inBlock, Exit.then])
    refine marks_ret (v := .bool true) ?_ rfl ⟨rfl, ?_⟩
    · exact results_cell_bool rfl _ _ (w.heap.size + 1 + 1) true rfl (World.cell?_setCell_same' _ _ _ (by rw [r0]; rfl)) Try.underlying4
    · exact B2.out.setCell (p := ⟨w.heap.size + 1 + 1, 0, none⟩) (show w.heap.size ≤ w.heap.size + 1 + 1 by omega) _
  | false =>
    have hae := Hae.out
    go_upto_region 10 with (go_at_call 27; (with_reducible refine (rows_any _ _ _ _ _).mono ?_); rintro e w1 ⟨rfl, rfl⟩)
    go_wp2_with fail
    have Q3 := Lib.hid (show RowsAt w lsn A n c w2.heap.size a (((w2.setCell ⟨w.heap.size + 1, 0, none⟩ (.int .i64 (a : Int))).alloc (.cells #[.int .i64 lsn, .slice A n c] 24)).alloc (.cells #[.int .i64 0] 3)) from by
      have g := But.set (w.heap.size + 1) 0 w2 (.int .i64 (a : Int))
      exact ⟨((P2.out.but g (by omega)).alloc _).alloc _, ((S2.out.set 0 (.int .i64 (a : Int))).alloc _).alloc _, ((R2.out.but g (by omega)).alloc _).alloc _, (Has.at _ _ (by simp)).alloc _, ((B2.out.setCell (p := ⟨w.heap.size + 1, 0, none⟩) (show w.heap.size ≤ w.heap.size + 1 by omega) _).trans ((bnew _ _).mono (by simp; omega))).trans ((bnew _ _).mono (by simp; omega))⟩)
    have N3 : Hid (Has (((w2.setCell ⟨w.heap.size + 1, 0, none⟩ (.int .i64 (a : Int))).alloc (.cells #[.int .i64 lsn, .slice A n c] 24)).alloc (.cells #[.int .i64 0] 3)) (w2.heap.size + 1) (.cells #[.int .i64 0] 3)) := Lib.hid (Has.at _ _ (by simp))
    have hz3 : (((w2.setCell ⟨w.heap.size + 1, 0, none⟩ (.int .i64 (a : Int))).alloc (.cells #[.int .i64 lsn, .slice A n c] 24)).alloc (.cells #[.int .i64 0] 3)).heap.size = w2.heap.size + 2 := by simp
    generalize hw3 : World.alloc (World.alloc (World.setCell w2 _ _) _) _ = w3
    rw [hw3] at Q3 N3 hz3
    have HG' := great_false HG.out
    have hl100 : l.length ≤ 100 := HG'.1
    clear hw3 P2 S2 R2 B2 p0 p1 s0 sf r0 rf hae HG HG'
    have hb3 := Q3.out.below.size
    refine range_both (fun a' W => ∃ (D nv : Nat), a' = { tmps := #[.agg #[.int .i64 lsn, .slice A n c], .int .i64 stop, .pointer (some ⟨w.heap.size, 0, none⟩), .pointer (some ⟨w.heap.size + 1, 0, none⟩), .pointer (some ⟨w.heap.size + 1 + 1, 0, none⟩), .func (.func 37) #[] #[.pointer (some ⟨w2.heap.size, 0, none⟩)], .pointer (some ⟨w2.heap.size + 1, 0, none⟩), undef, undef, undef, undef, undef, undef, .bool true, .bool false, .agg #[.int .i64 lsn, .slice A n c], .bool false, .agg #[.int .i64 lsn, .slice A n c], .func (.func 37) #[] #[.pointer (some ⟨w2.heap.size, 0, none⟩)], .func (.func 37) #[] #[.pointer (some ⟨w2.heap.size, 0, none⟩)], .bool false, .int .i64 stop, .int .u64 (IntKind.u64.wrap stop), .int .u64 ((IntKind.u64.wrap stop).tmod 40), .int .i64 (wrap64 ((IntKind.u64.wrap stop).tmod 40)), .func (.func 37) #[] #[.pointer (some ⟨w2.heap.size, 0, none⟩)], undef, undef, undef, undef, undef, undef, undef, undef, undef, undef, undef, undef, undef, undef, undef, undef, undef, undef, undef, undef, undef, undef, undef, undef, undef, undef, undef, undef, undef, undef, undef, undef, undef, undef, undef, undef, undef, undef, undef, undef, undef, undef, undef, undef, undef], defers := [{ target := .collected D, args := #[] }] } ∧ Hid (nv = min (rowS lsn l).length (a + 1)) ∧ Hid (Has W (w2.heap.size + 1) (.cells #[.int .i64 (nv : Int)] 3)) ∧ Hid (RowsAt w lsn A n c w2.heap.size a W) ∧ Hid (Has W D (.deferred (some []))) ∧ w2.heap.size + 2 ≤ D) ?loop ?rest
    case loop =>
      refine (wpIn_wide (n := 5)).1 ?_
      refine wpIn_rangeFunc_ownH rfl (by omega) (gf := 37) (lb := #[.pointer (some ⟨w2.heap.size, 0, none⟩)]) rfl trivial (enters_of Try.func37 (by kernel_rfl) rfl)
        (rows_stops 4 (by omega) w2.heap.size w lsn A n c l H.out w3 Q3.out.below Q3.out.q)
        (fun h k => h.trans k) (fun W l o o' hl h1 h2 h3 => belowK_b (by have := Q3.out.below.size; omega) W l o o' hl h1 h2 h3) (Below.refl _ _) (fun _ => rfl)
        (fun pre W => Going1 w lsn A n c w2.heap.size a (w2.heap.size + 1) pre W ∧ pre.length ≤ a)
        (fun z pre W => (Going1 w lsn A n c w2.heap.size a (w2.heap.size + 1) pre W ∧ pre.length = a + 1) ∧ z = .exit 0)
        (OwnFrom.and (Going1.own Q3.out.below.size) (fun _ _ _ _ hs _ _ => hs))
        (fun z => OwnFrom.and (OwnFrom.and (Going1.own Q3.out.below.size) (fun _ _ _ _ hs _ _ => hs)) (fun _ _ _ _ hs _ _ => hs))
        ⟨⟨Q3.out, N3.out⟩, Nat.zero_le _⟩
        (fun x a' W => a' = { tmps := #[.agg #[.int .i64 lsn, .slice A n c], .int .i64 stop, .pointer (some ⟨w.heap.size, 0, none⟩), .pointer (some ⟨w.heap.size + 1, 0, none⟩), .pointer (some ⟨w.heap.size + 1 + 1, 0, none⟩), .func (.func 37) #[] #[.pointer (some ⟨w2.heap.size, 0, none⟩)], .pointer (some ⟨w2.heap.size + 1, 0, none⟩), undef, undef, undef, undef, undef, undef, .bool true, .bool false, .agg #[.int .i64 lsn, .slice A n c], .bool false, .agg #[.int .i64 lsn, .slice A n c], .func (.func 37) #[] #[.pointer (some ⟨w2.heap.size, 0, none⟩)], .func (.func 37) #[] #[.pointer (some ⟨w2.heap.size, 0, none⟩)], .bool false, .int .i64 stop, .int .u64 (IntKind.u64.wrap stop), .int .u64 ((IntKind.u64.wrap stop).tmod 40), .int .i64 (wrap64 ((IntKind.u64.wrap stop).tmod 40)), .func (.func 37) #[] #[.pointer (some ⟨w2.heap.size, 0, none⟩)], .int .i64 (x.1 : Int), .string x.2, undef, undef, undef, undef, undef, undef, undef, undef, undef, undef, undef, undef, undef, undef, undef, undef, undef, undef, undef, undef, undef, undef, undef, undef, undef, undef, undef, undef, undef, undef, undef, undef, undef, undef, undef, undef, undef, undef, undef, undef, undef, undef, undef], defers := [] })
        (fun x a' s X Y row hs _ _ => hs)
        ?assign ?body ?done ?stop
      case assign =>
        intro l' pre x W K hI hK
        have hJ := hK _ _ (KeepsFrom.refl _ W) (Below.refl _ _) hI rfl
        clear hK
        gi_wp2
        exact hJ
      case body =>
        rintro l' pre x a' W hl hrec ⟨hG, hle⟩ rfl hlt
        have HG := Lib.hid hG
        have k0 := hG.k.cell 0 _ rfl
        have kf := hG.k.free 0
        have s0 := hG.at_.s.cell 0 _ rfl
        have hlt1 := hG.at_.s.lt
        have hlt2 := hG.k.lt
        obtain ⟨m, hm⟩ : ∃ m, pre.length = m := ⟨_, rfl⟩
        rw [hm] at k0 hle hlt
        have Hm := Lib.hid hm
        clear hG hrec hm
        have hm100 : m ≤ 100 := by omega
        have KB : ∀ v, But (w2.heap.size + 1) W (W.setCell ⟨w2.heap.size + 1, 0, none⟩ v) := fun v => But.set _ 0 W v
        by_cases hma : m < a
        · have hdec : ¬ (a < m + 1) := by omega
          gi_wp2
          refine ⟨(KeepsOthers.setCell _ _ _).from _, (KB _).below (by omega) (by have := HG.out.at_.below.size; omega), ⟨HG.out.at_.but (KB _) (by omega) (by omega), ?_⟩, by rw [List.length_append, Hm.out]; exact hma⟩
          have : (((pre ++ [x]).length : Nat) : Int) = (m : Int) + 1 := by rw [List.length_append, Hm.out]; rfl
          rw [this]
          exact HG.out.k.set 0 _
        · have hma' : m = a := by omega
          have hdec : a < m + 1 := by omega
          gi_wp2
          refine ⟨(KeepsOthers.setCell _ _ _).from _, ⟨⟨HG.out.at_.but (KB _) (by omega) (by omega), ?_⟩, by rw [List.length_append, Hm.out, hma']; rfl⟩, rfl⟩
          have : (((pre ++ [x]).length : Nat) : Int) = (a : Int) + 1 := by rw [List.length_append, Hm.out, hma']; rfl
          rw [this]
          exact HG.out.k.set 0 _
      case done =>
        rintro D ys W hD hys ⟨hG, hle⟩ hK
        refine ⟨.inl rfl, D, ys.length, rfl, Lib.hid ?_, Lib.hid hG.k, Lib.hid hG.at_, Lib.hid hK, by omega⟩
        rw [← hys]; omega
      case stop =>
        rintro D cc pre W hD ⟨m, hm, hpre, hgd⟩ ⟨⟨hG, hle⟩, rfl⟩ hK
        refine wpIn_exit ?_
        refine ⟨.inr rfl, D, pre.length, rfl, Lib.hid ?_, Lib.hid hG.k, Lib.hid hG.at_, Lib.hid hK, by omega⟩
        have h1 : pre.length ≤ (rowS lsn l).length := by
          rw [hpre]; unfold rowS; rw [if_pos hgd]; exact (rowF_pre l m).length_le
        omega
    case rest =>
      rintro a' W ⟨D, nv, rfl, HNV, HN, HQ, HD, hD⟩
      have hQl := HQ.out.r.lt
      have hDl := HD.out.lt
      have hNl := HN.out.lt
      have H4 : Hid (Going2 w lsn A n c l w2.heap.size a (w2.heap.size + 1) nv D W.heap.size (W.heap.size + 1) [] ((W.alloc (.cells #[.int .i64 (-1)] 3)).alloc (.cells #[.int .i64 0] 3))) :=
        Lib.hid ⟨(HQ.out.go (bnew _ _)).go (bnew _ _), (HN.out.alloc _).alloc _, (HD.out.alloc _).alloc _, Has.new1 _ _ _, ⟨-1, (Has.new _ _).alloc _, fun _ => rfl⟩⟩
      go_wp2_with fail
      have hz4 : ((W.alloc (.cells #[.int .i64 (-1)] 3)).alloc (.cells #[.int .i64 0] 3)).heap.size = W.heap.size + 2 := by simp
      generalize hw4 : World.alloc (World.alloc W _) _ = w4
      rw [hw4] at H4 hz4
      clear hw4 HN HQ HD
      refine (wpIn_wide (n := 5)).1 ?_
      refine wpIn_rangeFunc_ownH rfl (by omega) (gf := 37) (lb := #[.pointer (some ⟨w2.heap.size, 0, none⟩)]) rfl trivial (enters_of Try.func37 (by kernel_rfl) rfl)
        (rows_stops 4 (by omega) w2.heap.size w lsn A n c l H.out w4 H4.out.at_.below H4.out.at_.q)
        (fun h k => h.trans k) (fun W l o o' hl h1 h2 h3 => belowK_b (by omega) W l o o' hl h1 h2 h3) (Below.refl _ _) (fun _ => rfl)
        (fun pre W' => Going2 w lsn A n c l w2.heap.size a (w2.heap.size + 1) nv D W.heap.size (W.heap.size + 1) pre W')
        (fun z pre W' => z = .ret ∧ ¬ (pre <+: rowS lsn l))
        (Going2.own (by omega) (by omega))
        (fun z => fun _ _ _ _ hs _ _ => hs)
        H4.out
        (fun x a' W' => a' = { tmps := #[.agg #[.int .i64 lsn, .slice A n c], .int .i64 stop, .pointer (some ⟨w.heap.size, 0, none⟩), .pointer (some ⟨w.heap.size + 1, 0, none⟩), .pointer (some ⟨w.heap.size + 1 + 1, 0, none⟩), .func (.func 37) #[] #[.pointer (some ⟨w2.heap.size, 0, none⟩)], .pointer (some ⟨w2.heap.size + 1, 0, none⟩), .pointer (some ⟨W.heap.size, 0, none⟩), .pointer (some ⟨W.heap.size + 1, 0, none⟩), .int .i64 (x.1 : Int), .string x.2, undef, undef, .bool true, .bool false, .agg #[.int .i64 lsn, .slice A n c], .bool false, .agg #[.int .i64 lsn, .slice A n c], .func (.func 37) #[] #[.pointer (some ⟨w2.heap.size, 0, none⟩)], .func (.func 37) #[] #[.pointer (some ⟨w2.heap.size, 0, none⟩)], .bool false, .int .i64 stop, .int .u64 (IntKind.u64.wrap stop), .int .u64 ((IntKind.u64.wrap stop).tmod 40), .int .i64 (wrap64 ((IntKind.u64.wrap stop).tmod 40)), .func (.func 37) #[] #[.pointer (some ⟨w2.heap.size, 0, none⟩)], undef, undef, undef, undef, undef, undef, undef, .func (.func 37) #[] #[.pointer (some ⟨w2.heap.size, 0, none⟩)], .int .i64 (x.1 : Int), .string x.2, undef, undef, undef, undef, undef, undef, undef, undef, undef, undef, undef, undef, undef, undef, undef, undef, undef, undef, undef, undef, undef, undef, undef, undef, undef, undef, undef, undef, undef, undef, undef, undef, undef, undef, undef], defers := [] })
        (fun x a' s X Y row hs _ _ => hs)
        ?assign ?body ?done ?stop
      case assign =>
        intro l' pre x W' K hI hK
        have hJ := hK _ _ (KeepsFrom.refl _ W') (Below.refl _ _) hI rfl
        clear hK
        gi_wp2
        exact hJ
      case body =>
        rintro l' pre x a' W' hl hrec hG rfl hlt
        have HG := Lib.hid hG
        obtain ⟨z, hz, hzl⟩ := hG.last
        have HZ := Lib.hid hz
        have HZL := Lib.hid hzl
        have z0 := hz.cell 0 _ rfl
        have p0 := hG.at_.p.cell 0 _ rfl
        have p1 := hG.at_.p.cell 1 _ rfl
        have r0 := hG.at_.r.cell 0 _ rfl
        have rf := hG.at_.r.free 0
        have hrl := hG.at_.r.lt
        have hcl := hG.cnt.lt
        have hzlt := hz.lt
        obtain ⟨m, hm⟩ : ∃ m, pre.length = m := ⟨_, rfl⟩
        rw [hm] at hlt
        have Hm := Lib.hid hm
        have hm100 : m ≤ 100 := by omega
        obtain ⟨xk, xs⟩ := x
        have HNX := Lib.hid (fun h => row_next (lsn := lsn) (l := l) (pre := pre) (x := (xk, xs)) h)
        clear hG hrec hz hzl hm
        simp only
        by_cases hkz : (xk : Int) ≤ z
        · have hbad : Hid (¬ (pre ++ [(xk, xs)] <+: rowS lsn l)) := Lib.hid (fun h => by
            have h1 := (HNX.out h).1
            have h2 := HZL.out ((List.prefix_append _ _).trans h)
            simp only at h1; omega)
          gi_wp2
          refine ⟨trivial, ?_⟩
          gi_wp2
          exact ⟨(KeepsOthers.setCell _ _ _).from _, rfl, hbad.out⟩
        · have hkz' : z < (xk : Int) := by omega
          have hnl : ¬ ((xk : Int) ≤ z) := hkz
          obtain ⟨y, hy⟩ : ∃ y, slAt lsn l (xk : Int) = y := ⟨_, rfl⟩
          have CTX := CT.out (xk : Int) W' (H.out.below (HG.out.at_.below))
          rw [hy] at CTX HNX
          have HCT := Lib.hid CTX
          have CE := fun w => slNeqBin y ⟨true, xs⟩ w
          have HE := Lib.hid (slEq_iff y ⟨true, xs⟩)
          obtain ⟨eq, heq⟩ : ∃ b, slEq y ⟨true, xs⟩ = b := ⟨_, rfl⟩
          simp only [heq] at CE
          have HQ := Lib.hid heq
          obtain ⟨yu, yd⟩ := y
          simp only at CE
          clear hkz CTX heq hy
          cases eq with
          | true =>
            simp only [Bool.not_true] at CE
            gi_wp2_with (refine ⟨trivial, ?_⟩; gi_at_call 21; refine (show CallsIn (Fence.wide.inRound l') _ _ _ _ _ _ from callsIn_wide.2 HCT.out).mono ?_; rintro e w5 ⟨rfl, b5⟩; have B5 := Lib.hid b5; have c5 := (HG.out.cnt.below b5).cell 0 _ rfl; have cf5 := (HG.out.cnt.below b5).free 0; have z5 := (HZ.out.below b5).cell 0 _ rfl; have zf5 := (HZ.out.below b5).free 0; have hcl5 := (HG.out.cnt.below b5).lt; have hzl5 := (HZ.out.below b5).lt; rw [Hm.out] at c5; clear b5)
            have g1 : But W.heap.size w5 (w5.setCell ⟨W.heap.size, 0, none⟩ (.int .i64 (xk : Int))) := But.set _ 0 _ _
            have g2 : But (W.heap.size + 1) (w5.setCell ⟨W.heap.size, 0, none⟩ (.int .i64 (xk : Int))) ((w5.setCell ⟨W.heap.size, 0, none⟩ (.int .i64 (xk : Int))).setCell ⟨W.heap.size + 1, 0, none⟩ (.int .i64 ((m : Int) + 1))) := But.set _ 0 _ _
            have b5 := B5.out
            have hs5 := b5.size
            have hlenx : (((pre ++ [(xk, xs)]).length : Nat) : Int) = (m : Int) + 1 := by rw [List.length_append, Hm.out]; rfl
            refine ⟨(((keeps_below b5).trans (KeepsOthers.setCell _ _ _)).trans (KeepsOthers.setCell _ _ _)).from _, ((b5.mono (by omega)).trans (g1.below (by omega) (by omega))).trans (g2.below (by omega) (by simp; omega)), ⟨((HG.out.at_.go b5).but g1 (by omega) (by omega)).but g2 (by omega) (by omega), ((HG.out.k.below b5).but g1 (by omega)).but g2 (by omega), ((HG.out.d.below b5).but g1 (by omega)).but g2 (by omega), ?_, ⟨(xk : Int), ((HZ.out.below b5).set 0 _).but g2 (by omega), fun _ => (lastOf_snoc pre (xk, xs)).symm⟩⟩⟩
            rw [hlenx]
            exact ((HG.out.cnt.below b5).but g1 (by omega)).set 0 _
          | false =>
            simp only [Bool.not_false] at CE
            have hbad : Hid (¬ (pre ++ [(xk, xs)] <+: rowS lsn l)) := Lib.hid (fun h => by
              have h1 := (HNX.out h).2
              have h2 := HE.out.2 h1
              rw [HQ.out] at h2; cases h2)
            gi_wp2_with (refine ⟨trivial, ?_⟩; gi_at_call 21; refine (show CallsIn (Fence.wide.inRound l') _ _ _ _ _ _ from callsIn_wide.2 HCT.out).mono ?_; rintro e w5 ⟨rfl, b5⟩; have B5 := Lib.hid b5; have r5 := (HG.out.at_.r.below b5).cell 0 _ rfl; have rf5 := (HG.out.at_.r.below b5).free 0; have hrl5 := (HG.out.at_.r.below b5).lt; clear b5)
            exact ⟨((keeps_below B5.out).trans (KeepsOthers.setCell _ _ _)).from _, rfl, hbad.out⟩
      case done =>
        intro D2 ys W' hD2 hys hG hK
        obtain ⟨r, hr⟩ : ∃ r, (rowS lsn l).length = r := ⟨_, rfl⟩
        have hc := hG.cnt
        rw [hys, hr] at hc
        have HR : Hid (Rest3 w lsn A n c w2.heap.size a (w2.heap.size + 1) nv D D2 (W.heap.size + 1) r W') := Lib.hid ⟨hG.at_, hG.k, hG.d, hK, hc⟩
        have hus := usedN_all lsn l
        rw [hr] at hus HNV
        have HUS := Lib.hid hus
        have hule : r ≤ 32 := by rw [← hus]; exact usedN_le lsn l 32
        have hD2' : W.heap.size + 2 ≤ D2 := by omega
        clear hys hG hK hc hus hr
        go_wp2_with fail
        go_loopw [11, 12] (fun v i wr => ∃ k m : Nat, k ≤ 32 ∧ m ≤ k ∧ i = .int .i64 k ∧ v = .int .i64 m ∧ Hid (m = usedN lsn l k) ∧ Hid (Rest3 w lsn A n c w2.heap.size a (w2.heap.size + 1) nv D D2 (W.heap.size + 1) r wr)) (fun _ i _ => 32 - (intOf i).toNat)
        case atStart => exact ⟨0, 0, by omega, by omega, rfl, rfl, Lib.hid rfl, HR⟩
        case round =>
          obtain ⟨k, m, hk, hm, rfl, rfl, HM, HT⟩ := hrel
          clear HR
          by_cases hlt : k < 32
          · have p0 := HT.out.at_.p.cell 0 _ rfl
            have p1 := HT.out.at_.p.cell 1 _ rfl
            have hstep := usedN_step lsn l k
            have CTX := CT.out (k : Int) wr (H.out.below HT.out.at_.below)
            obtain ⟨y, hy⟩ : ∃ y, slAt lsn l (k : Int) = y := ⟨_, rfl⟩
            rw [hy] at CTX hstep
            have HCT := Lib.hid CTX
            have HST := Lib.hid hstep
            obtain ⟨yu, yd⟩ := y
            have hfl := slot_used'
            clear CTX hstep hy
            cases yu with
            | true =>
              go_wp2_with fail
              refine HCT.out.mono ?_
              rintro e w5 ⟨rfl, b5⟩
              go_wp2_with fail
              go_roundw
              case rel => exact ⟨k + 1, m + 1, by omega, by omega, by go_num, by go_num, Lib.hid (by rw [HST.out, ← HM.out]; rfl), Lib.hid (HT.out.go b5)⟩
              case measure => simp [intOf]; omega
            | false =>
              go_wp2_with fail
              refine HCT.out.mono ?_
              rintro e w5 ⟨rfl, b5⟩
              go_wp2_with fail
              go_roundw
              case rel => exact ⟨k + 1, m, by omega, by omega, by go_num, rfl, Lib.hid (by rw [HST.out, ← HM.out]; rfl), Lib.hid (HT.out.go b5)⟩
              case measure => simp [intOf]; omega
          · obtain rfl : k = 32 := by omega
            have hmr : m = r := by rw [HM.out, HUS.out]
            subst hmr
            have c0 := HT.out.cnt.cell 0 _ rfl
            have n0 := HT.out.k.cell 0 _ rfl
            have s0 := HT.out.at_.s.cell 0 _ rfl
            have r0 := HT.out.at_.r.cell 0 _ rfl
            have rf := HT.out.at_.r.free 0
            have hnv := HNV.out
            have HTT := Lib.hid (show w.heap.size + 1 + 1 < wr.heap.size from HT.out.at_.r.lt)
            clear HM HUS HNV
            by_cases hra : m ≤ a + 1
            · obtain rfl : nv = m := by omega
              clear hnv
              go_wp2_with fail
              (try simp only [Exit.inBlock, Exit.then])
              have hk2 : (wr.setCell ⟨w.heap.size + 1 + 1, 0, none⟩ (.bool true)).heap[D2]? = some (.deferred (some [])) := HT.out.d2.setOther (by omega) 0 _
              refine ⟨by simp, .inl ⟨_, _, rfl, run_takeDeferred hk2, ?_⟩⟩
              have hk1 : ((wr.setCell ⟨w.heap.size + 1 + 1, 0, none⟩ (.bool true)).putObj D2 (.deferred none)).heap[D]? = some (.deferred (some [])) := (World.putObj_heap_other (by omega)).trans (HT.out.d.setOther (by omega) 0 _)
              refine ⟨by simp, .inl ⟨_, _, rfl, run_takeDeferred hk1, ?_⟩⟩
              refine ⟨_, results_cell_bool rfl _ _ (w.heap.size + 1 + 1) true rfl ?_ Try.underlying4, rfl, ?_⟩
              · exact (World.cell?_of_block (World.putObj_heap_other (show w.heap.size + 1 + 1 ≠ D by omega))).trans ((World.cell?_of_block (World.putObj_heap_other (show w.heap.size + 1 + 1 ≠ D2 by omega))).trans ((HT.out.at_.r.set 0 (.bool true)).cell 0 _ rfl))
              · exact ((HT.out.at_.below.setCell (p := ⟨w.heap.size + 1 + 1, 0, none⟩) (show w.heap.size ≤ w.heap.size + 1 + 1 by omega) _).trans (belowK_b (w := w) (Nat.le_refl _) _ D2 _ _ (by omega) hk2 rfl rfl)).trans (belowK_b (w := w) (Nat.le_refl _) _ D _ _ (by omega) hk1 rfl rfl)
            · obtain rfl : nv = a + 1 := by omega
              clear hnv
              go_wp2_with fail
              (try simp only [Exit.inBlock, Exit.then])
              have hk2 : (wr.setCell ⟨w.heap.size + 1 + 1, 0, none⟩ (.bool true)).heap[D2]? = some (.deferred (some [])) := HT.out.d2.setOther (by omega) 0 _
              refine ⟨by simp, .inl ⟨_, _, rfl, run_takeDeferred hk2, ?_⟩⟩
              have hk1 : ((wr.setCell ⟨w.heap.size + 1 + 1, 0, none⟩ (.bool true)).putObj D2 (.deferred none)).heap[D]? = some (.deferred (some [])) := (World.putObj_heap_other (by omega)).trans (HT.out.d.setOther (by omega) 0 _)
              refine ⟨by simp, .inl ⟨_, _, rfl, run_takeDeferred hk1, ?_⟩⟩
              refine ⟨_, results_cell_bool rfl _ _ (w.heap.size + 1 + 1) true rfl ?_ Try.underlying4, rfl, ?_⟩
              · exact (World.cell?_of_block (World.putObj_heap_other (show w.heap.size + 1 + 1 ≠ D by omega))).trans ((World.cell?_of_block (World.putObj_heap_other (show w.heap.size + 1 + 1 ≠ D2 by omega))).trans ((HT.out.at_.r.set 0 (.bool true)).cell 0 _ rfl))
              · exact ((HT.out.at_.below.setCell (p := ⟨w.heap.size + 1 + 1, 0, none⟩) (show w.heap.size ≤ w.heap.size + 1 + 1 by omega) _).trans (belowK_b (w := w) (Nat.le_refl _) _ D2 _ _ (by omega) hk2 rfl rfl)).trans (belowK_b (w := w) (Nat.le_refl _) _ D _ _ (by omega) hk1 rfl rfl)
      case stop =>
        rintro D cc pre W' hD ⟨m, hm, hpre, hgd⟩ ⟨_, hne⟩ hK
        refine absurd ?_ hne
        rw [hpre]; unfold rowS; rw [if_pos hgd]; exact rowF_pre l m
end Go.Proofs.Ytklmoigpalhlmaa
