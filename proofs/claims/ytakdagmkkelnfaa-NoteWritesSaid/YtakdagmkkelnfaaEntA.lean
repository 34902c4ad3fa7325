/-
  An entry, and which entries can be: the small functions.
-/
import Derived.Test.YtakdagmkkelnfaaNib
import Derived.Deep.QuietTactic
import Derived.BigQuiet
import Derived.Lib.QuietBelow
import Derived.Laws.Rows
import Derived.Laws.StructEq
/-! An entry, and which entries can be: the small functions. -/
namespace Go.Proofs.Ytakdagmkkelnfaa
open Go.RowKit

/-- An entry's fields, one by one. -/
structure Ent where
  kind : Int
  cl : Int
  ep : Int
  n : Int
  lsn : Int
  prev : Int
  page : Int
  slot : Int
  wu : Bool
  wd : ByteArray
  iu : Bool
  ix : ByteArray
  next : Int
def Ent.row (x : Ent) : Array Value := #[.int .i64 x.kind, .int .i64 x.cl, .int .i64 x.ep, .int .i64 x.n, .int .i64 x.lsn, .int .i64 x.prev, .int .i64 x.page, .int .i64 x.slot, .bool x.wu, .string x.wd, .bool x.iu, .string x.ix, .int .i64 x.next]
def Ent.val (x : Ent) : Value := .agg x.row

theorem within_is {n a b : Int} {c : Bool} (h : decide (a ≤ n ∧ n ≤ b) = c) (w : World) :
    Calls Try.prog 53 #[.int .i64 n, .int .i64 a, .int .i64 b] w fun e w' => e = .returned (.bool c) ∧ w' = w := by
  subst h
  by_cases h1 : a ≤ n <;> by_cases h2 : n ≤ b <;>
  · go_enter Try.func53, Try.ntmps53
    go_wp2_with fail
    go_ret
    exact ⟨congrArg (fun b => Ending.returned (.bool b)) (by simp_all), rfl⟩

/-- Whether a name can be a transaction's. -/
def knownB (c e n : Int) : Bool := decide (1 ≤ c ∧ c ≤ 8) && (decide (1 ≤ e ∧ e ≤ 1073741824) && decide (1 ≤ n ∧ n ≤ 1073741824))
theorem known_any (c e n : Int) (w : World) :
    Calls Try.prog 31 #[.agg #[.int .i64 c, .int .i64 e, .int .i64 n]] w fun r w' => r = .returned (.bool (knownB c e n)) ∧ Below w.heap.size w w' := by
  unfold knownB
  obtain ⟨b1, h1⟩ : ∃ b, decide (1 ≤ c ∧ c ≤ 8) = b := ⟨_, rfl⟩
  obtain ⟨b2, h2⟩ : ∃ b, decide (1 ≤ e ∧ e ≤ 1073741824) = b := ⟨_, rfl⟩
  obtain ⟨b3, h3⟩ : ∃ b, decide (1 ≤ n ∧ n ≤ 1073741824) = b := ⟨_, rfl⟩
  have C1 := Lib.hid (within_is h1)
  have C2 := Lib.hid (within_is h2)
  have C3 := Lib.hid (within_is h3)
  rw [h1, h2, h3]
  clear h1 h2 h3
  cases b1 <;> cases b2 <;> cases b3 <;>
  · go_enter Try.func31, Try.ntmps31
    go_wp2_with (first | (with_reducible refine (C1.out _).mono ?_; rintro e w1 ⟨rfl, rfl⟩) | (with_reducible refine (C2.out _).mono ?_; rintro e w1 ⟨rfl, rfl⟩) | (with_reducible refine (C3.out _).mono ?_; rintro e w1 ⟨rfl, rfl⟩))
    go_ret
    exact ⟨rfl, bnew _ _⟩
end Go.Proofs.Ytakdagmkkelnfaa

/-! Slots and names: which can be; the plain entry. -/
namespace Go.Proofs.Ytakdagmkkelnfaa
open Go.RowKit Go.Sort

/-- Whether a slot can be. -/
def slotB (u : Bool) (d : ByteArray) : Bool := decide (d.size ≤ 200) && (u || d.toList.isEmpty)
theorem isSlot_any (u : Bool) (d : ByteArray) (hd : d.size ≤ 9223372036854775807) (w : World) :
    Calls Try.prog 54 #[.agg #[.bool u, .string d]] w fun r w' => r = .returned (.bool (slotB u d)) ∧ Below w.heap.size w w' := by
  unfold slotB
  by_cases h1 : d.size ≤ 200 <;> cases u <;>
  · go_enter Try.func54, Try.ntmps54
    go_wp2_with fail
    go_ret
    refine ⟨?_, bnew _ _⟩
    simp [h1]
theorem refSlot_any (u : Bool) (d : ByteArray) (hd : d.size ≤ 9223372036854775807) (w : World) :
    Calls Try.prog 67 #[.agg #[.bool u, .string d]] w fun r w' => r = .returned (.bool (slotB u d)) ∧ Below w.heap.size w w' := by
  unfold slotB
  by_cases h1 : d.size ≤ 200 <;> cases u <;>
  · go_enter Try.func67, Try.ntmps67
    go_wp2_with fail
    go_ret
    refine ⟨?_, bnew _ _⟩
    simp [h1]
theorem refKnown_any (c e n : Int) (w : World) :
    Calls Try.prog 43 #[.agg #[.int .i64 c, .int .i64 e, .int .i64 n]] w fun r w' => r = .returned (.bool (knownB c e n)) ∧ Below w.heap.size w w' := by
  unfold knownB
  by_cases h1 : 1 ≤ c <;> by_cases h2 : c ≤ 8 <;> by_cases h3 : 1 ≤ e <;> by_cases h4 : e ≤ 1073741824 <;> by_cases h5 : 1 ≤ n <;> by_cases h6 : n ≤ 1073741824 <;>
  first
  | (exfalso; omega)
  | (go_enter Try.func43, Try.ntmps43
     go_wp2_with fail
     go_ret
     refine ⟨?_, bnew _ _⟩
     exact congrArg (fun b => Ending.returned (.bool b)) (Bool.eq_iff_iff.2 (by simp <;> omega)))
end Go.Proofs.Ytakdagmkkelnfaa

/-! The plain entry, and how results that lie in cells are read. -/
namespace Go.Proofs.Ytakdagmkkelnfaa
open Go.RowKit Go.Sort

theorem entUnd : ∃ fs, Try.prog.underlying 64 = some (.struct fs) := ⟨_, Try.underlying64⟩
theorem slotUnd : ∃ fs, Try.prog.underlying 62 = some (.struct fs) := ⟨_, Try.underlying62⟩
theorem results_cell_two {P : Program} {fn : Func} {p u v : Tmp} {ty : TypeId} (h : fn.results = #[.cell p ty, .tmp u, .tmp v]) (tmps : Array Value) (w : World) (g : Nat) (t : TypeId) (cs : Array Value) (fr : Nat × Nat) (fs : Array Field)
    (hp : tmps.getD p undef = .pointer (some ⟨g, 0, none⟩)) (hg : w.heap[g]? = some (.cells cs t fr))
    (hu : P.underlying ty = some (.struct fs)) (hi : (P.info? ty).map (·.size) = some cs.size) :
    (results fn tmps).run P w = .ok (.tuple #[.agg cs, tmps.getD u undef, tmps.getD v undef]) w := by
  have hp' : tmps[p]?.getD undef = .pointer (some ⟨g, 0, none⟩) := by simpa using hp
  simp [results, h, hp', asAddr, run_loadVar_row w g t ty cs fr _ hg hu rfl hi]

/-- An entry with the fields alone that all kinds have. -/
def Ent.plain (x : Ent) : Ent := ⟨x.kind, x.cl, x.ep, x.n, x.lsn, x.prev, 0, 0, false, ⟨#[]⟩, false, ⟨#[]⟩, 0⟩
theorem plain_any (x : Ent) (w : World) :
    Calls Try.prog 55 #[x.val] w fun r w' => r = .returned x.plain.val ∧ Below w.heap.size w w' := by
  obtain ⟨fs, hu⟩ := entUnd
  obtain ⟨k, c, e, n, l, p, pg, sl, wu, wd, iu, ix, nx⟩ := x
  simp only [Ent.plain, Ent.val, Ent.row]
  go_enter Try.func55, Try.ntmps55
  go_wp2_with fail
  (try simp only [Exit.inBlock, Exit.then])
  refine bodyPost_ret (v := .agg #[.int .i64 k, .int .i64 c, .int .i64 e, .int .i64 n, .int .i64 l, .int .i64 p, .int .i64 0, .int .i64 0, .bool false, .string ⟨#[]⟩, .bool false, .string ⟨#[]⟩, .int .i64 0]) ?_ rfl ⟨rfl, ?_⟩
  case _ => exact results_cell_row rfl _ _ (w.heap.size + 1) _ _ _ _ rfl (Has.new1 _ _ _) hu rfl (by kernel_rfl)
  exact bup (bnew _ _) (bnew _ _)
end Go.Proofs.Ytakdagmkkelnfaa

/-! Two entries, two slots: when the machine says that they are the same. -/
namespace Go.Proofs.Ytakdagmkkelnfaa
open Go.RowKit Go.Sort

theorem eqFields_step {P : Program} {w : World} {d : Nat} {xs ys : Array Value} {f : Field} {fs : List Field} {a b : Value} {r s : Bool} (hn : f.name ≠ "_") (ha : (part f.type xs f.offset).run P w = .ok a w) (hb : (part f.type ys f.offset).run P w = .ok b w)
    (hr : (Op.equalIn d f.type a b).run P w = .ok r w) (hs : (Op.eqFields d xs ys fs).run P w = .ok s w) : (Op.eqFields d xs ys (f :: fs)).run P w = .ok (r && s) w := by
  simp only [Op.eqFields, hn, ne_eq, not_false_eq_true, if_true, Sem.run_bind, ha, hb, hr, Result.andThen_ok]
  cases r <;> simp [hs]
theorem eqFields_nil {P : Program} {w : World} {d : Nat} {xs ys : Array Value} : (Op.eqFields d xs ys []).run P w = .ok true w := by simp [Op.eqFields]

theorem slotEqIn (d : Nat) (u v : Bool) (a b : ByteArray) (w : World) : (Op.equalIn (d + 2) 62 (.agg #[.bool u, .string a]) (.agg #[.bool v, .string b])).run Try.prog w = .ok (u == v && (a.toList == b.toList && true)) w := by
  rw [run_equalIn_agg w (d + 1) _ _ _ (by simp [Program.fieldsOf, Try.underlying62]) (by kernel_rfl)]
  simp only [Program.fieldsOf, Try.underlying62]
  refine eqFields_step (by decide) (a := .bool u) (b := .bool v) (by go_simp) (by go_simp) (by go_simp) ?_
  refine eqFields_step (by decide) (a := .string a) (b := .string b) (by go_simp) (by go_simp) (by go_simp) eqFields_nil
theorem txnEqIn (d : Nat) (c c' e e' n n' : Int) (w : World) : (Op.equalIn (d + 2) 26 (.agg #[.int .i64 c, .int .i64 e, .int .i64 n]) (.agg #[.int .i64 c', .int .i64 e', .int .i64 n'])).run Try.prog w = .ok (c == c' && (e == e' && (n == n' && true))) w := by
  rw [run_equalIn_agg w (d + 1) _ _ _ (by simp [Program.fieldsOf, Try.underlying26]) (by kernel_rfl)]
  simp only [Program.fieldsOf, Try.underlying26]
  refine eqFields_step (by decide) (a := .int .i64 c) (b := .int .i64 c') (by go_simp) (by go_simp) (by go_simp) ?_
  refine eqFields_step (by decide) (a := .int .i64 e) (b := .int .i64 e') (by go_simp) (by go_simp) (by go_simp) ?_
  refine eqFields_step (by decide) (a := .int .i64 n) (b := .int .i64 n') (by go_simp) (by go_simp) (by go_simp) eqFields_nil
/-- Whether two entries are the same. -/
def Ent.eqB (x y : Ent) : Bool :=
  x.kind == y.kind && ((x.cl == y.cl && (x.ep == y.ep && (x.n == y.n && true))) && (x.lsn == y.lsn && (x.prev == y.prev && (x.page == y.page && (x.slot == y.slot &&
    ((x.wu == y.wu && (x.wd.toList == y.wd.toList && true)) && ((x.iu == y.iu && (x.ix.toList == y.ix.toList && true)) && (x.next == y.next && true))))))))
theorem entEqIn (d : Nat) (x y : Ent) (w : World) : (Op.equalIn (d + 3) 64 x.val y.val).run Try.prog w = .ok (x.eqB y) w := by
  obtain ⟨k, c, e, n, l, p, pg, sl, wu, wd, iu, ix, nx⟩ := x
  obtain ⟨k', c', e', n', l', p', pg', sl', wu', wd', iu', ix', nx'⟩ := y
  simp only [Ent.val, Ent.row, Ent.eqB]
  rw [run_equalIn_agg w (d + 2) _ _ _ (by simp [Program.fieldsOf, Try.underlying64]) (by kernel_rfl)]
  simp only [Program.fieldsOf, Try.underlying64]
  refine eqFields_step (by decide) (a := .int .i64 k) (b := .int .i64 k') (by go_simp) (by go_simp) (by go_simp) ?_
  refine eqFields_step (by decide) (a := .agg #[.int .i64 c, .int .i64 e, .int .i64 n]) (b := .agg #[.int .i64 c', .int .i64 e', .int .i64 n']) (by go_simp) (by go_simp) (txnEqIn _ _ _ _ _ _ _ _) ?_
  refine eqFields_step (by decide) (a := .int .i64 l) (b := .int .i64 l') (by go_simp) (by go_simp) (by go_simp) ?_
  refine eqFields_step (by decide) (a := .int .i64 p) (b := .int .i64 p') (by go_simp) (by go_simp) (by go_simp) ?_
  refine eqFields_step (by decide) (a := .int .i64 pg) (b := .int .i64 pg') (by go_simp) (by go_simp) (by go_simp) ?_
  refine eqFields_step (by decide) (a := .int .i64 sl) (b := .int .i64 sl') (by go_simp) (by go_simp) (by go_simp) ?_
  refine eqFields_step (by decide) (a := .agg #[.bool wu, .string wd]) (b := .agg #[.bool wu', .string wd']) (by go_simp) (by go_simp) (slotEqIn _ _ _ _ _ _) ?_
  refine eqFields_step (by decide) (a := .agg #[.bool iu, .string ix]) (b := .agg #[.bool iu', .string ix']) (by go_simp) (by go_simp) (slotEqIn _ _ _ _ _ _) ?_
  refine eqFields_step (by decide) (a := .int .i64 nx) (b := .int .i64 nx') (by go_simp) (by go_simp) (by go_simp) eqFields_nil
end Go.Proofs.Ytakdagmkkelnfaa
