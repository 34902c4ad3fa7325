/-
  Two entries, two slots: when the machine says that they are the same.
-/
import Derived.Test.YtpgeiopknjfdmaaEntC
import Derived.Laws.StructEq
namespace Go.Proofs.Ytpgeiopknjfdmaa
open Go.RowKit Go.Sort

theorem eqFields_step {P : Program} {w : World} {d : Nat} {xs ys : Array Value} {f : Field} {fs : List Field} {a b : Value} {r s : Bool} (hn : f.name ≠ "_") (ha : (part f.type xs f.offset).run P w = .ok a w) (hb : (part f.type ys f.offset).run P w = .ok b w)
    (hr : (Op.equalIn d f.type a b).run P w = .ok r w) (hs : (Op.eqFields d xs ys fs).run P w = .ok s w) : (Op.eqFields d xs ys (f :: fs)).run P w = .ok (r && s) w := by
  simp only [Op.eqFields, hn, ne_eq, not_false_eq_true, if_true, Sem.run_bind, ha, hb, hr, Result.andThen_ok]
  cases r <;> simp [hs]
theorem eqFields_nil {P : Program} {w : World} {d : Nat} {xs ys : Array Value} : (Op.eqFields d xs ys []).run P w = .ok true w := by simp [Op.eqFields]

theorem slotEqIn (d : Nat) (u v : Bool) (a b : ByteArray) (w : World) : (Op.equalIn (d + 2) 28 (.agg #[.bool u, .string a]) (.agg #[.bool v, .string b])).run Try.prog w = .ok (u == v && (a.toList == b.toList && true)) w := by
  rw [run_equalIn_agg w (d + 1) _ _ _ (by simp [Program.fieldsOf, Try.underlying28]) (by kernel_rfl)]
  simp only [Program.fieldsOf, Try.underlying28]
  refine eqFields_step (by decide) (a := .bool u) (b := .bool v) (by go_simp) (by go_simp) (by go_simp) ?_
  refine eqFields_step (by decide) (a := .string a) (b := .string b) (by go_simp) (by go_simp) (by go_simp) eqFields_nil
theorem txnEqIn (d : Nat) (c c' e e' n n' : Int) (w : World) : (Op.equalIn (d + 2) 26 (.agg #[.int .i64 c, .int .i64 e, .int .i64 n]) (.agg #[.int .i64 c', .int .i64 e', .int .i64 n'])).run Try.prog w = .ok (c == c' && (e == e' && (n == n' && true))) w := by
  rw [run_equalIn_agg w (d + 1) _ _ _ (by simp [Program.fieldsOf, Try.underlying26]) (by kernel_rfl)]
  simp only [Program.fieldsOf, Try.underlying26]
  refine eqFields_step (by decide) (a := .int .i64 c) (b := .int .i64 c') (by go_simp) (by go_simp) (by go_simp) ?_
  refine eqFields_step (by decide) (a := .int .i64 e) (b := .int .i64 e') (by go_simp) (by go_simp) (by go_simp) ?_
  refine eqFields_step (by decide) (a := .int .i64 n) (b := .int .i64 n') (by go_simp) (by go_simp) (by go_simp) eqFields_nil
/-- Whether two entries are the same. -/
def Ent.eqB (x y : Ent) : Bool :=
  x.kind == y.kind && ((x.cl == y.cl && (x.ep == y.ep && (x.n == y.n && true))) && (x.lsn == y.lsn && (x.prev == y.prev && (x.page == y.page && (x.slot == y.slot &&
    ((x.wu == y.wu && (x.wd.toList == y.wd.toList && true)) && ((x.iu == y.iu && (x.ix.toList == y.ix.toList && true)) && (x.next == y.next && true))))))))
theorem entEqIn (d : Nat) (x y : Ent) (w : World) : (Op.equalIn (d + 3) 30 x.val y.val).run Try.prog w = .ok (x.eqB y) w := by
  obtain ⟨k, c, e, n, l, p, pg, sl, wu, wd, iu, ix, nx⟩ := x
  obtain ⟨k', c', e', n', l', p', pg', sl', wu', wd', iu', ix', nx'⟩ := y
  simp only [Ent.val, Ent.row, Ent.eqB]
  rw [run_equalIn_agg w (d + 2) _ _ _ (by simp [Program.fieldsOf, Try.underlying30]) (by kernel_rfl)]
  simp only [Program.fieldsOf, Try.underlying30]
  refine eqFields_step (by decide) (a := .int .i64 k) (b := .int .i64 k') (by go_simp) (by go_simp) (by go_simp) ?_
  refine eqFields_step (by decide) (a := .agg #[.int .i64 c, .int .i64 e, .int .i64 n]) (b := .agg #[.int .i64 c', .int .i64 e', .int .i64 n']) (by go_simp) (by go_simp) (txnEqIn _ _ _ _ _ _ _ _) ?_
  refine eqFields_step (by decide) (a := .int .i64 l) (b := .int .i64 l') (by go_simp) (by go_simp) (by go_simp) ?_
  refine eqFields_step (by decide) (a := .int .i64 p) (b := .int .i64 p') (by go_simp) (by go_simp) (by go_simp) ?_
  refine eqFields_step (by decide) (a := .int .i64 pg) (b := .int .i64 pg') (by go_simp) (by go_simp) (by go_simp) ?_
  refine eqFields_step (by decide) (a := .int .i64 sl) (b := .int .i64 sl') (by go_simp) (by go_simp) (by go_simp) ?_
  refine eqFields_step (by decide) (a := .agg #[.bool wu, .string wd]) (b := .agg #[.bool wu', .string wd']) (by go_simp) (by go_simp) (slotEqIn _ _ _ _ _ _) ?_
  refine eqFields_step (by decide) (a := .agg #[.bool iu, .string ix]) (b := .agg #[.bool iu', .string ix']) (by go_simp) (by go_simp) (slotEqIn _ _ _ _ _ _) ?_
  refine eqFields_step (by decide) (a := .int .i64 nx) (b := .int .i64 nx') (by go_simp) (by go_simp) (by go_simp) eqFields_nil
end Go.Proofs.Ytpgeiopknjfdmaa
