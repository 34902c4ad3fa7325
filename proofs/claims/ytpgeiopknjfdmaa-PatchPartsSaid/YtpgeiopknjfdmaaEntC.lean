/-
  The plain entry, and how results that lie in cells are read.
-/
import Derived.Test.YtpgeiopknjfdmaaEntB
import Derived.Laws.Rows
namespace Go.Proofs.Ytpgeiopknjfdmaa
open Go.RowKit Go.Sort

theorem entUnd : ∃ fs, Try.prog.underlying 30 = some (.struct fs) := ⟨_, Try.underlying30⟩
theorem slotUnd : ∃ fs, Try.prog.underlying 28 = some (.struct fs) := ⟨_, Try.underlying28⟩
theorem results_cell_two {P : Program} {fn : Func} {p u v : Tmp} {ty : TypeId} (h : fn.results = #[.cell p ty, .tmp u, .tmp v]) (tmps : Array Value) (w : World) (g : Nat) (t : TypeId) (cs : Array Value) (fr : Nat × Nat) (fs : Array Field)
    (hp : tmps.getD p undef = .pointer (some ⟨g, 0, none⟩)) (hg : w.heap[g]? = some (.cells cs t fr))
    (hu : P.underlying ty = some (.struct fs)) (hi : (P.info? ty).map (·.size) = some cs.size) :
    (results fn tmps).run P w = .ok (.tuple #[.agg cs, tmps.getD u undef, tmps.getD v undef]) w := by
  have hp' : tmps[p]?.getD undef = .pointer (some ⟨g, 0, none⟩) := by simpa using hp
  simp [results, h, hp', asAddr, run_loadVar_row w g t ty cs fr _ hg hu rfl hi]

/-- An entry with the fields alone that all kinds have. -/
def Ent.plain (x : Ent) : Ent := ⟨x.kind, x.cl, x.ep, x.n, x.lsn, x.prev, 0, 0, false, ⟨#[]⟩, false, ⟨#[]⟩, 0⟩
theorem plain_any (x : Ent) (w : World) :
    Calls Try.prog 35 #[x.val] w fun r w' => r = .returned x.plain.val ∧ Below w.heap.size w w' := by
  obtain ⟨fs, hu⟩ := entUnd
  obtain ⟨k, c, e, n, l, p, pg, sl, wu, wd, iu, ix, nx⟩ := x
  simp only [Ent.plain, Ent.val, Ent.row]
  go_enter Try.func35, Try.ntmps35
  go_wp2_with fail
  (try simp only [Exit.inBlock, Exit.then])
  refine bodyPost_ret (v := .agg #[.int .i64 k, .int .i64 c, .int .i64 e, .int .i64 n, .int .i64 l, .int .i64 p, .int .i64 0, .int .i64 0, .bool false, .string ⟨#[]⟩, .bool false, .string ⟨#[]⟩, .int .i64 0]) ?_ rfl ⟨rfl, ?_⟩
  case _ => exact results_cell_row rfl _ _ (w.heap.size + 1) _ _ _ _ rfl (Has.new1 _ _ _) hu rfl (by kernel_rfl)
  exact bup (bnew _ _) (bnew _ _)
end Go.Proofs.Ytpgeiopknjfdmaa
