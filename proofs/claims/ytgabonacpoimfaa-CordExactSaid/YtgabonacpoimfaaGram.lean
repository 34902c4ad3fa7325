/-
  Datagrams: as values, as cells, in rows; whether two are the same.
-/
import Derived.Test.YtgabonacpoimfaaRows2
import Derived.Test.YtgabonacpoimfaaGrow
import Derived.Laws.StructEq
import Derived.Laws.Rows
namespace Go.Proofs.Ytgabonacpoimfaa
open Go.RowKit Go.ChangeShapes Go.WideShapes Go.Deep Go.Joins
set_option linter.unusedVariables false
set_option linter.unusedSimpArgs false
structure Gr where
  cl : Int
  up : Bool
  ep : Int
  sq : Int
  ak : Int
  bd : ByteArray
def Gr.val (x : Gr) : Value := .agg #[.int .i64 x.cl, .bool x.up, .int .i64 x.ep, .int .i64 x.sq, .int .i64 x.ak, .string x.bd]
def Gr.row (x : Gr) : Array Value := #[.int .i64 x.cl, .bool x.up, .int .i64 x.ep, .int .i64 x.sq, .int .i64 x.ak, .string x.bd]
theorem Gr.row_size (x : Gr) : x.row.size = 6 := rfl
def Gr.dat {H : Type} (x : Gr) : DataW H := .agg [.lit (.int .i64 x.cl), .lit (.bool x.up), .lit (.int .i64 x.ep), .lit (.int .i64 x.sq), .lit (.int .i64 x.ak), .lit (.string x.bd.data.toList)]
def Gr.ok (x : Gr) : Prop := (Lit.int .i64 x.cl).wf = true ∧ (Lit.int .i64 x.ep).wf = true ∧ (Lit.int .i64 x.sq).wf = true ∧ (Lit.int .i64 x.ak).wf = true ∧ x.bd.size ≤ 140737488351232
section
variable {H : Type} {enc : TypeId × Value → H} {w : World} {base : Nat} {spare : Nat → Bool} {held : Bool}
theorem Gr_parts {P : Program} {t : TypeId} {f0 f1 f2 f3 f4 f5 : Field} {fuel : Nat} {cs : List Value} {x : DataW H × List MemPlace} (ht : P.underlying t = some (.struct #[f0, f1, f2, f3, f4, f5])) (hof : [f0, f1, f2, f3, f4, f5].map (fun f => (f.offset, P.cellsOf f.type)) = [(0, 1), (1, 1), (2, 1), (3, 1), (4, 1), (5, 1)]) (hC : P.cellsOf t = 6) (h : DataW.trod enc P w base spare held fuel t cs = some x) :
    ∃ c0 c1 c2 c3 c4 c5 y0 y1 y2 y3 y4 y5 n, cs = [c0, c1, c2, c3, c4, c5] ∧ x.1 = .agg [y0.1, y1.1, y2.1, y3.1, y4.1, y5.1] ∧ DataW.trod enc P w base spare held n f0.type [c0] = some y0 ∧ DataW.trod enc P w base spare held n f1.type [c1] = some y1 ∧ DataW.trod enc P w base spare held n f2.type [c2] = some y2 ∧ DataW.trod enc P w base spare held n f3.type [c3] = some y3 ∧ DataW.trod enc P w base spare held n f4.type [c4] = some y4 ∧ DataW.trod enc P w base spare held n f5.type [c5] = some y5 := by
  obtain ⟨xs, n, _, hx, hcl, hlen, hf⟩ := DataW.trod_struct ht h
  rw [hC] at hcl
  simp only [List.map_cons, List.map_nil, List.cons.injEq, Prod.mk.injEq, and_true] at hof
  obtain ⟨⟨o0, k0⟩, ⟨o1, k1⟩, ⟨o2, k2⟩, ⟨o3, k3⟩, ⟨o4, k4⟩, ⟨o5, k5⟩⟩ := hof
  match cs, hcl with
  | [c0, c1, c2, c3, c4, c5], _ =>
    match xs, hlen with
    | [y0, y1, y2, y3, y4, y5], _ =>
      have h0 := hf 0 f0 rfl
      rw [o0, k0] at h0
      simp only [List.drop_succ_cons, List.drop_zero, List.take_succ_cons, List.take_zero] at h0
      have h1 := hf 1 f1 rfl
      rw [o1, k1] at h1
      simp only [List.drop_succ_cons, List.drop_zero, List.take_succ_cons, List.take_zero] at h1
      have h2 := hf 2 f2 rfl
      rw [o2, k2] at h2
      simp only [List.drop_succ_cons, List.drop_zero, List.take_succ_cons, List.take_zero] at h2
      have h3 := hf 3 f3 rfl
      rw [o3, k3] at h3
      simp only [List.drop_succ_cons, List.drop_zero, List.take_succ_cons, List.take_zero] at h3
      have h4 := hf 4 f4 rfl
      rw [o4, k4] at h4
      simp only [List.drop_succ_cons, List.drop_zero, List.take_succ_cons, List.take_zero] at h4
      have h5 := hf 5 f5 rfl
      rw [o5, k5] at h5
      simp only [List.drop_succ_cons, List.drop_zero, List.take_succ_cons, List.take_zero] at h5
      exact ⟨c0, c1, c2, c3, c4, c5, y0, y1, y2, y3, y4, y5, n, rfl, by rw [hx]; rfl, h0, h1, h2, h3, h4, h5⟩
theorem Gr_cells {fuel : Nat} {cs : List Value} {x : DataW H × List MemPlace} (h : DataW.trod enc Try.prog w base spare held fuel 29 cs = some x) (hw : ∀ n ∈ x.1.weights Try.prog 29, n ≤ reachBytes) : ∃ e : Gr, cs = e.row.toList ∧ x.1 = e.dat ∧ e.ok := by
  obtain ⟨c0, c1, c2, c3, c4, c5, y0, y1, y2, y3, y4, y5, n, rfl, hx, h0, h1, h2, h3, h4, h5⟩ := Gr_parts Try.underlying29 (by kernel_rfl) (by kernel_rfl) h
  rw [hx] at hw
  simp only [DataW.weights, Try.underlying29, DataW.weightsEach, List.map_cons, List.map_nil, List.toList_toArray, List.mem_append] at hw
  obtain ⟨a0, q0, e0, wf0⟩ := DataW.trod_int Try.underlying3 h0
  obtain ⟨a1, q1, e1⟩ := DataW.trod_bool Try.underlying4 h1
  obtain ⟨a2, q2, e2, wf2⟩ := DataW.trod_int Try.underlying3 h2
  obtain ⟨a3, q3, e3, wf3⟩ := DataW.trod_int Try.underlying3 h3
  obtain ⟨a4, q4, e4, wf4⟩ := DataW.trod_int Try.underlying3 h4
  obtain ⟨a5, q5, e5, _⟩ := DataW.trod_string Try.underlying9 h5
  simp only [List.cons.injEq, and_true] at q0
  subst q0
  simp only [List.cons.injEq, and_true] at q1
  subst q1
  simp only [List.cons.injEq, and_true] at q2
  subst q2
  simp only [List.cons.injEq, and_true] at q3
  subst q3
  simp only [List.cons.injEq, and_true] at q4
  subst q4
  simp only [List.cons.injEq, and_true] at q5
  subst q5
  have g5 : a5.size ≤ 140737488351232 := by
    have := hw a5.data.toList.length (.inr (.inr (.inr (.inr (.inr (.inl (by rw [e5]; simp [DataW.weights])))))))
    have e1 : a5.data.toList.length = a5.size := Array.length_toList
    unfold reachBytes at this
    omega
  refine ⟨⟨a0, a1, a2, a3, a4, a5⟩, rfl, ?_, wf0, wf2, wf3, wf4, g5⟩
  rw [hx, e0, e1, e2, e3, e4, e5]; rfl
end
def Gr.none : Gr := ⟨0, false, 0, 0, 0, ⟨#[]⟩⟩
theorem gr_eqFields_step {P : Program} {w : World} {d : Nat} {xs ys : Array Value} {f : Field} {fs : List Field} {a b : Value} {r s : Bool} (hn : f.name ≠ "_") (ha : (part f.type xs f.offset).run P w = .ok a w) (hb : (part f.type ys f.offset).run P w = .ok b w)
    (hr : (Op.equalIn d f.type a b).run P w = .ok r w) (hs : (Op.eqFields d xs ys fs).run P w = .ok s w) : (Op.eqFields d xs ys (f :: fs)).run P w = .ok (r && s) w := by
  simp only [Op.eqFields, hn, ne_eq, not_false_eq_true, if_true, Sem.run_bind, ha, hb, hr, Result.andThen_ok]
  cases r <;> simp [hs]
theorem gr_eqFields_nil {P : Program} {w : World} {d : Nat} {xs ys : Array Value} : (Op.eqFields d xs ys []).run P w = .ok true w := by simp [Op.eqFields]
/-- Whether two datagrams are the same. -/
def grEq (x y : Gr) : Bool := x.cl == y.cl && (x.up == y.up && (x.ep == y.ep && (x.sq == y.sq && (x.ak == y.ak && (x.bd.toList == y.bd.toList && true)))))
theorem grEqIn (d : Nat) (x y : Gr) (w : World) : (Op.equalIn (d + 2) 29 x.val y.val).run Try.prog w = .ok (grEq x y) w := by
  obtain ⟨c, u, e, s, k, b⟩ := x
  obtain ⟨c', u', e', s', k', b'⟩ := y
  simp only [Gr.val, grEq]
  rw [run_equalIn_agg w (d + 1) _ _ _ (by simp [Program.fieldsOf, Try.underlying29]) (by kernel_rfl)]
  simp only [Program.fieldsOf, Try.underlying29]
  refine gr_eqFields_step (by decide) (a := .int .i64 c) (b := .int .i64 c') (by go_simp) (by go_simp) (by go_simp) ?_
  refine gr_eqFields_step (by decide) (a := .bool u) (b := .bool u') (by go_simp) (by go_simp) (by go_simp) ?_
  refine gr_eqFields_step (by decide) (a := .int .i64 e) (b := .int .i64 e') (by go_simp) (by go_simp) (by go_simp) ?_
  refine gr_eqFields_step (by decide) (a := .int .i64 s) (b := .int .i64 s') (by go_simp) (by go_simp) (by go_simp) ?_
  refine gr_eqFields_step (by decide) (a := .int .i64 k) (b := .int .i64 k') (by go_simp) (by go_simp) (by go_simp) ?_
  refine gr_eqFields_step (by decide) (a := .string b) (b := .string b') (by go_simp) (by go_simp) (by go_simp) gr_eqFields_nil
theorem grNeqBin (x y : Gr) (w : World) : (binOp .neq 29 x.val y.val).run Try.prog w = .ok (.bool (!grEq x y)) w := by
  show (binOp .neq 29 (.agg _) (.agg _)).run _ w = _
  rw [run_neq_struct]
  show (Sem.run Try.prog (Op.equalIn (9998 + 2) 29 x.val y.val) w).andThen _ = _
  rw [grEqIn 9998 x y w]
  rfl
theorem grEqlBin (x y : Gr) (w : World) : (binOp .eql 29 x.val y.val).run Try.prog w = .ok (.bool (grEq x y)) w := by
  show (binOp .eql 29 (.agg _) (.agg _)).run _ w = _
  rw [run_eql_struct]
  show (Sem.run Try.prog (Op.equalIn (9998 + 2) 29 x.val y.val) w).andThen _ = _
  rw [grEqIn 9998 x y w]
  rfl
theorem gr_bytes (a b : ByteArray) : (a.toList == b.toList) = true ↔ a = b := by
  rw [ByteArray.toList_eq, ByteArray.toList_eq, beq_iff_eq]
  constructor
  · intro h; apply ByteArray.ext; apply Array.ext'; exact h
  · rintro rfl; rfl
theorem grEq_iff (x y : Gr) : grEq x y = true ↔ x = y := by
  obtain ⟨c, u, e, s, k, b⟩ := x
  obtain ⟨c', u', e', s', k', b'⟩ := y
  unfold grEq
  rw [Bool.and_true, Bool.and_eq_true, Bool.and_eq_true, Bool.and_eq_true, Bool.and_eq_true, Bool.and_eq_true, gr_bytes]
  simp only [beq_iff_eq, Gr.mk.injEq]
theorem grEq_self (x : Gr) : grEq x x = true := (grEq_iff x x).2 rfl
/-- The cells of datagrams. -/
def flatG (l : List Gr) : List Value := l.flatMap fun x => x.row.toList
theorem flatG_append (a b : List Gr) : flatG (a ++ b) = flatG a ++ flatG b := by simp [flatG]
theorem flatG_len (l : List Gr) : (flatG l).length = l.length * 6 := by
  induction l with
  | nil => rfl
  | cons a l ih =>
    show (a.row.toList ++ flatG l).length = _
    rw [List.length_append, show a.row.toList.length = 6 from rfl, ih, List.length_cons]; omega
theorem flatG_get : ∀ (l : List Gr) (i : Nat) (x : Gr), l[i]? = some x → ∀ (j : Nat) v, x.row[j]? = some v → (flatG l)[i * 6 + j]? = some v
  | [], i, x, h => by simp at h
  | a :: l, 0, x, h => by
    intro j v hv
    simp at h
    subst h
    have hj : j < 6 := (Array.getElem?_eq_some_iff.1 hv).1
    show (a.row.toList ++ flatG l)[0 * 6 + j]? = _
    rw [List.getElem?_append_left (by show _ < 6; omega), show 0 * 6 + j = j by omega]
    simpa using hv
  | a :: l, i + 1, x, h => by
    intro j v hv
    have h2 := flatG_get l i x (by simpa using h) j v hv
    show (a.row.toList ++ flatG l)[(i + 1) * 6 + j]? = _
    rw [List.getElem?_append_right (by show 6 ≤ _; omega), show a.row.toList.length = 6 from rfl, show (i + 1) * 6 + j - 6 = i * 6 + j by omega]
    exact h2
theorem flatG_one (l : List Gr) : ∀ v ∈ flatG l, v.oneCell' = true := by
  intro v hv
  obtain ⟨x, _, hx⟩ := List.mem_flatMap.1 hv
  obtain ⟨c, u, e, s, k, b⟩ := x
  simp [Gr.row] at hx
  rcases hx with rfl | rfl | rfl | rfl | rfl | rfl <;> rfl
theorem flatG_take (l : List Gr) (k : Nat) : flatG (l.take k) = (flatG l).take (k * 6) := by
  induction l generalizing k with
  | nil => simp [flatG]
  | cons a l ih =>
    cases k with
    | zero => simp [flatG]
    | succ k =>
      rw [List.take_succ_cons]
      show a.row.toList ++ flatG (l.take k) = (a.row.toList ++ flatG l).take _
      rw [ih k, List.take_append, show a.row.toList.length = 6 from rfl, show (k + 1) * 6 - 6 = k * 6 by omega, List.take_of_length_le (i := (k + 1) * 6) (l := a.row.toList) (by show 6 ≤ _; omega)]
theorem flatG_drop (l : List Gr) (k : Nat) : flatG (l.drop k) = (flatG l).drop (k * 6) := by
  induction l generalizing k with
  | nil => simp [flatG]
  | cons a l ih =>
    cases k with
    | zero => simp [flatG]
    | succ k =>
      rw [List.drop_succ_cons]
      show flatG (l.drop k) = (a.row.toList ++ flatG l).drop _
      rw [ih k, List.drop_append, show a.row.toList.length = 6 from rfl, show (k + 1) * 6 - 6 = k * 6 by omega, List.drop_of_length_le (i := (k + 1) * 6) (l := a.row.toList) (by show 6 ≤ _; omega), List.nil_append]
theorem gramElem : Elem Try.prog 38 29 6 56 Gr.none.val := ⟨Try.underlying38, by kernel_rfl, rfl, by omega⟩
/-- The cells of a datagram from a place on. -/
structure GrIn (w : World) (b o : Nat) (x : Gr) : Prop where
  a0 : w.cell? ⟨b, o, none⟩ = some (.int .i64 x.cl)
  a1 : w.cell? ⟨b, o + 1, none⟩ = some (.bool x.up)
  a2 : w.cell? ⟨b, o + 2, none⟩ = some (.int .i64 x.ep)
  a3 : w.cell? ⟨b, o + 3, none⟩ = some (.int .i64 x.sq)
  a4 : w.cell? ⟨b, o + 4, none⟩ = some (.int .i64 x.ak)
  a5 : w.cell? ⟨b, o + 5, none⟩ = some (.string x.bd)
theorem GrIn.of {w : World} {b o : Nat} {x : Gr} (h : ∀ (j : Nat) v, x.row[j]? = some v → w.cell? ⟨b, o + j, none⟩ = some v) : GrIn w b o x :=
  ⟨h 0 _ rfl, h 1 _ rfl, h 2 _ rfl, h 3 _ rfl, h 4 _ rfl, h 5 _ rfl⟩
theorem GrIn.cells {w : World} {b o : Nat} {x : Gr} (h : GrIn w b o x) : ∀ (j : Nat) v, x.row[j]? = some v → w.cell? ⟨b, o + j, none⟩ = some v := by
  intro j v hv
  match j with
  | 0 => simp [Gr.row] at hv; subst hv; exact h.a0
  | 1 => simp [Gr.row] at hv; subst hv; exact h.a1
  | 2 => simp [Gr.row] at hv; subst hv; exact h.a2
  | 3 => simp [Gr.row] at hv; subst hv; exact h.a3
  | 4 => simp [Gr.row] at hv; subst hv; exact h.a4
  | 5 => simp [Gr.row] at hv; subst hv; exact h.a5
  | j + 6 => simp [Gr.row] at hv
theorem GrIn.below {w w' : World} {b o : Nat} {x : Gr} (h : GrIn w b o x) (hlt : b < w.heap.size) (hb : Below w.heap.size w w') : GrIn w' b o x := by
  have g : ∀ i, w'.cell? ⟨b, i, none⟩ = w.cell? ⟨b, i, none⟩ := fun i => hb.cell (p := ⟨b, i, none⟩) hlt
  exact ⟨(g _).trans h.a0, (g _).trans h.a1, (g _).trans h.a2, (g _).trans h.a3, (g _).trans h.a4, (g _).trans h.a5⟩
theorem GrIn.lt {w : World} {b o : Nat} {x : Gr} (h : GrIn w b o x) : b < w.heap.size := block_lt_of_cell h.a0
/-- A block that holds one datagram. -/
theorem GrIn.has {w : World} {b : Nat} {x : Gr} {t : TypeId} {fr : Nat × Nat} (h : Has w b (.cells x.row t fr)) : GrIn w b 0 x :=
  ⟨h.cell 0 _ rfl, h.cell 1 _ rfl, h.cell 2 _ rfl, h.cell 3 _ rfl, h.cell 4 _ rfl, h.cell 5 _ rfl⟩
/-- A row of datagrams that the call (or what it holds) owns. -/
def RowG (base : Nat) (w : World) (v : Value) (q : List Gr) : Prop := w.ownsRow base 29 6 v q.length (flatG q)
theorem RowG.at {base : Nat} {w : World} {g n cap : Nat} {q : List Gr} (h : RowG base w (.slice (some ⟨g, 0, none⟩) n cap) q) (hn : n = q.length) {i : Nat} {x : Gr} (hx : q[i]? = some x) : GrIn w g (i * 6) x := by
  subst hn
  have hi : i < q.length := (List.getElem?_eq_some_iff.1 hx).1
  refine GrIn.of (fun j v hv => ?_)
  have hj : j < 6 := (Array.getElem?_eq_some_iff.1 hv).1
  rw [World.ownsRow.cellAt h (i * 6 + j) (by omega)]
  exact flatG_get q i x hx j v hv
theorem RowG.form {base : Nat} {w : World} {v : Value} {q : List Gr} (h : RowG base w v q) : ∃ A cap, v = .slice A q.length cap ∧ q.length ≤ cap ∧ cap ≤ 9223372036854775807 := ownsRow_form h
theorem RowG.empty (base : Nat) (w : World) (hb : base ≤ w.heap.size) : RowG base (w.alloc (.cells #[] 29)) (.slice (some ⟨w.heap.size, 0, none⟩) 0 0) [] :=
  World.ownsRow_lit (base := base) (e := 29) (size := 6) w #[] 0 hb (by unfold maxLen; omega) rfl
theorem gramUnd : ∃ fs, Try.prog.underlying 29 = some (.struct fs) := ⟨_, Try.underlying29⟩
/-- A struct that lies in a cell and a plain value come out. -/
theorem gr_results {P : Program} {fn : Func} {p u : Tmp} {ty : TypeId} (h : fn.results = #[.cell p ty, .tmp u]) (tmps : Array Value) (w : World) (g : Nat) (t : TypeId) (cs : Array Value) (fr : Nat × Nat) (fs : Array Field)
    (hp : tmps.getD p undef = .pointer (some ⟨g, 0, none⟩)) (hg : w.heap[g]? = some (.cells cs t fr))
    (hu : P.underlying ty = some (.struct fs)) (hi : (P.info? ty).map (·.size) = some cs.size) :
    (results fn tmps).run P w = .ok (.tuple #[.agg cs, tmps.getD u undef]) w := by
  have hp' : tmps[p]?.getD undef = .pointer (some ⟨g, 0, none⟩) := by simpa using hp
  simp [results, h, hp', asAddr, run_loadVar_row w g t ty cs fr _ hg hu rfl hi]
theorem open_grams {H : Type} {enc : TypeId × Value → H} {w : World} {base : Nat} {spare : Nat → Bool} {held : Bool} {r : Reach} {b0 : Nat} {v : Value} {d : DataW H} {p : List MemPlace} (hv : Value.okWide Try.prog w r b0 38 v) (h : DataW.Trod enc Try.prog w base spare held 38 v d p) (hw : ∀ n ∈ d.weights Try.prog 38, n ≤ reachBytes) :
    ∃ A n c l, v = .slice A n c ∧ IsRow 6 Gr.row Gr.ok w A n c l :=
  open_rowArg Try.underlying38 (by kernel_rfl) Gr.row_size (by omega) (fun f cs y h hw => by obtain ⟨e, h1, _, h3⟩ := Gr_cells h hw; exact ⟨e, h1, h3⟩) hv h hw
end Go.Proofs.Ytgabonacpoimfaa
