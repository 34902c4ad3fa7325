/-
  Counts by way, in plain words; a call of layer 13's statements, opened.
-/
import Derived.Test.YtkdopflnaeejeaaMiPlain
import Derived.Test.YtkdopflnaeejeaaMiMem
namespace Go.Proofs.Ytkdopflnaeejeaa
open Go.RowKit Go.ChangeShapes Go.WideShapes Go.Deep Go.Joins
set_option linter.unusedVariables false
set_option linter.unusedSimpArgs false
structure MAct where
  kind : Int
  g : Gr
  at_ : Int
def MAct.val (x : MAct) : Value := .agg #[.int .i64 x.kind, .agg #[.int .i64 x.g.cl, .bool x.g.up, .int .i64 x.g.ep, .int .i64 x.g.sq, .int .i64 x.g.ak, .string x.g.bd], .int .i64 x.at_]
def MAct.row (x : MAct) : Array Value := #[.int .i64 x.kind, .int .i64 x.g.cl, .bool x.g.up, .int .i64 x.g.ep, .int .i64 x.g.sq, .int .i64 x.g.ak, .string x.g.bd, .int .i64 x.at_]
theorem MAct.row_size (x : MAct) : x.row.size = 8 := rfl
def MAct.dat {H : Type} (x : MAct) : DataW H := .agg [.lit (.int .i64 x.kind), x.g.dat, .lit (.int .i64 x.at_)]
def MAct.ok (x : MAct) : Prop := (Lit.int .i64 x.kind).wf = true ∧ x.g.ok ∧ (Lit.int .i64 x.at_).wf = true
section
variable {H : Type} {enc : TypeId × Value → H} {w : World} {base : Nat} {spare : Nat → Bool} {held : Bool}
theorem MAct_parts {P : Program} {t : TypeId} {f0 f1 f2 : Field} {fuel : Nat} {cs : List Value} {x : DataW H × List MemPlace} (ht : P.underlying t = some (.struct #[f0, f1, f2])) (hof : [f0, f1, f2].map (fun f => (f.offset, P.cellsOf f.type)) = [(0, 1), (1, 6), (7, 1)]) (hC : P.cellsOf t = 8) (h : DataW.trod enc P w base spare held fuel t cs = some x) :
    ∃ c0 c1 c2 c3 c4 c5 c6 c7 y0 y1 y2 n, cs = [c0, c1, c2, c3, c4, c5, c6, c7] ∧ x.1 = .agg [y0.1, y1.1, y2.1] ∧ DataW.trod enc P w base spare held n f0.type [c0] = some y0 ∧ DataW.trod enc P w base spare held n f1.type [c1, c2, c3, c4, c5, c6] = some y1 ∧ DataW.trod enc P w base spare held n f2.type [c7] = some y2 := by
  obtain ⟨xs, n, _, hx, hcl, hlen, hf⟩ := DataW.trod_struct ht h
  rw [hC] at hcl
  simp only [List.map_cons, List.map_nil, List.cons.injEq, Prod.mk.injEq, and_true] at hof
  obtain ⟨⟨o0, k0⟩, ⟨o1, k1⟩, ⟨o2, k2⟩⟩ := hof
  match cs, hcl with
  | [c0, c1, c2, c3, c4, c5, c6, c7], _ =>
    match xs, hlen with
    | [y0, y1, y2], _ =>
      have h0 := hf 0 f0 rfl
      rw [o0, k0] at h0
      simp only [List.drop_succ_cons, List.drop_zero, List.take_succ_cons, List.take_zero] at h0
      have h1 := hf 1 f1 rfl
      rw [o1, k1] at h1
      simp only [List.drop_succ_cons, List.drop_zero, List.take_succ_cons, List.take_zero] at h1
      have h2 := hf 2 f2 rfl
      rw [o2, k2] at h2
      simp only [List.drop_succ_cons, List.drop_zero, List.take_succ_cons, List.take_zero] at h2
      exact ⟨c0, c1, c2, c3, c4, c5, c6, c7, y0, y1, y2, n, rfl, by rw [hx]; rfl, h0, h1, h2⟩
theorem MAct_cells {fuel : Nat} {cs : List Value} {x : DataW H × List MemPlace} (h : DataW.trod enc Try.prog w base spare held fuel 44 cs = some x) (hw : ∀ n ∈ x.1.weights Try.prog 44, n ≤ reachBytes) : ∃ e : MAct, cs = e.row.toList ∧ x.1 = e.dat ∧ e.ok := by
  obtain ⟨c0, c1, c2, c3, c4, c5, c6, c7, y0, y1, y2, n, rfl, hx, h0, h1, h2⟩ := MAct_parts Try.underlying44 (by kernel_rfl) (by kernel_rfl) h
  rw [hx] at hw
  simp only [DataW.weights, Try.underlying44, DataW.weightsEach, List.map_cons, List.map_nil, List.toList_toArray, List.mem_append] at hw
  obtain ⟨a0, q0, e0, wf0⟩ := DataW.trod_int Try.underlying3 h0
  obtain ⟨a1, q1, e1, g1⟩ := Gr_cells h1 (fun m hm => hw m (.inr (.inl hm)))
  obtain ⟨a2, q2, e2, wf2⟩ := DataW.trod_int Try.underlying3 h2
  simp only [List.cons.injEq, and_true] at q0
  subst q0
  simp only [Gr.row, List.cons.injEq, and_true] at q1
  obtain ⟨rfl, rfl, rfl, rfl, rfl, rfl⟩ := q1
  simp only [List.cons.injEq, and_true] at q2
  subst q2
  refine ⟨⟨a0, a1, a2⟩, rfl, ?_, wf0, g1, wf2⟩
  rw [hx, e0, e1, e2]; rfl
end
theorem open_macts {H : Type} {enc : TypeId × Value → H} {w : World} {base : Nat} {spare : Nat → Bool} {held : Bool} {r : Reach} {b0 : Nat} {v : Value} {d : DataW H} {p : List MemPlace} (hv : Value.okWide Try.prog w r b0 40 v) (h : DataW.Trod enc Try.prog w base spare held 40 v d p) (hw : ∀ n ∈ d.weights Try.prog 40, n ≤ reachBytes) :
    ∃ A n c l, v = .slice A n c ∧ IsRow 8 MAct.row MAct.ok w A n c l :=
  open_rowArg Try.underlying40 (by kernel_rfl) MAct.row_size (by omega) (fun f cs y h hw => by obtain ⟨e, h1, _, h3⟩ := MAct_cells h hw; exact ⟨e, h1, h3⟩) hv h hw
/-- The cells of a call. -/
structure ActIn (w : World) (b o : Nat) (x : MAct) : Prop where
  k : w.cell? ⟨b, o, none⟩ = some (.int .i64 x.kind)
  g : GrIn w b (o + 1) x.g
  at_ : w.cell? ⟨b, o + 7, none⟩ = some (.int .i64 x.at_)
theorem ActIn.of {w : World} {b o : Nat} {x : MAct} (h : ∀ (j : Nat) v, x.row[j]? = some v → w.cell? ⟨b, o + j, none⟩ = some v) : ActIn w b o x :=
  ⟨h 0 _ rfl, ⟨h 1 _ rfl, h 2 _ rfl, h 3 _ rfl, h 4 _ rfl, h 5 _ rfl, h 6 _ rfl⟩, h 7 _ rfl⟩
theorem ActIn.below {w w' : World} {b o : Nat} {x : MAct} (h : ActIn w b o x) (hb : Below w.heap.size w w') : ActIn w' b o x :=
  have hlt : b < w.heap.size := block_lt_of_cell h.k
  ⟨(hb.cell (p := ⟨b, o, none⟩) hlt).trans h.k, h.g.below hlt hb, (hb.cell (p := ⟨b, o + 7, none⟩) hlt).trans h.at_⟩
theorem acts_at {w : World} {A : Option Addr} {n c : Nat} {l : List MAct} (h : IsRow 8 MAct.row MAct.ok w A n c l) {i : Nat} (hi : i < n) : ∃ b off x, A = some ⟨b, off, none⟩ ∧ l[i]? = some x ∧ x.ok ∧ ActIn w b (off + i * 8) x := by
  obtain ⟨b, off, x, e, _, hx, hok, hc⟩ := h.here hi
  exact ⟨b, off, x, e, hx, hok, ActIn.of hc⟩
/-- How many there are, by client and direction in one row. -/
def cI (L : List Gr) (i : Nat) : Int := if i < 2 then 0 else (cnt ((i / 2 : Nat) : Int) (i % 2 == 1) L : Int)
def wayN (u : Bool) : Nat := if u then 1 else 0
theorem cI_at (L : List Gr) (c : Nat) (u : Bool) (hc : 1 ≤ c) : cI L (c * 2 + wayN u) = (cnt (c : Int) u L : Int) := by
  have h1 : (c * 2 + wayN u) / 2 = c := by cases u <;> simp [wayN] <;> omega
  have h2 : ((c * 2 + wayN u) % 2 == 1) = u := by cases u <;> simp [wayN] <;> omega
  unfold cI
  rw [if_neg (by omega), h1, h2]
theorem cnt_split {c : Int} {u : Bool} {L : List Gr} {i : Nat} {x : Gr} (hx : L[i]? = some x) : cnt c u L = cnt c u (L.eraseIdx i) + (if onWay c u x then 1 else 0) := by
  have hi := (List.getElem?_eq_some_iff.1 hx).1
  have hxx := (List.getElem?_eq_some_iff.1 hx).2
  have e : L = L.take i ++ x :: L.drop (i + 1) := by
    conv => lhs; rw [← List.take_append_drop i L, List.drop_eq_getElem_cons hi, hxx]
  have e2 : L.eraseIdx i = L.take i ++ L.drop (i + 1) := List.eraseIdx_eq_take_drop_succ ..
  rw [e2]
  conv => lhs; rw [e]
  unfold cnt
  rw [List.filter_append, List.filter_append, List.filter_cons, List.length_append, List.length_append]
  by_cases h : onWay c u x = true
  · rw [if_pos h, if_pos h, List.length_cons]; omega
  · rw [if_neg h, if_neg h]; omega
theorem cnt_more (c : Int) (u : Bool) (L : List Gr) (x : Gr) : cnt c u (L ++ [x]) = cnt c u L + (if onWay c u x then 1 else 0) := by
  unfold cnt
  rw [List.filter_append, List.length_append, List.filter_cons]
  by_cases h : onWay c u x = true
  · rw [if_pos h, if_pos h]; rfl
  · rw [if_neg h, if_neg h]; rfl
theorem onWay_idx {x : Gr} {c : Nat} (hx : x.cl = (c : Int)) (hc : 1 ≤ c) (j : Nat) (hj : 2 ≤ j) : onWay ((j / 2 : Nat) : Int) (j % 2 == 1) x = decide (j = c * 2 + wayN x.up) := by
  unfold onWay
  rw [hx, Bool.eq_iff_iff, Bool.and_eq_true, beq_iff_eq, beq_iff_eq, decide_eq_true_iff]
  cases x.up <;> simp [wayN] <;> omega
theorem cI_more {L : List Gr} {x : Gr} {c : Nat} (hx : x.cl = (c : Int)) (hc : 1 ≤ c) (j : Nat) : cI (L ++ [x]) j = if j = c * 2 + wayN x.up then cI L j + 1 else cI L j := by
  unfold cI
  by_cases h2 : j < 2
  · rw [if_pos h2, if_pos h2, if_neg (by omega)]
  · rw [if_neg h2, if_neg h2, cnt_more, onWay_idx hx hc j (by omega)]
    by_cases h : j = c * 2 + wayN x.up
    · rw [if_pos h, if_pos (by simp [h])]; omega
    · rw [if_neg h, if_neg (by simp [h])]; omega
theorem cI_less {L : List Gr} {x : Gr} {i c : Nat} (hi : L[i]? = some x) (hx : x.cl = (c : Int)) (hc : 1 ≤ c) (j : Nat) : cI (L.eraseIdx i) j = if j = c * 2 + wayN x.up then cI L j - 1 else cI L j := by
  unfold cI
  by_cases h2 : j < 2
  · rw [if_pos h2, if_pos h2, if_neg (by omega)]
  · rw [if_neg h2, if_neg h2, cnt_split (c := ((j / 2 : Nat) : Int)) (u := (j % 2 == 1)) hi, onWay_idx hx hc j (by omega)]
    by_cases h : j = c * 2 + wayN x.up
    · rw [if_pos h, if_pos (by simp [h])]; omega
    · rw [if_neg h, if_neg (by simp [h])]; omega
/-- The block of the counts. -/
def cCells (f : Nat → Int) : Array Value := #[.int .i64 (f 0), .int .i64 (f 1), .int .i64 (f 2), .int .i64 (f 3), .int .i64 (f 4), .int .i64 (f 5), .int .i64 (f 6), .int .i64 (f 7)]
theorem cCells_at (f : Nat → Int) (j : Nat) (hj : j < 8) : (cCells f)[j]? = some (.int .i64 (f j)) := by
  match j, hj with
  | 0, _ => rfl
  | 1, _ => rfl
  | 2, _ => rfl
  | 3, _ => rfl
  | 4, _ => rfl
  | 5, _ => rfl
  | 6, _ => rfl
  | 7, _ => rfl
theorem cCells_set (f g : Nat → Int) (i : Nat) (hi : i < 8) (hg : ∀ j, j < 8 → g j = if j = i then g i else f j) : (cCells f).setIfInBounds i (.int .i64 (g i)) = cCells g := by
  apply Array.ext_getElem?
  intro j
  rw [Array.getElem?_setIfInBounds]
  by_cases h8 : j < 8
  · rw [cCells_at g j h8, hg j h8]
    by_cases h : i = j
    · subst h
      simp [show (cCells f).size = 8 from rfl, hi]
    · rw [if_neg h, if_neg (fun e => h e.symm), cCells_at f j h8]
  · rw [if_neg (by omega), Array.getElem?_eq_none (by show 8 ≤ j; omega), Array.getElem?_eq_none (by show 8 ≤ j; omega)]
theorem cI_nil : cI [] = fun _ => 0 := by
  funext i
  unfold cI cnt
  split <;> simp
/-- What is under way is of the clients 1 to 3, at most so much on a way. -/
def Inv3 (L : List Gr) : Prop := (∀ x ∈ L, 1 ≤ x.cl ∧ x.cl ≤ 3) ∧ ∀ c u, cnt c u L ≤ 64
theorem Inv3.nil : Inv3 [] := ⟨by simp, by simp [cnt]⟩
theorem Inv3.put {L : List Gr} {x : Gr} (h : Inv3 L) (hx : 1 ≤ x.cl ∧ x.cl ≤ 3) : ((putG L x).2 = 0 ∧ (putG L x).1 = L ++ [x] ∧ Inv3 (L ++ [x])) ∨ ((putG L x).2 ≠ 0 ∧ (putG L x).1 = L) := by
  unfold putG
  rw [if_neg (by omega)]
  by_cases h64 : 64 ≤ cnt x.cl x.up L
  · rw [if_pos h64]; exact .inr ⟨by simp, rfl⟩
  · rw [if_neg h64]
    refine .inl ⟨rfl, rfl, fun y hy => ?_, fun c u => ?_⟩
    · rcases List.mem_append.1 hy with h' | h'
      · exact h.1 y h'
      · simp at h'; subst h'; exact hx
    · rw [cnt_more]
      by_cases ho : onWay c u x = true
      · rw [if_pos ho]
        have : x.cl = c ∧ x.up = u := by simpa [onWay] using ho
        obtain ⟨rfl, rfl⟩ := this
        omega
      · rw [if_neg ho]
        have := h.2 c u
        omega
theorem Inv3.erase {L : List Gr} (h : Inv3 L) (i : Nat) : Inv3 (L.eraseIdx i) :=
  ⟨fun x hx => h.1 x (List.mem_of_mem_eraseIdx hx), fun c u => Nat.le_trans (((List.eraseIdx_sublist L i).filter _).length_le) (h.2 c u)⟩
/-- What a pick does, or that there is nothing to pick. -/
theorem pick_cases (L : List Gr) (c : Int) (u : Bool) (k : Int) : (∃ i x, L[i]? = some x ∧ x.cl = c ∧ x.up = u ∧ pickG L c u k = (L.eraseIdx i, x, true)) ∨ pickG L c u k = (L, Gr.none, false) := by
  by_cases hp : plc c u L k < 0
  · right
    unfold pickG pullG
    rw [if_neg (by omega)]
  · left
    obtain ⟨i, x, hi, hx, _, _, ho, _⟩ := plc_some (show 0 ≤ plc c u L k by omega)
    have ho' : x.cl = c ∧ x.up = u := by simpa [onWay] using ho
    refine ⟨i, x, hx, ho'.1, ho'.2, ?_⟩
    unfold pickG pullG
    rw [hi, if_pos (by omega), Int.toNat_natCast, hx]
theorem copy_cases (L : List Gr) (c : Int) (u : Bool) (k : Int) : (∃ x, x ∈ L ∧ x.cl = c ∧ x.up = u ∧ copyG L c u k = ((putG L x).1, (putG L x).2 == 0)) ∨ copyG L c u k = (L, false) := by
  by_cases hp : plc c u L k < 0
  · right
    unfold copyG
    rw [if_neg (by omega)]
  · left
    obtain ⟨i, x, hi, hx, _, _, ho, _⟩ := plc_some (show 0 ≤ plc c u L k by omega)
    have ho' : x.cl = c ∧ x.up = u := by simpa [onWay] using ho
    refine ⟨x, List.mem_of_getElem? hx, ho'.1, ho'.2, ?_⟩
    unfold copyG
    rw [hi, if_pos (by omega), Int.toNat_natCast, hx]
theorem eldest_cases (L : List Gr) : (∃ x r, L = x :: r ∧ pullG L 0 = (L.eraseIdx 0, x, true)) ∨ (L = [] ∧ pullG L 0 = ([], Gr.none, false)) := by
  cases L with
  | nil => exact .inr ⟨rfl, pull_none⟩
  | cons x r => exact .inl ⟨x, r, rfl, pull_first x r⟩
end Go.Proofs.Ytkdopflnaeejeaa
