/-
  What comes of a put, in plain words; rows of slots in memory.
-/
import Derived.Test.YtklmoigpalhlmaaSlD
import Derived.Laws.MakeOwn
import Derived.Deep.Cut
namespace Go.Proofs.Ytklmoigpalhlmaa
open Go.RowKit
set_option linter.unusedVariables false

/-- Without the slots at the end that have nothing. -/
def slTrim (l : List Sl) : List Sl := (l.reverse.dropWhile Sl.free).reverse
theorem slTrim_nil : slTrim [] = [] := rfl
theorem slTrim_free (l : List Sl) (x : Sl) (h : x.u = false) : slTrim (l ++ [x]) = slTrim l := by simp [slTrim, Sl.free, h]
theorem slTrim_used (l : List Sl) (x : Sl) (h : x.u = true) : slTrim (l ++ [x]) = l ++ [x] := by simp [slTrim, Sl.free, h]
theorem slTrim_take_free {l : List Sl} {m : Nat} {x : Sl} (hx : l[m]? = some x) (h : x.u = false) : slTrim (l.take (m + 1)) = slTrim (l.take m) := by
  rw [List.take_add_one, hx]; exact slTrim_free _ _ h
theorem slTrim_take_used {l : List Sl} {m : Nat} {x : Sl} (hx : l[m]? = some x) (h : x.u = true) : slTrim (l.take (m + 1)) = l.take (m + 1) := by
  rw [List.take_add_one, hx]; exact slTrim_used _ _ h
theorem slTrim_le (l : List Sl) : (slTrim l).length ≤ l.length := by
  unfold slTrim
  rw [List.length_reverse]
  have h := (List.dropWhile_sublist (p := Sl.free) (l := l.reverse)).length_le
  simpa using h
theorem slTrim_sub (l : List Sl) : ∀ x ∈ slTrim l, x ∈ l := by
  intro x hx
  have h := (List.dropWhile_sublist (p := Sl.free) (l := l.reverse)).subset (by simpa [slTrim] using hx)
  simpa using h
/-- As many slots as a place asks, those behind the last one empty. -/
def slPad (l : List Sl) (m : Nat) : List Sl := l ++ List.replicate (m - l.length) Sl.none
theorem slPad_len (l : List Sl) (m : Nat) : (slPad l m).length = max l.length m := by simp [slPad]; omega
def putL (l : List Sl) (k : Nat) (x : Sl) : List Sl := slTrim ((slPad l (k + 1)).set k x)
theorem putL_sizes {l : List Sl} (h : ∀ x ∈ l, x.d.size ≤ 200) (k : Nat) {x : Sl} (hx : x.d.size ≤ 200) : ∀ y ∈ (slPad l (k + 1)).set k x, y.d.size ≤ 200 := by
  intro y hy
  rcases List.mem_or_eq_of_mem_set hy with h1 | h1
  · unfold slPad at h1
    rcases List.mem_append.1 h1 with h2 | h2
    · exact h y h2
    · rw [List.eq_of_mem_replicate h2]; exact Nat.zero_le _
  · rw [h1]; exact hx
/-- Whether what is to be put can be there. -/
def putBad (lsn : Int) (l : List Sl) (k : Int) (x : Sl) : Bool := !(slGood lsn l) || (decide (k < 0) || (decide (32 ≤ k) || (!x.u && !x.d.toList.isEmpty)))
/-- What comes of a put: the number, the slots, the error. -/
def putRes (lsn : Int) (l : List Sl) (k : Int) (x : Sl) : Int × List Sl × Int :=
  if putBad lsn l k x = true then (0, [], 1)
  else if 200 < x.d.size then (0, [], 5)
  else if 240 < slSize (putL l k.toNat x) then (0, [], 22)
  else (lsn, putL l k.toNat x, 0)
/-- An image and an error come out. -/
def PageOut (R : Int × List Sl × Int) (w : World) (e : Ending) (w' : World) : Prop :=
  ∃ A n c, e = .returned (.tuple #[.agg #[.int .i64 R.1, .slice A n c], .int .i64 R.2.2]) ∧ IsSlots w' A n c R.2.1 ∧ Below w.heap.size w w'
theorem results_cell_one {P : Program} {fn : Func} {p u : Tmp} {ty : TypeId} (h : fn.results = #[.cell p ty, .tmp u]) (tmps : Array Value) (w : World) (g : Nat) (t : TypeId) (cs : Array Value) (fr : Nat × Nat) (fs : Array Field)
    (hp : tmps.getD p undef = .pointer (some ⟨g, 0, none⟩)) (hg : w.heap[g]? = some (.cells cs t fr))
    (hu : P.underlying ty = some (.struct fs)) (hi : (P.info? ty).map (·.size) = some cs.size) :
    (results fn tmps).run P w = .ok (.tuple #[.agg cs, tmps.getD u undef]) w := by
  have hp' : tmps[p]?.getD undef = .pointer (some ⟨g, 0, none⟩) := by simpa using hp
  simp [results, h, hp', asAddr, run_loadVar_row w g t ty cs fr _ hg hu rfl hi]
/-- The cells of slots. -/
def flat (l : List Sl) : List Value := l.flatMap fun x => [.bool x.u, .string x.d]
theorem flat_len (l : List Sl) : (flat l).length = l.length * 2 := by
  induction l with
  | nil => rfl
  | cons a l ih =>
    have e : flat (a :: l) = .bool a.u :: .string a.d :: flat l := rfl
    rw [e]; simp [ih]; omega
theorem flat_get (l : List Sl) (i : Nat) (x : Sl) (h : l[i]? = some x) : (flat l)[i * 2]? = some (.bool x.u) ∧ (flat l)[i * 2 + 1]? = some (.string x.d) := by
  induction l generalizing i with
  | nil => simp at h
  | cons a l ih =>
    have e : flat (a :: l) = .bool a.u :: .string a.d :: flat l := rfl
    cases i with
    | zero =>
      have hx : a = x := by simpa using h
      subst hx
      exact ⟨rfl, rfl⟩
    | succ i =>
      have h2 := ih i (by simpa using h)
      rw [e, show (i + 1) * 2 = i * 2 + 1 + 1 by omega]
      exact ⟨by simpa using h2.1, by simpa using h2.2⟩
theorem flat_append (l m : List Sl) : flat (l ++ m) = flat l ++ flat m := by simp [flat]
theorem flat_take (l : List Sl) (k : Nat) : flat (l.take k) = (flat l).take (k * 2) := by
  induction l generalizing k with
  | nil => simp [flat]
  | cons a l ih =>
    cases k with
    | zero => simp [flat]
    | succ k =>
      have e : flat (a :: l) = .bool a.u :: .string a.d :: flat l := rfl
      rw [List.take_succ_cons, show flat (a :: l.take k) = .bool a.u :: .string a.d :: flat (l.take k) from rfl, e, show (k + 1) * 2 = k * 2 + 1 + 1 by omega, ih]
      rfl
theorem flat_set (l : List Sl) (k : Nat) (x : Sl) : ((flat l).set (k * 2) (.bool x.u)).set (k * 2 + 1) (.string x.d) = flat (l.set k x) := by
  induction l generalizing k with
  | nil => rfl
  | cons a l ih =>
    have e : flat (a :: l) = .bool a.u :: .string a.d :: flat l := rfl
    cases k with
    | zero => rfl
    | succ k =>
      rw [List.set_cons_succ, show flat (a :: l.set k x) = .bool a.u :: .string a.d :: flat (l.set k x) from rfl, e, show (k + 1) * 2 = k * 2 + 1 + 1 by omega, ← ih]
      rfl
theorem flat_one (l : List Sl) : ∀ v ∈ flat l, v.oneCell' = true := by
  intro v hv
  unfold flat at hv
  rw [List.mem_flatMap] at hv
  obtain ⟨x, _, hx⟩ := hv
  simp at hx
  rcases hx with rfl | rfl <;> rfl
theorem flat_made (m : Nat) : (madeCells #[.bool false, .string ⟨#[]⟩] (m * 2)).toList = flat (List.replicate m Sl.none) := by
  apply List.ext_getElem?
  intro i
  by_cases hi : i < m * 2
  · have h1 : (flat (List.replicate m Sl.none))[i]? = some (if i % 2 = 0 then .bool false else .string ⟨#[]⟩) := by
      have hx : (List.replicate m Sl.none)[i / 2]? = some Sl.none := by rw [List.getElem?_replicate, if_pos (by omega)]
      have h := flat_get _ (i / 2) _ hx
      by_cases hm : i % 2 = 0
      · rw [if_pos hm]
        have := h.1
        rw [show i / 2 * 2 = i by omega] at this
        exact this
      · rw [if_neg hm]
        have := h.2
        rw [show i / 2 * 2 + 1 = i by omega] at this
        exact this
    rw [h1]
    have h2 : (madeCells #[Value.bool false, Value.string ⟨#[]⟩] (m * 2)).toList[i]? = some ((#[Value.bool false, Value.string ⟨#[]⟩] : Array Value)[i % 2]!) := by
      simp [madeCells, hi]
    rw [h2]
    have h3 : i % 2 = 0 ∨ i % 2 = 1 := by omega
    rcases h3 with h3 | h3 <;> simp [h3]
  · rw [List.getElem?_eq_none (by simp [madeCells]; omega), List.getElem?_eq_none (by rw [flat_len]; simp; omega)]
theorem IsSlots.of_has {w : World} {g : Nat} {t : TypeId} {fr : Nat × Nat} {l rest : List Sl} {cur : Array Value} (h : Has w g (.cells cur t fr)) {m M : Nat} (hc : cur.toList.take (m * 2) = flat l) (hm : l.length = m) (hM : m ≤ M) (hM2 : M ≤ 9223372036854775807) (hs : ∀ x ∈ l, x.d.size ≤ 140737488351232) :
    IsSlots w (some ⟨g, 0, none⟩) m M l := by
  refine ⟨hm, hM, hM2, hs, fun _ => ⟨g, 0, rfl, h.lt, fun i x hx => ?_⟩⟩
  have hi : i < m := by rw [← hm]; exact (List.getElem?_eq_some_iff.1 hx).1
  obtain ⟨h1, h2⟩ := flat_get l i x hx
  rw [← hc] at h1 h2
  rw [List.getElem?_take_of_lt (by omega)] at h1 h2
  constructor
  · exact h.cell _ _ (by rw [← Array.getElem?_toList, Nat.zero_add]; exact h1)
  · exact h.cell _ _ (by rw [← Array.getElem?_toList, Nat.zero_add]; exact h2)
/-- A slice of slots that came in, as cells. -/
theorem IsSlots.flat {w : World} {b off n c : Nat} {l : List Sl} (h : IsSlots w (some ⟨b, off, none⟩) n c l) (hn : 0 < n) : ∀ j v, (flat l)[j]? = some v → w.cell? ((⟨b, off, none⟩ : Addr).add j) = some v := by
  intro j v hv
  obtain ⟨b', off', e, _, hc⟩ := h.row hn
  obtain ⟨rfl, rfl⟩ : b' = b ∧ off' = off := by cases e; exact ⟨rfl, rfl⟩
  have hj : j < l.length * 2 := by rw [← flat_len]; exact (List.getElem?_eq_some_iff.1 hv).1
  have hx : l[j / 2]? = some (l[j / 2]'(by omega)) := List.getElem?_eq_getElem (by omega)
  obtain ⟨f1, f2⟩ := flat_get l _ _ hx
  obtain ⟨c1, c2⟩ := hc _ _ hx
  have ea : (⟨b', off', none⟩ : Addr).add j = ⟨b', off' + j, none⟩ := by unfold Addr.add; split <;> simp_all
  rw [ea]
  by_cases hm : j % 2 = 0
  · have e2 : j / 2 * 2 = j := by omega
    rw [e2] at f1 c1
    rw [f1] at hv
    rw [c1, hv]
  · have e2 : j / 2 * 2 + 1 = j := by omega
    have e3 : off' + j / 2 * 2 + 1 = off' + j := by omega
    rw [e2] at f2
    rw [e3] at c2
    rw [f2] at hv
    rw [c2, hv]
/-- A copy of elements of whatever size to the head of a row that is known whole. -/
theorem run_copy_wide {P : Program} {w : World} {t ty e : TypeId} {i : TypeInfo} (ht : P.underlying t = some (.slice e)) (hi : P.info? e = some i) {g dLen dCap : Nat} {sp : Option Addr} {sLen sCap : Nat} {cur : Array Value} {te : TypeId}
    (hg : Has w g (.cells cur te)) {cs : List Value} (hn : cs.length = sLen * i.size) (hle : sLen ≤ dLen) (hsrc : 0 < sLen → ∃ ad, sp = some ad ∧ ∀ j v, cs[j]? = some v → w.cell? (ad.add j) = some v) (hfit : cs.length ≤ cur.size) (h1 : ∀ v ∈ cs, v.oneCell' = true) :
    (Builtin.copy_ #[t, t] ty #[.slice (some ⟨g, 0, none⟩) dLen dCap, .slice sp sLen sCap]).run P w = .ok (goInt sLen) (w.setRow g (cs ++ cur.toList.drop cs.length).toArray) := by
  have hst := run_storeCells_at P g 0 te cs 0 cur w hg (by simpa using hfit) h1
  simp only [Nat.zero_add, List.take_zero, List.nil_append] at hst
  have hmin : Nat.min sLen dLen = sLen := Nat.min_eq_left hle
  by_cases h0 : sLen = 0
  · subst h0
    have hc : cs = [] := List.eq_nil_of_length_eq_zero (by omega)
    subst hc
    have hl : ∀ (x : Addr), (loadCells x 0).run P w = .ok #[] w := fun x => by simpa using run_loadCells_list (P := P) w x [] (by simp)
    simp only [List.nil_append, List.length_nil, List.drop_zero] at hst ⊢
    cases sp <;> simp [Builtin.copy_, run_underlying ht, Builtin.lenOf, Builtin.firstCells, sizeOf, typeInfo, hi, hmin, hl, hst]
  · obtain ⟨ad, rfl, hs⟩ := hsrc (by omega)
    have hfc := run_firstCells_some (P := P) w i.size sLen ad sLen sCap cs hn hs
    simp [Builtin.copy_, run_underlying ht, Builtin.lenOf, sizeOf, typeInfo, hi, hmin, hfc, hst]
theorem wpList_copy_wide {P : Program} {w : World} {ops : Array Oper} {rest : List Oper} {o : Oper} {a : Act} {Q : Exit → Act → World → Prop} (hgd : o.guard = none) (d s : Operand) (t : TypeId)
    (ho : o.op = .call { callee := .builtin .copy, args := #[d, s], argTypes := #[t, t] }) (e : TypeId) (i : TypeInfo) (ht : P.underlying t = some (.slice e)) (hi : P.info? e = some i)
    (g dLen dCap : Nat) (sp : Option Addr) (sLen sCap : Nat) (hd : a.eval d = .slice (some ⟨g, 0, none⟩) dLen dCap) (hs : a.eval s = .slice sp sLen sCap) (cur : Array Value) (te : TypeId)
    (hg : Has w g (.cells cur te)) (cs : List Value) (hn : cs.length = sLen * i.size) (hle : sLen ≤ dLen) (hsrc : 0 < sLen → ∃ ad, sp = some ad ∧ ∀ j v, cs[j]? = some v → w.cell? (ad.add j) = some v) (hfit : cs.length ≤ cur.size) (h1 : ∀ v ∈ cs, v.oneCell' = true)
    (h : ∀ w', Has w' g (.cells (cs ++ cur.toList.drop cs.length).toArray te) → But g w w' → wpList P ops Q rest (a.put o.dst (goInt sLen)) w') : wpList P ops Q (o :: rest) a w := by
  refine wpList_plain hgd fun K hK => ?_
  have hrun := run_copy_wide (P := P) (ty := o.type) (dCap := dCap) (sCap := sCap) ht hi hg hn hle hsrc hfit h1
  unfold Oper.wp
  simp [execOp, ho, resolve, invoke, builtin, hd, hs, hrun, Result.andThen]
  exact hK _ _ (h _ (Has.setRow hg _) (But.setRow g w _))
theorem infoSlot : (Try.prog.info? 33).map (fun i => (i.zero, i.size, i.bytes)) = some (some (.agg #[.bool false, .string ⟨#[]⟩]), 2, 24) := by kernel_rfl
theorem run_make_rowN {P : Program} (t e : TypeId) (i : TypeInfo) (z : Value) (ht : P.underlying t = some (.slice e)) (hi : P.info? e = some i) (hz : i.zero = some z)
    (kl kc : IntKind) (n c : Nat) (hnc : n ≤ c) (hbytes : i.bytes * c ≤ 281474976710656) (h63 : c ≤ 9223372036854775807) (w : World) :
    (Instr.makeSlice t (.int kl (n : Int)) (.int kc (c : Int))).run P w = .ok (.slice (some ⟨w.heap.size, 0, none⟩) n c) (w.alloc (.cells (madeCells z.cells (c * i.size)) e)) := by
  have hb : (i.bytes : Int) * (c : Int) ≤ 281474976710656 := by
    have h : ((i.bytes * c : Nat) : Int) ≤ 281474976710656 := by omega
    rwa [Int.natCast_mul] at h
  have hr := run_make (P := P) w t e i z ht hi hz kl kc n c (by omega) (by omega) hb (by omega)
  simp only [Int.toNat_natCast] at hr
  exact hr
theorem makeSlots (m : Nat) (hm : m ≤ 100) (w : World) :
    (Instr.makeSlice 22 (.int .i64 (m : Int)) (.int .i64 (m : Int))).run Try.prog w = .ok (.slice (some ⟨w.heap.size, 0, none⟩) m m) (w.alloc (.cells (flat (List.replicate m Sl.none)).toArray 33)) := by
  obtain ⟨i, hi, hz0, hz1, hz2⟩ := info_parts infoSlot
  have h := run_make_rowN 22 33 i _ Try.underlying22 hi hz0 .i64 .i64 m m (Nat.le_refl _) (by rw [hz2]; omega) (by omega) w
  rw [h, hz1]
  congr 3
  rw [← flat_made]
  rfl
end Go.Proofs.Ytklmoigpalhlmaa
