/-
  What a slot has; whether two images are the same; what is more than is asked.
-/
import Derived.Test.YtakdagmkkelnfaaSlA
import Derived.Test.YtakdagmkkelnfaaBase
import Derived.Laws.StructEq
import Derived.Laws.MakeOwn
import Derived.Deep.Cut
/-! What a slot has; whether two images are the same; what is more than is asked. -/
set_option maxRecDepth 100000
namespace Go.Proofs.Ytakdagmkkelnfaa
open Go.RowKit
set_option linter.unusedVariables false

theorem slEqFields_step {P : Program} {w : World} {d : Nat} {xs ys : Array Value} {f : Field} {fs : List Field} {a b : Value} {r s : Bool} (hn : f.name ≠ "_") (ha : (part f.type xs f.offset).run P w = .ok a w) (hb : (part f.type ys f.offset).run P w = .ok b w)
    (hr : (Op.equalIn d f.type a b).run P w = .ok r w) (hs : (Op.eqFields d xs ys fs).run P w = .ok s w) : (Op.eqFields d xs ys (f :: fs)).run P w = .ok (r && s) w := by
  simp only [Op.eqFields, hn, ne_eq, not_false_eq_true, if_true, Sem.run_bind, ha, hb, hr, Result.andThen_ok]
  cases r <;> simp [hs]
theorem slEqFields_nil {P : Program} {w : World} {d : Nat} {xs ys : Array Value} : (Op.eqFields d xs ys []).run P w = .ok true w := by simp [Op.eqFields]
/-- Whether two slots are the same. -/
def slEq (x y : Sl) : Bool := x.u == y.u && (x.d.toList == y.d.toList && true)
theorem slEqIn (d : Nat) (x y : Sl) (w : World) : (Op.equalIn (d + 2) 62 (.agg #[.bool x.u, .string x.d]) (.agg #[.bool y.u, .string y.d])).run Try.prog w = .ok (slEq x y) w := by
  obtain ⟨u, a⟩ := x
  obtain ⟨v, b⟩ := y
  rw [run_equalIn_agg w (d + 1) _ _ _ (by simp [Program.fieldsOf, Try.underlying62]) (by kernel_rfl)]
  simp only [Program.fieldsOf, Try.underlying62]
  refine slEqFields_step (by decide) (a := .bool u) (b := .bool v) (by go_simp) (by go_simp) (by go_simp) ?_
  refine slEqFields_step (by decide) (a := .string a) (b := .string b) (by go_simp) (by go_simp) (by go_simp) slEqFields_nil
theorem slNeqBin (x y : Sl) (w : World) : (binOp .neq 62 (.agg #[.bool x.u, .string x.d]) (.agg #[.bool y.u, .string y.d])).run Try.prog w = .ok (.bool (!slEq x y)) w := by
  rw [run_neq_struct, slEqIn 9998 x y w]
  rfl
theorem slEqBin (x y : Sl) (w : World) : (binOp .eql 62 (.agg #[.bool x.u, .string x.d]) (.agg #[.bool y.u, .string y.d])).run Try.prog w = .ok (.bool (slEq x y)) w := by
  rw [run_eql_struct, slEqIn 9998 x y w]
  rfl
theorem bytes_same (a b : ByteArray) : (a.toList == b.toList) = true ↔ a = b := by
  rw [ByteArray.toList_eq, ByteArray.toList_eq, beq_iff_eq]
  constructor
  · intro h; apply ByteArray.ext; apply Array.ext'; exact h
  · rintro rfl; rfl
theorem slEq_iff (x y : Sl) : slEq x y = true ↔ x = y := by
  obtain ⟨u, a⟩ := x
  obtain ⟨v, b⟩ := y
  unfold slEq
  rw [Bool.and_true, Bool.and_eq_true, bytes_same]
  simp
/-- What a slot of an image has. -/
def slAt (lsn : Int) (l : List Sl) (k : Int) : Sl := if slGood lsn l = true ∧ 0 ≤ k ∧ k < l.length then l.getD k.toNat Sl.none else Sl.none
theorem slAt_in {lsn : Int} {l : List Sl} {k : Nat} {x : Sl} (hg : slGood lsn l = true) (hx : l[k]? = some x) : slAt lsn l k = x := by
  have hk := (List.getElem?_eq_some_iff.1 hx).1
  unfold slAt
  rw [if_pos ⟨hg, by omega, by omega⟩]
  simp [List.getD, hx]
theorem slAt_out {lsn : Int} {l : List Sl} {k : Int} (h : slGood lsn l = false ∨ k < 0 ∨ (l.length : Int) ≤ k) : slAt lsn l k = Sl.none := by
  unfold slAt
  rw [if_neg]
  rintro ⟨a, b, c⟩
  rcases h with h | h | h
  · rw [a] at h; cases h
  · omega
  · omega
theorem slSlotUnd : ∃ fs, Try.prog.underlying 62 = some (.struct fs) := ⟨_, Try.underlying62⟩
theorem pageUnd : ∃ fs, Try.prog.underlying 29 = some (.struct fs) := ⟨_, Try.underlying29⟩
/-- Whether two lists of slots are the same. -/
def slsEq : List Sl → List Sl → Bool
  | [], [] => true
  | x :: xs, y :: ys => slEq x y && slsEq xs ys
  | _, _ => false
theorem slsEq_iff (a b : List Sl) : slsEq a b = true ↔ a = b := by
  induction a generalizing b with
  | nil => cases b <;> simp [slsEq]
  | cons x xs ih =>
    cases b with
    | nil => simp [slsEq]
    | cons y ys => simp [slsEq, slEq_iff, ih]
def pgSame (k : Int) (a : List Sl) (m : Int) (b : List Sl) : Bool := k == m && slsEq a b
theorem pgSame_iff (k m : Int) (a b : List Sl) : pgSame k a m b = true ↔ k = m ∧ a = b := by simp [pgSame, slsEq_iff]
theorem take_same {a b : List Sl} {k : Nat} {x y : Sl} (hx : a[k]? = some x) (hy : b[k]? = some y) (h : a.take k = b.take k) (he : slEq x y = true) : a.take (k + 1) = b.take (k + 1) := by
  rw [List.take_add_one, List.take_add_one, h, hx, hy, (slEq_iff x y).1 he]
theorem not_same {a b : List Sl} {k : Nat} {x y : Sl} (hx : a[k]? = some x) (hy : b[k]? = some y) (he : slEq x y = false) : slsEq a b = false := by
  cases h : slsEq a b with
  | false => rfl
  | true =>
    have := (slsEq_iff a b).1 h
    subst this
    rw [hx] at hy
    have h2 := (slEq_iff x y).2 (by simpa using hy)
    rw [h2] at he; cases he
set_option maxRecDepth 100000 in
set_option maxHeartbeats 2000000 in
theorem psame_any (l1 : Int) (A1 : Option Addr) (n1 c1 : Nat) (a : List Sl) (l2 : Int) (A2 : Option Addr) (n2 c2 : Nat) (b : List Sl) (w : World) (h1 : IsSlots w A1 n1 c1 a) (h2 : IsSlots w A2 n2 c2 b) :
    Calls Try.prog 26 #[.agg #[.int .i64 l1, .slice A1 n1 c1], .agg #[.int .i64 l2, .slice A2 n2 c2]] w fun r w' => r = .returned (.bool (pgSame l1 a l2 b)) ∧ Below w.heap.size w w' := by
  have hcap1 := h1.cap
  have hmost1 := h1.most
  have hlen1 := h1.len
  have hcap2 := h2.cap
  have hmost2 := h2.most
  have hlen2 := h2.len
  have H1 := Lib.hid h1
  have H2 := Lib.hid h2
  clear h1 h2
  obtain ⟨G, hG⟩ : ∃ G, pgSame l1 a l2 b = G := ⟨_, rfl⟩
  rw [hG]
  have HG := Lib.hid hG
  clear hG
  by_cases hl : l1 = l2
  · by_cases hn : n1 = n2
    · subst hl hn
      go_enter Try.func26, Try.ntmps26
      go_wp2_with fail
      generalize hw1 : World.alloc _ _ = w1
      have B1 : Below w.heap.size w w1 := by rw [← hw1]; exact bup (bnew _ _) (bnew _ _)
      have K1 : Has w1 w.heap.size (.cells #[.int .i64 l1, .slice A1 n1 c1] 29) := by rw [← hw1]; exact (Has.new _ _).alloc _
      have K2 : Has w1 (w.heap.size + 1) (.cells #[.int .i64 l1, .slice A2 n1 c2] 29) := by rw [← hw1]; exact Has.new1 _ _ _
      clear hw1
      have J1 := Lib.hid (H1.out.below B1)
      have J2 := Lib.hid (H2.out.below B1)
      replace K1 := Lib.hid K1
      replace K2 := Lib.hid K2
      replace B1 := Lib.hid B1
      go_loopw [5] (fun i wr => ∃ (k : Nat), k ≤ n1 ∧ i = .int .i64 k ∧ Hid (a.take k = b.take k) ∧ Below w1.heap.size w1 wr) (fun i _ => n1 - (intOf i).toNat)
      case atStart => exact ⟨0, by omega, rfl, Lib.hid rfl, Below.refl _ _⟩
      case round =>
        obtain ⟨k, hk, rfl, Hn, hb⟩ := hrel
        have k1 := (K1.out.below hb).cell 1 _ rfl
        have k2 := (K2.out.below hb).cell 1 _ rfl
        by_cases hlt : k < n1
        · obtain ⟨b1, o1, x, rfl, hx, hb1, x1, x2, hs1⟩ := (J1.out.below hb).at hlt
          obtain ⟨b2, o2, y, rfl, hy, hb2, y1, y2, hs2⟩ := (J2.out.below hb).at hlt
          have i1 : (0 : Int) ≤ (k : Int) := by omega
          have i2 : (k : Int) < (n1 : Int) := by omega
          have Hb := Lib.hid hb
          clear hb
          have CE := fun w => slNeqBin x y w
          cases he : slEq x y with
          | false =>
            have HX := Lib.hid (not_same hx hy he)
            rw [he] at CE
            have HE := Lib.hid he
            clear hx hy he
            go_wp2_with fail
            go_quiet (fail)
            go_wp2_with fail
            go_ret
            exact ⟨by rw [← HG.out, pgSame, HX.out]; simp, bup B1.out (bup Hb.out (draws_below _ _))⟩
          | true =>
            have HX := Lib.hid (take_same hx hy Hn.out he)
            rw [he] at CE
            have HE := Lib.hid he
            clear hx hy he
            go_wp2_with fail
            go_quiet (fail)
            go_wp2_with fail
            go_roundw
            case rel => exact ⟨k + 1, by omega, by go_num, HX, bup Hb.out (draws_below _ _)⟩
            case measure => simp [intOf]; omega
        · have HX : Hid (slsEq a b = true) := Lib.hid (by
            rw [slsEq_iff]
            have := Hn.out
            rw [List.take_of_length_le (by omega), List.take_of_length_le (by omega)] at this
            exact this)
          go_wp2_with fail
          go_ret
          exact ⟨by rw [← HG.out, pgSame, HX.out]; simp, bup B1.out hb⟩
    · subst hl
      have HR : Hid (G = false) := Lib.hid (by
        rw [← HG.out]
        cases hp : pgSame l1 a l1 b with
        | false => rfl
        | true => have := ((pgSame_iff _ _ _ _).1 hp).2; rw [this] at hlen1; omega)
      go_enter Try.func26, Try.ntmps26
      go_wp2_with fail
      all_goals
        first
        | (exfalso; omega)
        | (go_ret
           exact ⟨by rw [HR.out]; rfl, bup (bnew _ _) (bnew _ _)⟩)
  · have HR : Hid (G = false) := Lib.hid (by rw [← HG.out]; simp [pgSame, hl])
    have hne : (l1 != l2) = true := by simpa using hl
    clear hl
    go_enter Try.func26, Try.ntmps26
    go_wp2_with fail
    go_ret
    exact ⟨by rw [HR.out]; rfl, bup (bnew _ _) (bnew _ _)⟩
end Go.Proofs.Ytakdagmkkelnfaa

/-! What comes of a put, in plain words; rows of slots in memory. -/
namespace Go.Proofs.Ytakdagmkkelnfaa
open Go.RowKit
set_option linter.unusedVariables false

/-- Without the slots at the end that have nothing. -/
def slTrim (l : List Sl) : List Sl := (l.reverse.dropWhile Sl.free).reverse
theorem slTrim_nil : slTrim [] = [] := rfl
theorem slTrim_free (l : List Sl) (x : Sl) (h : x.u = false) : slTrim (l ++ [x]) = slTrim l := by simp [slTrim, Sl.free, h]
theorem slTrim_used (l : List Sl) (x : Sl) (h : x.u = true) : slTrim (l ++ [x]) = l ++ [x] := by simp [slTrim, Sl.free, h]
theorem slTrim_take_free {l : List Sl} {m : Nat} {x : Sl} (hx : l[m]? = some x) (h : x.u = false) : slTrim (l.take (m + 1)) = slTrim (l.take m) := by
  rw [List.take_add_one, hx]; exact slTrim_free _ _ h
theorem slTrim_take_used {l : List Sl} {m : Nat} {x : Sl} (hx : l[m]? = some x) (h : x.u = true) : slTrim (l.take (m + 1)) = l.take (m + 1) := by
  rw [List.take_add_one, hx]; exact slTrim_used _ _ h
theorem slTrim_le (l : List Sl) : (slTrim l).length ≤ l.length := by
  unfold slTrim
  rw [List.length_reverse]
  have h := (List.dropWhile_sublist (p := Sl.free) (l := l.reverse)).length_le
  simpa using h
theorem slTrim_sub (l : List Sl) : ∀ x ∈ slTrim l, x ∈ l := by
  intro x hx
  have h := (List.dropWhile_sublist (p := Sl.free) (l := l.reverse)).subset (by simpa [slTrim] using hx)
  simpa using h
/-- As many slots as a place asks, those behind the last one empty. -/
def slPad (l : List Sl) (m : Nat) : List Sl := l ++ List.replicate (m - l.length) Sl.none
theorem slPad_len (l : List Sl) (m : Nat) : (slPad l m).length = max l.length m := by simp [slPad]; omega
def putL (l : List Sl) (k : Nat) (x : Sl) : List Sl := slTrim ((slPad l (k + 1)).set k x)
theorem putL_sizes {l : List Sl} (h : ∀ x ∈ l, x.d.size ≤ 200) (k : Nat) {x : Sl} (hx : x.d.size ≤ 200) : ∀ y ∈ (slPad l (k + 1)).set k x, y.d.size ≤ 200 := by
  intro y hy
  rcases List.mem_or_eq_of_mem_set hy with h1 | h1
  · unfold slPad at h1
    rcases List.mem_append.1 h1 with h2 | h2
    · exact h y h2
    · rw [List.eq_of_mem_replicate h2]; exact Nat.zero_le _
  · rw [h1]; exact hx
/-- Whether what is to be put can be there. -/
def putBad (lsn : Int) (l : List Sl) (k : Int) (x : Sl) : Bool := !(slGood lsn l) || (decide (k < 0) || (decide (32 ≤ k) || (!x.u && !x.d.toList.isEmpty)))
/-- What comes of a put: the number, the slots, the error. -/
def putRes (lsn : Int) (l : List Sl) (k : Int) (x : Sl) : Int × List Sl × Int :=
  if putBad lsn l k x = true then (0, [], 1)
  else if 200 < x.d.size then (0, [], 5)
  else if 240 < slSize (putL l k.toNat x) then (0, [], 22)
  else (lsn, putL l k.toNat x, 0)
/-- An image and an error come out. -/
def PageOut (R : Int × List Sl × Int) (w : World) (e : Ending) (w' : World) : Prop :=
  ∃ A n c, e = .returned (.tuple #[.agg #[.int .i64 R.1, .slice A n c], .int .i64 R.2.2]) ∧ IsSlots w' A n c R.2.1 ∧ Below w.heap.size w w'
theorem results_cell_one {P : Program} {fn : Func} {p u : Tmp} {ty : TypeId} (h : fn.results = #[.cell p ty, .tmp u]) (tmps : Array Value) (w : World) (g : Nat) (t : TypeId) (cs : Array Value) (fr : Nat × Nat) (fs : Array Field)
    (hp : tmps.getD p undef = .pointer (some ⟨g, 0, none⟩)) (hg : w.heap[g]? = some (.cells cs t fr))
    (hu : P.underlying ty = some (.struct fs)) (hi : (P.info? ty).map (·.size) = some cs.size) :
    (results fn tmps).run P w = .ok (.tuple #[.agg cs, tmps.getD u undef]) w := by
  have hp' : tmps[p]?.getD undef = .pointer (some ⟨g, 0, none⟩) := by simpa using hp
  simp [results, h, hp', asAddr, run_loadVar_row w g t ty cs fr _ hg hu rfl hi]
/-- The cells of slots. -/
def flat (l : List Sl) : List Value := l.flatMap fun x => [.bool x.u, .string x.d]
theorem flat_len (l : List Sl) : (flat l).length = l.length * 2 := by
  induction l with
  | nil => rfl
  | cons a l ih =>
    have e : flat (a :: l) = .bool a.u :: .string a.d :: flat l := rfl
    rw [e]; simp [ih]; omega
theorem flat_get (l : List Sl) (i : Nat) (x : Sl) (h : l[i]? = some x) : (flat l)[i * 2]? = some (.bool x.u) ∧ (flat l)[i * 2 + 1]? = some (.string x.d) := by
  induction l generalizing i with
  | nil => simp at h
  | cons a l ih =>
    have e : flat (a :: l) = .bool a.u :: .string a.d :: flat l := rfl
    cases i with
    | zero =>
      have hx : a = x := by simpa using h
      subst hx
      exact ⟨rfl, rfl⟩
    | succ i =>
      have h2 := ih i (by simpa using h)
      rw [e, show (i + 1) * 2 = i * 2 + 1 + 1 by omega]
      exact ⟨by simpa using h2.1, by simpa using h2.2⟩
theorem flat_append (l m : List Sl) : flat (l ++ m) = flat l ++ flat m := by simp [flat]
theorem flat_take (l : List Sl) (k : Nat) : flat (l.take k) = (flat l).take (k * 2) := by
  induction l generalizing k with
  | nil => simp [flat]
  | cons a l ih =>
    cases k with
    | zero => simp [flat]
    | succ k =>
      have e : flat (a :: l) = .bool a.u :: .string a.d :: flat l := rfl
      rw [List.take_succ_cons, show flat (a :: l.take k) = .bool a.u :: .string a.d :: flat (l.take k) from rfl, e, show (k + 1) * 2 = k * 2 + 1 + 1 by omega, ih]
      rfl
theorem flat_set (l : List Sl) (k : Nat) (x : Sl) : ((flat l).set (k * 2) (.bool x.u)).set (k * 2 + 1) (.string x.d) = flat (l.set k x) := by
  induction l generalizing k with
  | nil => rfl
  | cons a l ih =>
    have e : flat (a :: l) = .bool a.u :: .string a.d :: flat l := rfl
    cases k with
    | zero => rfl
    | succ k =>
      rw [List.set_cons_succ, show flat (a :: l.set k x) = .bool a.u :: .string a.d :: flat (l.set k x) from rfl, e, show (k + 1) * 2 = k * 2 + 1 + 1 by omega, ← ih]
      rfl
theorem flat_one (l : List Sl) : ∀ v ∈ flat l, v.oneCell' = true := by
  intro v hv
  unfold flat at hv
  rw [List.mem_flatMap] at hv
  obtain ⟨x, _, hx⟩ := hv
  simp at hx
  rcases hx with rfl | rfl <;> rfl
theorem flat_made (m : Nat) : (madeCells #[.bool false, .string ⟨#[]⟩] (m * 2)).toList = flat (List.replicate m Sl.none) := by
  apply List.ext_getElem?
  intro i
  by_cases hi : i < m * 2
  · have h1 : (flat (List.replicate m Sl.none))[i]? = some (if i % 2 = 0 then .bool false else .string ⟨#[]⟩) := by
      have hx : (List.replicate m Sl.none)[i / 2]? = some Sl.none := by rw [List.getElem?_replicate, if_pos (by omega)]
      have h := flat_get _ (i / 2) _ hx
      by_cases hm : i % 2 = 0
      · rw [if_pos hm]
        have := h.1
        rw [show i / 2 * 2 = i by omega] at this
        exact this
      · rw [if_neg hm]
        have := h.2
        rw [show i / 2 * 2 + 1 = i by omega] at this
        exact this
    rw [h1]
    have h2 : (madeCells #[Value.bool false, Value.string ⟨#[]⟩] (m * 2)).toList[i]? = some ((#[Value.bool false, Value.string ⟨#[]⟩] : Array Value)[i % 2]!) := by
      simp [madeCells, hi]
    rw [h2]
    have h3 : i % 2 = 0 ∨ i % 2 = 1 := by omega
    rcases h3 with h3 | h3 <;> simp [h3]
  · rw [List.getElem?_eq_none (by simp [madeCells]; omega), List.getElem?_eq_none (by rw [flat_len]; simp; omega)]
theorem IsSlots.of_has {w : World} {g : Nat} {t : TypeId} {fr : Nat × Nat} {l rest : List Sl} {cur : Array Value} (h : Has w g (.cells cur t fr)) {m M : Nat} (hc : cur.toList.take (m * 2) = flat l) (hm : l.length = m) (hM : m ≤ M) (hM2 : M ≤ 9223372036854775807) (hs : ∀ x ∈ l, x.d.size ≤ 140737488351232) :
    IsSlots w (some ⟨g, 0, none⟩) m M l := by
  refine ⟨hm, hM, hM2, hs, fun _ => ⟨g, 0, rfl, h.lt, fun i x hx => ?_⟩⟩
  have hi : i < m := by rw [← hm]; exact (List.getElem?_eq_some_iff.1 hx).1
  obtain ⟨h1, h2⟩ := flat_get l i x hx
  rw [← hc] at h1 h2
  rw [List.getElem?_take_of_lt (by omega)] at h1 h2
  constructor
  · exact h.cell _ _ (by rw [← Array.getElem?_toList, Nat.zero_add]; exact h1)
  · exact h.cell _ _ (by rw [← Array.getElem?_toList, Nat.zero_add]; exact h2)
/-- A slice of slots that came in, as cells. -/
theorem IsSlots.flat {w : World} {b off n c : Nat} {l : List Sl} (h : IsSlots w (some ⟨b, off, none⟩) n c l) (hn : 0 < n) : ∀ j v, (flat l)[j]? = some v → w.cell? ((⟨b, off, none⟩ : Addr).add j) = some v := by
  intro j v hv
  obtain ⟨b', off', e, _, hc⟩ := h.row hn
  obtain ⟨rfl, rfl⟩ : b' = b ∧ off' = off := by cases e; exact ⟨rfl, rfl⟩
  have hj : j < l.length * 2 := by rw [← flat_len]; exact (List.getElem?_eq_some_iff.1 hv).1
  have hx : l[j / 2]? = some (l[j / 2]'(by omega)) := List.getElem?_eq_getElem (by omega)
  obtain ⟨f1, f2⟩ := flat_get l _ _ hx
  obtain ⟨c1, c2⟩ := hc _ _ hx
  have ea : (⟨b', off', none⟩ : Addr).add j = ⟨b', off' + j, none⟩ := by unfold Addr.add; split <;> simp_all
  rw [ea]
  by_cases hm : j % 2 = 0
  · have e2 : j / 2 * 2 = j := by omega
    rw [e2] at f1 c1
    rw [f1] at hv
    rw [c1, hv]
  · have e2 : j / 2 * 2 + 1 = j := by omega
    have e3 : off' + j / 2 * 2 + 1 = off' + j := by omega
    rw [e2] at f2
    rw [e3] at c2
    rw [f2] at hv
    rw [c2, hv]
/-- A copy of elements of whatever size to the head of a row that is known whole. -/
theorem run_copy_wide {P : Program} {w : World} {t ty e : TypeId} {i : TypeInfo} (ht : P.underlying t = some (.slice e)) (hi : P.info? e = some i) {g dLen dCap : Nat} {sp : Option Addr} {sLen sCap : Nat} {cur : Array Value} {te : TypeId}
    (hg : Has w g (.cells cur te)) {cs : List Value} (hn : cs.length = sLen * i.size) (hle : sLen ≤ dLen) (hsrc : 0 < sLen → ∃ ad, sp = some ad ∧ ∀ j v, cs[j]? = some v → w.cell? (ad.add j) = some v) (hfit : cs.length ≤ cur.size) (h1 : ∀ v ∈ cs, v.oneCell' = true) :
    (Builtin.copy_ #[t, t] ty #[.slice (some ⟨g, 0, none⟩) dLen dCap, .slice sp sLen sCap]).run P w = .ok (goInt sLen) (w.setRow g (cs ++ cur.toList.drop cs.length).toArray) := by
  have hst := run_storeCells_at P g 0 te cs 0 cur w hg (by simpa using hfit) h1
  simp only [Nat.zero_add, List.take_zero, List.nil_append] at hst
  have hmin : Nat.min sLen dLen = sLen := Nat.min_eq_left hle
  by_cases h0 : sLen = 0
  · subst h0
    have hc : cs = [] := List.eq_nil_of_length_eq_zero (by omega)
    subst hc
    have hl : ∀ (x : Addr), (loadCells x 0).run P w = .ok #[] w := fun x => by simpa using run_loadCells_list (P := P) w x [] (by simp)
    simp only [List.nil_append, List.length_nil, List.drop_zero] at hst ⊢
    cases sp <;> simp [Builtin.copy_, run_underlying ht, Builtin.lenOf, Builtin.firstCells, sizeOf, typeInfo, hi, hmin, hl, hst]
  · obtain ⟨ad, rfl, hs⟩ := hsrc (by omega)
    have hfc := run_firstCells_some (P := P) w i.size sLen ad sLen sCap cs hn hs
    simp [Builtin.copy_, run_underlying ht, Builtin.lenOf, sizeOf, typeInfo, hi, hmin, hfc, hst]
theorem wpList_copy_wide {P : Program} {w : World} {ops : Array Oper} {rest : List Oper} {o : Oper} {a : Act} {Q : Exit → Act → World → Prop} (hgd : o.guard = none) (d s : Operand) (t : TypeId)
    (ho : o.op = .call { callee := .builtin .copy, args := #[d, s], argTypes := #[t, t] }) (e : TypeId) (i : TypeInfo) (ht : P.underlying t = some (.slice e)) (hi : P.info? e = some i)
    (g dLen dCap : Nat) (sp : Option Addr) (sLen sCap : Nat) (hd : a.eval d = .slice (some ⟨g, 0, none⟩) dLen dCap) (hs : a.eval s = .slice sp sLen sCap) (cur : Array Value) (te : TypeId)
    (hg : Has w g (.cells cur te)) (cs : List Value) (hn : cs.length = sLen * i.size) (hle : sLen ≤ dLen) (hsrc : 0 < sLen → ∃ ad, sp = some ad ∧ ∀ j v, cs[j]? = some v → w.cell? (ad.add j) = some v) (hfit : cs.length ≤ cur.size) (h1 : ∀ v ∈ cs, v.oneCell' = true)
    (h : ∀ w', Has w' g (.cells (cs ++ cur.toList.drop cs.length).toArray te) → But g w w' → wpList P ops Q rest (a.put o.dst (goInt sLen)) w') : wpList P ops Q (o :: rest) a w := by
  refine wpList_plain hgd fun K hK => ?_
  have hrun := run_copy_wide (P := P) (ty := o.type) (dCap := dCap) (sCap := sCap) ht hi hg hn hle hsrc hfit h1
  unfold Oper.wp
  simp [execOp, ho, resolve, invoke, builtin, hd, hs, hrun, Result.andThen]
  exact hK _ _ (h _ (Has.setRow hg _) (But.setRow g w _))
theorem infoSlot : (Try.prog.info? 62).map (fun i => (i.zero, i.size, i.bytes)) = some (some (.agg #[.bool false, .string ⟨#[]⟩]), 2, 24) := by kernel_rfl
theorem run_make_rowN {P : Program} (t e : TypeId) (i : TypeInfo) (z : Value) (ht : P.underlying t = some (.slice e)) (hi : P.info? e = some i) (hz : i.zero = some z)
    (kl kc : IntKind) (n c : Nat) (hnc : n ≤ c) (hbytes : i.bytes * c ≤ 281474976710656) (h63 : c ≤ 9223372036854775807) (w : World) :
    (Instr.makeSlice t (.int kl (n : Int)) (.int kc (c : Int))).run P w = .ok (.slice (some ⟨w.heap.size, 0, none⟩) n c) (w.alloc (.cells (madeCells z.cells (c * i.size)) e)) := by
  have hb : (i.bytes : Int) * (c : Int) ≤ 281474976710656 := by
    have h : ((i.bytes * c : Nat) : Int) ≤ 281474976710656 := by omega
    rwa [Int.natCast_mul] at h
  have hr := run_make (P := P) w t e i z ht hi hz kl kc n c (by omega) (by omega) hb (by omega)
  simp only [Int.toNat_natCast] at hr
  exact hr
theorem makeSlots (m : Nat) (hm : m ≤ 100) (w : World) :
    (Instr.makeSlice 27 (.int .i64 (m : Int)) (.int .i64 (m : Int))).run Try.prog w = .ok (.slice (some ⟨w.heap.size, 0, none⟩) m m) (w.alloc (.cells (flat (List.replicate m Sl.none)).toArray 62)) := by
  obtain ⟨i, hi, hz0, hz1, hz2⟩ := info_parts infoSlot
  have h := run_make_rowN 27 62 i _ Try.underlying27 hi hz0 .i64 .i64 m m (Nat.le_refl _) (by rw [hz2]; omega) (by omega) w
  rw [h, hz1]
  congr 3
  rw [← flat_made]
  rfl
end Go.Proofs.Ytakdagmkkelnfaa

/-! slab.Put. -/
namespace Go.Proofs.Ytakdagmkkelnfaa
open Go.RowKit
set_option linter.unusedVariables false

theorem putBad_cases {lsn : Int} {l : List Sl} {k : Int} {x : Sl} (h : putBad lsn l k x = true) :
    slGood lsn l = false ∨ (slGood lsn l = true ∧ k < 0) ∨ (slGood lsn l = true ∧ ¬ k < 0 ∧ 32 ≤ k) ∨ (slGood lsn l = true ∧ ¬ k < 0 ∧ ¬ 32 ≤ k ∧ x.u = false ∧ x.d.toList.isEmpty = false) := by
  unfold putBad at h
  cases hg : slGood lsn l with
  | false => exact .inl rfl
  | true =>
    by_cases h1 : k < 0
    · exact .inr (.inl ⟨rfl, h1⟩)
    · by_cases h2 : 32 ≤ k
      · exact .inr (.inr (.inl ⟨rfl, h1, h2⟩))
      · simp [hg, h1, h2] at h
        exact .inr (.inr (.inr ⟨rfl, h1, h2, h.1, by simpa using h.2⟩))
theorem putBad_not {lsn : Int} {l : List Sl} {k : Int} {x : Sl} (h : putBad lsn l k x = false) : slGood lsn l = true ∧ ¬ k < 0 ∧ ¬ 32 ≤ k ∧ (x.u = true ∨ x.d.toList = []) := by
  unfold putBad at h
  simp at h
  obtain ⟨h1, h2, h3, h4⟩ := h
  refine ⟨h1, by omega, by omega, ?_⟩
  cases hu : x.u with
  | true => exact .inl rfl
  | false => exact .inr (h4 hu)
theorem pad_made (l : List Sl) (k M : Nat) (hM : max l.length (k + 1) = M) : flat l ++ (flat (List.replicate M Sl.none)).drop (flat l).length = flat (slPad l (k + 1)) := by
  rw [slPad, flat_append]
  congr 1
  rw [flat_len]
  have e : M = l.length + (k + 1 - l.length) := by omega
  rw [e, ← List.replicate_append_replicate, flat_append, List.drop_append_of_le_length (by rw [flat_len]; simp), List.drop_eq_nil_of_le (by rw [flat_len]; simp)]
  congr 2
theorem IsSlots.src {w : World} {A : Option Addr} {n c : Nat} {l : List Sl} (h : IsSlots w A n c l) (hn : 0 < n) : ∃ ad, A = some ad ∧ ∀ j v, (Go.Proofs.Ytakdagmkkelnfaa.flat l)[j]? = some v → w.cell? (ad.add j) = some v := by
  obtain ⟨b, off, rfl, _, _⟩ := h.row hn
  exact ⟨_, rfl, h.flat hn⟩
theorem IsSlots.but {w w' : World} {A : Option Addr} {n c b : Nat} {l : List Sl} (h : IsSlots w A n c l) (hb : But b w w') (hne : ∀ g off, A = some ⟨g, off, none⟩ → g ≠ b) : IsSlots w' A n c l := by
  refine ⟨h.len, h.cap, h.most, h.size, fun hn => ?_⟩
  obtain ⟨g, off, rfl, hlt, hc⟩ := h.row hn
  have hk := hb.block g hlt (hne g off rfl)
  refine ⟨g, off, rfl, Nat.lt_of_lt_of_le hlt hb.size, fun i x hx => ?_⟩
  obtain ⟨h1, h2⟩ := hc i x hx
  exact ⟨(World.cell?_of_block (a := ⟨g, off + i * 2, none⟩) hk).trans h1, (World.cell?_of_block (a := ⟨g, off + i * 2 + 1, none⟩) hk).trans h2⟩
def sliceLen : Value → Nat
  | .slice _ n _ => n
  | _ => 0
theorem Has.set2 {w : World} {g i : Nat} {PD FL : List Value} {t : TypeId} {fr : Nat × Nat} {v1 v2 : Value} (h : Has w g (.cells PD.toArray t fr)) (e : (PD.set i v1).set (i + 1) v2 = FL) :
    Has ((w.setCell ⟨g, i, none⟩ v1).setCell ⟨g, i + 1, none⟩ v2) g (.cells FL.toArray t fr) := by
  have := (h.set i v1).set (i + 1) v2
  rw [← e]
  simpa using this
end Go.Proofs.Ytakdagmkkelnfaa
