/-
  Rows of numbered texts; find, above.
-/
import Derived.Test.YtgabonacpoimfaaCoOk
import Derived.Deep.RegionHeld3
import Derived.Lib.QuietBelow
namespace Go.Proofs.Ytgabonacpoimfaa
open Go.RowKit
set_option linter.unusedVariables false
set_option linter.unusedSimpArgs false

abbrev Tx := Nat × ByteArray
def rowT (x : Tx) : Array Value := #[.int .i64 (x.1 : Int), .string x.2]
def flatT (l : List Tx) : List Value := l.flatMap fun x => (rowT x).toList
theorem flatT_append (a b : List Tx) : flatT (a ++ b) = flatT a ++ flatT b := by simp [flatT]
theorem flatT_len (l : List Tx) : (flatT l).length = l.length * 2 := by
  induction l with
  | nil => rfl
  | cons a l ih =>
    show ((rowT a).toList ++ flatT l).length = _
    rw [List.length_append, show (rowT a).toList.length = 2 from rfl, ih, List.length_cons]; omega
theorem flatT_get : ∀ (l : List Tx) (i : Nat) (x : Tx), l[i]? = some x → ∀ (j : Nat) v, (rowT x)[j]? = some v → (flatT l)[i * 2 + j]? = some v
  | [], i, x, h => by simp at h
  | a :: l, 0, x, h => by
    intro j v hv
    simp at h
    subst h
    have hj : j < 2 := (Array.getElem?_eq_some_iff.1 hv).1
    show ((rowT a).toList ++ flatT l)[0 * 2 + j]? = _
    rw [List.getElem?_append_left (by show _ < 2; omega), show 0 * 2 + j = j by omega]
    simpa using hv
  | a :: l, i + 1, x, h => by
    intro j v hv
    have h2 := flatT_get l i x (by simpa using h) j v hv
    show ((rowT a).toList ++ flatT l)[(i + 1) * 2 + j]? = _
    rw [List.getElem?_append_right (by show 2 ≤ _; omega), show (rowT a).toList.length = 2 from rfl, show (i + 1) * 2 + j - 2 = i * 2 + j by omega]
    exact h2
theorem textElem : Elem Try.prog 34 68 2 24 (.agg #[.int .i64 0, .string ⟨#[]⟩]) := ⟨Try.underlying34, by kernel_rfl, rfl, by omega⟩
def RowT (w : World) (v : Value) (q : List Tx) : Prop := w.ownsRow 0 68 2 v q.length (flatT q)
theorem RowT.at {w : World} {A : Option Addr} {n cap : Nat} {q : List Tx} (h : RowT w (.slice A n cap) q) (hn : n = q.length) {i : Nat} {x : Tx} (hx : q[i]? = some x) :
    ∃ g, A = some ⟨g, 0, none⟩ ∧ (Value.slice A n cap).ownBlock = some g ∧ g < w.heap.size ∧ w.cell? ⟨g, i * 2, none⟩ = some (.int .i64 (x.1 : Int)) ∧ w.cell? ⟨g, i * 2 + 1, none⟩ = some (.string x.2) := by
  subst hn
  have hi : i < q.length := (List.getElem?_eq_some_iff.1 hx).1
  obtain ⟨g, cap', cur, e, hb, hl, _⟩ := ownsRow_at h (by omega)
  injection e with e1 e2 e3
  subst e1
  have key : ∀ j, j < 2 → ∀ v, (rowT x)[j]? = some v → w.cell? ⟨g, i * 2 + j, none⟩ = some v := fun j hj v hv => by
    rw [World.ownsRow.cellAt h (i * 2 + j) (by omega)]
    exact flatT_get q i x hx j v hv
  exact ⟨g, rfl, rfl, hl, key 0 (by omega) _ rfl, key 1 (by omega) _ rfl⟩
theorem RowT.form {w : World} {v : Value} {q : List Tx} (h : RowT w v q) : ∃ A cap, v = .slice A q.length cap ∧ q.length ≤ cap ∧ cap ≤ 9223372036854775807 := ownsRow_form h
theorem RowT.empty (w : World) : RowT (w.alloc (.cells #[] 68)) (.slice (some ⟨w.heap.size, 0, none⟩) 0 0) [] :=
  World.ownsRow_lit (base := 0) (e := 68) (size := 2) w #[] 0 (Nat.zero_le _) (by unfold maxLen; omega) rfl
theorem look_here {q : List Tx} {i n : Nat} {x : Tx} (hx : q[i]? = some x) (hn : x.1 = n) (hb : look (q.take i) n = none) : look q n = some x.2 := by
  have hi := (List.getElem?_eq_some_iff.1 hx).1
  have e : q = q.take i ++ x :: q.drop (i + 1) := by
    conv => lhs; rw [← List.take_append_drop i q]
    rw [List.drop_eq_getElem_cons hi, (List.getElem?_eq_some_iff.1 hx).2]
  rw [e]
  unfold look at *
  rw [List.find?_append]
  rw [Option.map_eq_none_iff] at hb
  rw [hb]
  simp [List.find?_cons, hn]
theorem look_next {q : List Tx} {i n : Nat} {x : Tx} (hx : q[i]? = some x) (hn : x.1 ≠ n) (hb : look (q.take i) n = none) : look (q.take (i + 1)) n = none := by
  rw [look_none] at *
  intro y hy
  rw [List.take_add_one, hx] at hy
  rcases List.mem_append.1 hy with h | h
  · exact hb y h
  · simp at h; subst h; exact hn
set_option maxRecDepth 100000 in
set_option maxHeartbeats 2000000 in
theorem find_any (A : Option Addr) (n cap : Nat) (q : List Tx) (m : Nat) (w : World) (hrow : RowT w (.slice A n cap) q) (hn : n = q.length) (hc : n ≤ 9223372036854775807) :
    Calls Try.prog 29 #[.slice A n cap, .int .i64 (m : Int)] w fun e w' => e = .returned (.tuple #[.string ((look q m).getD ⟨#[]⟩), .bool (look q m).isSome]) ∧ w = w' := by
  have HA := Lib.hid (fun i x => hrow.at hn (i := i) (x := x))
  have HN := Lib.hid hn
  clear hrow hn
  go_enter Try.func29, Try.ntmps29
  go_wp2_with fail
  go_loopw [6] (fun iv wr => ∃ k : Nat, k ≤ n ∧ iv = .int .i64 k ∧ Hid (look (q.take k) m = none) ∧ wr = w) (fun iv _ => n - (intOf iv).toNat)
  case atStart => exact ⟨0, by omega, rfl, Lib.hid (by rfl), rfl⟩
  case round =>
    obtain ⟨k, hk, rfl, HL, rfl⟩ := hrel
    by_cases hlt : k < n
    · obtain ⟨x, hx⟩ : ∃ x, q[k]? = some x := ⟨_, List.getElem?_eq_getElem (by rw [← HN.out]; exact hlt)⟩
      obtain ⟨g, rfl, _, hgl, d0, d1⟩ := HA.out k x hx
      by_cases h1 : x.1 = m
      · have HX := Lib.hid (look_here hx h1 HL.out)
        have h1' : (((x.1 : Nat) : Int) == (m : Int)) = true := by rw [h1]; simp
        clear hx h1 HA HL
        go_wp2_with fail
        go_ret2
        exact ⟨by rw [HX.out]; rfl, rfl⟩
      · have HX := Lib.hid (look_next hx h1 HL.out)
        have h1' : (((x.1 : Nat) : Int) == (m : Int)) = false := by simp; omega
        clear hx h1 HL
        go_wp2_with fail
        go_roundw
        case rel => exact ⟨k + 1, by omega, by go_num, HX, trivial⟩
        case measure => simp [intOf]; omega
    · obtain rfl : k = n := by omega
      have HX : Hid (look q m = none) := Lib.hid (by have := HL.out; rwa [List.take_of_length_le (by rw [← HN.out]; omega)] at this)
      clear HL HA HN
      go_wp2_with fail
      go_ret2
      exact ⟨by rw [HX.out]; rfl, rfl⟩
/-- The texts of higher numbers. -/
def aboveT (q : List Tx) (m : Int) : List Tx := q.filter (fun x => decide (m < (x.1 : Int)))
theorem aboveT_take {q : List Tx} {k : Nat} {x : Tx} (m : Int) (hx : q[k]? = some x) : aboveT (q.take (k + 1)) m = aboveT (q.take k) m ++ (if m < (x.1 : Int) then [x] else []) := by
  unfold aboveT
  rw [List.take_add_one, hx, List.filter_append]
  congr 1
  by_cases h : m < (x.1 : Int) <;> simp [h]
set_option maxRecDepth 100000 in
set_option maxHeartbeats 2000000 in
theorem above_any (A : Option Addr) (n cap : Nat) (q : List Tx) (m : Int) (w : World) (hrow : RowT w (.slice A n cap) q) (hn : n = q.length) (hc : n ≤ 1000000) :
    Calls Try.prog 28 #[.slice A n cap, .int .i64 m] w fun e w' => ∃ A' cap', e = .returned (.slice A' (aboveT q m).length cap') ∧ RowT w' (.slice A' (aboveT q m).length cap') (aboveT q m) ∧ (∀ g, (Value.slice A' (aboveT q m).length cap').ownBlock = some g → w.heap.size ≤ g) ∧ Below w.heap.size w w' := by
  have HA := Lib.hid (fun w' (b : Below w.heap.size w w') i x => RowT.at (ownsRow_below hrow b) hn (i := i) (x := x))
  have HN := Lib.hid hn
  have HE := Lib.hid (RowT.empty w)
  clear hrow hn
  go_enter Try.func28, Try.ntmps28
  go_wp2_with fail
  go_loopw [5, 6] (fun v iv wr => ∃ (k j cap' : Nat) (A' : Option Addr), k ≤ n ∧ j ≤ k ∧ j ≤ cap' ∧ cap' ≤ 9223372036854775807 ∧ iv = .int .i64 k ∧ v = .slice A' j cap' ∧ Hid (j = (aboveT (q.take k) m).length) ∧ Hid (RowT wr (.slice A' j cap') (aboveT (q.take k) m)) ∧ Hid (∀ g, (Value.slice A' j cap').ownBlock = some g → w.heap.size ≤ g) ∧ Hid (Below w.heap.size w wr)) (fun _ iv _ => n - (intOf iv).toNat)
  case atStart => exact ⟨0, 0, 0, _, by omega, by omega, by omega, by omega, rfl, rfl, Lib.hid rfl, HE, Lib.hid (fun g e => by cases e; exact Nat.le_refl _), Lib.hid (bnew w _)⟩
  case round =>
    obtain ⟨k, j, cap', A', hk, hj, hjc, hcc, rfl, rfl, HJ, HR, HF, HB⟩ := hrel
    clear HE
    by_cases hlt : k < n
    · obtain ⟨x, hx⟩ : ∃ x, q[k]? = some x := ⟨_, List.getElem?_eq_getElem (by rw [← HN.out]; exact hlt)⟩
      obtain ⟨g, rfl, _, hgl, d0, d1⟩ := HA.out wr HB.out k x hx
      have HT := Lib.hid (aboveT_take m hx)
      by_cases h1 : m < (x.1 : Int)
      · have HW : Hid ((wr.alloc (.cells #[.int .i64 (x.1 : Int), .string x.2] 68)).ownsRow 0 68 2 (.slice A' j cap') j (flatT (aboveT (q.take k) m))) := Lib.hid (by
          have h := HR.out
          unfold RowT at h
          rw [← HJ.out] at h
          exact ownsRow_below h (bnew wr _))
        have HNew := Lib.hid (news_at (Has.new wr (.cells #[.int .i64 (x.1 : Int), .string x.2] 68)))
        rw [if_pos h1] at HT
        clear hx
        go_wp2_with (at_builtin; refine grow_own textElem rfl (.tmp 21) (.tmp 26) rfl _ (.slice A' j cap') j (flatT (aboveT (q.take k) m)) rfl HW.out (some ⟨wr.heap.size, 0, none⟩) 1 1 [.int .i64 (x.1 : Int), .string x.2] rfl rfl (.inr ⟨_, rfl, HNew.out⟩) (by simp [Value.oneCell']) (by omega) (by omega) ?_; intro v6 w6 R6 g6 f6; obtain ⟨A6, cap6, rfl, h61, h62⟩ := ownsRow_form R6; have R6' := Lib.hid R6; have g6' := Lib.hid g6; have f6' := Lib.hid f6; clear R6 g6 f6)
        have HB6 : Hid (Below w.heap.size w w6) := Lib.hid ((HB.out.trans ((bnew wr (.cells #[.int .i64 (x.1 : Int), .string x.2] 68)).mono HB.out.size)).trans ((Kept.grown (S := fun k => w.heap.size ≤ k) g6'.out (fun i e => HF.out i e)).below (fun _ h => h) (by have := HB.out.size; simp; omega)))
        have HF6 : Hid (∀ i, (Value.slice A6 (j + 1) cap6).ownBlock = some i → w.heap.size ≤ i) := Lib.hid (fun i e => by
          rcases f6'.out i e with h3 | h3
          · exact HF.out i h3
          · have := HB.out.size; simp at h3; omega)
        have HJ6 : Hid (j + 1 = (aboveT (q.take (k + 1)) m).length) := Lib.hid (by rw [HT.out, List.length_append, ← HJ.out]; rfl)
        have HR6 : Hid (RowT w6 (.slice A6 (j + 1) cap6) (aboveT (q.take (k + 1)) m)) := Lib.hid (by
          unfold RowT
          rw [← HJ6.out, HT.out, flatT_append]
          exact R6'.out)
        clear R6' g6' f6' HW HNew
        go_roundw
        case rel => exact ⟨k + 1, j + 1, cap6, A6, by omega, by omega, h61, h62, by go_num, rfl, HJ6, HR6, HF6, HB6⟩
        case measure => simp [intOf]; omega
      · rw [if_neg h1, List.append_nil] at HT
        have HJ6 : Hid (j = (aboveT (q.take (k + 1)) m).length) := Lib.hid (by rw [HT.out]; exact HJ.out)
        have HR6 : Hid (RowT wr (.slice A' j cap') (aboveT (q.take (k + 1)) m)) := Lib.hid (by rw [HT.out]; exact HR.out)
        clear hx HT HJ HR
        go_wp2_with fail
        go_roundw
        case rel => exact ⟨k + 1, j, cap', A', by omega, by omega, hjc, hcc, by go_num, rfl, HJ6, HR6, HF, HB⟩
        case measure => simp [intOf]; omega
    · obtain rfl : k = n := by omega
      have HZ : Hid (q.take k = q) := Lib.hid (List.take_of_length_le (by rw [← HN.out]; omega))
      rw [HZ.out] at HJ HR
      clear HA
      go_wp2_with fail
      go_ret
      rw [← HJ.out]
      exact ⟨A', cap', rfl, HR.out, HF.out, HB.out⟩
end Go.Proofs.Ytgabonacpoimfaa
