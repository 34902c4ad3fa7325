/-
  Datagrams under way, in plain words: ways, places, what a pull and a copy leave.
-/
import Derived.Test.YtkdopflnaeejeaaGram
namespace Go.Proofs.Ytkdopflnaeejeaa
open Go.RowKit
set_option linter.unusedSimpArgs false

/-- Whether a datagram goes on a way. -/
def onWay (c : Int) (u : Bool) (x : Gr) : Bool := x.cl == c && x.up == u
/-- The places of a way's datagrams, counted from o. -/
def idxF (c : Int) (u : Bool) : Nat → List Gr → List Nat
  | _, [] => []
  | o, x :: l => if onWay c u x then o :: idxF c u (o + 1) l else idxF c u (o + 1) l
theorem idxF_snoc (c : Int) (u : Bool) (x : Gr) : ∀ (l : List Gr) (o : Nat), idxF c u o (l ++ [x]) = idxF c u o l ++ (if onWay c u x then [o + l.length] else [])
  | [], o => by simp only [List.nil_append, idxF, List.length_nil, Nat.add_zero]
  | y :: l, o => by
    have ih := idxF_snoc c u x l (o + 1)
    simp only [List.cons_append, idxF, ih, List.length_cons]
    have e : o + 1 + l.length = o + (l.length + 1) := by omega
    rw [e]
    by_cases h : onWay c u y = true
    · rw [if_pos h, if_pos h]; rfl
    · rw [if_neg h, if_neg h]
theorem idxF_take (c : Int) (u : Bool) (l : List Gr) (k : Nat) (x : Gr) (h : l[k]? = some x) : idxF c u 0 (l.take (k + 1)) = idxF c u 0 (l.take k) ++ (if onWay c u x then [k] else []) := by
  have hk : k < l.length := (List.getElem?_eq_some_iff.1 h).1
  rw [List.take_add_one, h]
  have := idxF_snoc c u x (l.take k) 0
  rw [show (l.take k).length = k by simp; omega, Nat.zero_add] at this
  exact this
theorem idxF_len (c : Int) (u : Bool) : ∀ (l : List Gr) (o : Nat), (idxF c u o l).length = (l.filter (onWay c u)).length
  | [], _ => rfl
  | x :: l, o => by
    simp only [idxF, List.filter_cons]
    by_cases h : onWay c u x = true
    · rw [if_pos h, if_pos h, List.length_cons, List.length_cons, idxF_len c u l]
    · rw [if_neg h, if_neg h, idxF_len c u l]
theorem idxF_lt (c : Int) (u : Bool) : ∀ (l : List Gr) (o i : Nat), i ∈ idxF c u o l → o ≤ i ∧ i < o + l.length
  | [], _, _, h => by simp [idxF] at h
  | x :: l, o, i, h => by
    simp only [idxF] at h
    by_cases hx : onWay c u x = true
    · rw [if_pos hx, List.mem_cons] at h
      rcases h with rfl | h
      · simp
      · have := idxF_lt c u l (o + 1) i h; simp only [List.length_cons]; omega
    · rw [if_neg hx] at h
      have := idxF_lt c u l (o + 1) i h; simp only [List.length_cons]; omega
/-- What stands at a way's place number k, and what is left of the way behind its removal. -/
theorem idxF_at (c : Int) (u : Bool) : ∀ (l : List Gr) (o k i : Nat), (idxF c u o l)[k]? = some i →
    o ≤ i ∧ l[i - o]? = (l.filter (onWay c u))[k]? ∧ k < (l.filter (onWay c u)).length ∧ ((l.eraseIdx (i - o)).filter (onWay c u)) = (l.filter (onWay c u)).eraseIdx k
  | [], _, _, _, h => by simp [idxF] at h
  | x :: l, o, k, i, h => by
    simp only [idxF] at h
    by_cases hx : onWay c u x = true
    · rw [if_pos hx] at h
      cases k with
      | zero =>
        obtain rfl : o = i := by simpa using h
        simp [List.filter_cons, hx]
      | succ k =>
        have h' : (idxF c u (o + 1) l)[k]? = some i := by simpa using h
        obtain ⟨a1, a2, a3, a4⟩ := idxF_at c u l (o + 1) k i h'
        have e : i - o = (i - (o + 1)) + 1 := by omega
        refine ⟨by omega, ?_, ?_, ?_⟩
        · rw [e, List.filter_cons, if_pos hx]; simpa using a2
        · rw [List.filter_cons, if_pos hx]; simpa using a3
        · rw [e, List.filter_cons, if_pos hx, List.eraseIdx_cons_succ, List.eraseIdx_cons_succ, List.filter_cons, if_pos hx, a4]
    · rw [if_neg hx] at h
      obtain ⟨a1, a2, a3, a4⟩ := idxF_at c u l (o + 1) k i h
      have e : i - o = (i - (o + 1)) + 1 := by omega
      refine ⟨by omega, ?_, ?_, ?_⟩
      · rw [e, List.filter_cons, if_neg hx]; simpa using a2
      · rw [List.filter_cons, if_neg hx]; exact a3
      · rw [e, List.filter_cons, if_neg hx, List.eraseIdx_cons_succ, List.filter_cons, if_neg hx, a4]
/-- Where a way's datagram number k stands; -1: there is none. -/
def plc (c : Int) (u : Bool) (l : List Gr) (k : Int) : Int := if 0 ≤ k then (match (idxF c u 0 l)[k.toNat]? with
  | some i => (i : Int)
  | Option.none => -1) else -1
theorem idxF_append (c : Int) (u : Bool) : ∀ (a b : List Gr) (o : Nat), idxF c u o (a ++ b) = idxF c u o a ++ idxF c u (o + a.length) b
  | [], b, o => by simp [idxF]
  | x :: a, b, o => by
    have ih := idxF_append c u a b (o + 1)
    have e : o + 1 + a.length = o + (a.length + 1) := by omega
    simp only [List.cons_append, idxF, ih, List.length_cons, e]
    by_cases h : onWay c u x = true
    · rw [if_pos h, if_pos h]; rfl
    · rw [if_neg h, if_neg h]
theorem idxF_pre (c : Int) (u : Bool) (q : List Gr) (k : Nat) : idxF c u 0 (q.take k) <+: idxF c u 0 q := by
  refine ⟨idxF c u (0 + (q.take k).length) (q.drop k), ?_⟩
  rw [← idxF_append, List.take_append_drop]
theorem plc_here {c : Int} {u : Bool} {q : List Gr} {k : Nat} {ini : List Nat} {x : Nat} (h : idxF c u 0 (q.take k) = ini ++ [x]) : plc c u q (ini.length : Int) = (x : Int) := by
  obtain ⟨r, hr⟩ := idxF_pre c u q k
  rw [h] at hr
  have hx : (idxF c u 0 q)[ini.length]? = some x := by rw [← hr]; simp
  unfold plc
  rw [if_pos (by omega), Int.toNat_natCast, hx]
/-- How many there are on a way. -/
def cnt (c : Int) (u : Bool) (l : List Gr) : Nat := (l.filter (onWay c u)).length
theorem plc_some {c : Int} {u : Bool} {l : List Gr} {k : Int} (h : 0 ≤ plc c u l k) : ∃ (i : Nat) (x : Gr), plc c u l k = (i : Int) ∧ l[i]? = some x ∧ 0 ≤ k ∧ (l.filter (onWay c u))[k.toNat]? = some x ∧ onWay c u x = true ∧ (l.eraseIdx i).filter (onWay c u) = (l.filter (onWay c u)).eraseIdx k.toNat := by
  unfold plc at h ⊢
  by_cases hk : 0 ≤ k
  · rw [if_pos hk] at h ⊢
    cases hi : (idxF c u 0 l)[k.toNat]? with
    | none => rw [hi] at h; simp at h
    | some i =>
      obtain ⟨_, a2, a3, a4⟩ := idxF_at c u l 0 _ _ hi
      obtain ⟨x, hx⟩ : ∃ x, (l.filter (onWay c u))[k.toNat]? = some x := ⟨_, List.getElem?_eq_getElem a3⟩
      have hm := List.mem_of_getElem? hx
      exact ⟨i, x, rfl, by rw [← hx]; simpa using a2, hk, hx, (List.mem_filter.1 hm).2, by simpa using a4⟩
  · rw [if_neg hk] at h; omega
theorem plc_none {c : Int} {u : Bool} {l : List Gr} {k : Int} : plc c u l k < 0 ↔ (k < 0 ∨ (cnt c u l : Int) ≤ k) := by
  unfold plc cnt
  by_cases hk : 0 ≤ k
  · rw [if_pos hk]
    cases hi : (idxF c u 0 l)[k.toNat]? with
    | none =>
      have := List.getElem?_eq_none_iff.1 hi
      rw [idxF_len] at this
      simp only; omega
    | some i =>
      have h1 := (List.getElem?_eq_some_iff.1 hi).1
      rw [idxF_len] at h1
      simp only; omega
  · rw [if_neg hk]; omega
theorem plc_neg {c : Int} {u : Bool} {l : List Gr} {k : Int} (h : plc c u l k < 0) : plc c u l k = -1 := by
  unfold plc at h ⊢
  by_cases hk : 0 ≤ k
  · rw [if_pos hk] at h ⊢
    cases hi : (idxF c u 0 l)[k.toNat]? with
    | none => rfl
    | some i => rw [hi] at h; simp only at h; omega
  · rw [if_neg hk]
theorem plc_lt {c : Int} {u : Bool} {l : List Gr} {k : Int} : plc c u l k < l.length ∧ -1 ≤ plc c u l k := by
  unfold plc
  by_cases hk : 0 ≤ k
  · rw [if_pos hk]
    cases hi : (idxF c u 0 l)[k.toNat]? with
    | none => simp only; omega
    | some i =>
      have := idxF_lt c u l 0 i (List.mem_of_getElem? hi)
      simp only; omega
  · rw [if_neg hk]; omega
/-- Another way sees nothing of a removal. -/
theorem erase_other {c : Int} {u : Bool} {x : Gr} : ∀ (l : List Gr) (i : Nat), l[i]? = some x → onWay c u x = false → (l.eraseIdx i).filter (onWay c u) = l.filter (onWay c u)
  | [], _, h, _ => by simp at h
  | y :: l, 0, h, hx => by
    obtain rfl : y = x := by simpa using h
    simp [List.filter_cons, hx]
  | y :: l, i + 1, h, hx => by
    have := erase_other l i (by simpa using h) hx
    simp only [List.eraseIdx_cons_succ, List.filter_cons, this]
/-- What a put leaves, and its answer. -/
def putG (l : List Gr) (x : Gr) : List Gr × Int :=
  if x.cl < 1 ∨ 8 < x.cl then (l, 1) else if 64 ≤ cnt x.cl x.up l then (l, 11) else (l ++ [x], 0)
/-- What a pull leaves, and its answer. -/
def pullG (l : List Gr) (i : Int) : List Gr × Gr × Bool :=
  if 0 ≤ i then (match l[i.toNat]? with
    | some x => (l.eraseIdx i.toNat, x, true)
    | Option.none => (l, Gr.none, false)) else (l, Gr.none, false)
def pickG (l : List Gr) (c : Int) (u : Bool) (k : Int) : List Gr × Gr × Bool := pullG l (plc c u l k)
def copyG (l : List Gr) (c : Int) (u : Bool) (k : Int) : List Gr × Bool :=
  if 0 ≤ plc c u l k then (match l[(plc c u l k).toNat]? with
    | some x => ((putG l x).1, (putG l x).2 == 0)
    | Option.none => (l, false)) else (l, false)
def clearG (l : List Gr) (c : Int) : List Gr × Nat := (l.filter (fun x => !(x.cl == c)), l.length - (l.filter (fun x => !(x.cl == c))).length)
theorem putG_len (l : List Gr) (x : Gr) : (putG l x).1.length ≤ l.length + 1 := by
  unfold putG; split
  · simp
  · split <;> simp
theorem pullG_len (l : List Gr) (i : Int) : (pullG l i).1.length ≤ l.length := by
  unfold pullG; split
  · split
    · simp only; rw [List.length_eraseIdx]; split <;> omega
    · simp
  · simp
end Go.Proofs.Ytkdopflnaeejeaa
