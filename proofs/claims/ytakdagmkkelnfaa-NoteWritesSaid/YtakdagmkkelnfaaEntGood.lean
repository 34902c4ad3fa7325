/-
  Which entries can be: both answers.
-/
import Derived.Test.YtakdagmkkelnfaaEntA
/-! Which entries can be: both answers. -/
namespace Go.Proofs.Ytakdagmkkelnfaa
open Go.RowKit Go.Sort

def Ent.known (x : Ent) : Bool := knownB x.cl x.ep x.n
def Ent.lsnB (x : Ent) : Bool := decide (1 ≤ x.lsn ∧ x.lsn ≤ 1099511627776)
def Ent.prevB (x : Ent) : Bool := decide (0 ≤ x.prev ∧ x.prev ≤ x.lsn - 1)
def Ent.pageB (x : Ent) : Bool := decide (0 ≤ x.page ∧ x.page ≤ 1023)
def Ent.placeB (x : Ent) : Bool := decide (0 ≤ x.slot ∧ x.slot ≤ 31)
def Ent.changeB (x : Ent) : Bool := x.pageB && (x.placeB && (slotB x.wu x.wd && slotB x.iu x.ix))
def Ent.nextB (x : Ent) : Bool := decide (0 ≤ x.next ∧ x.next ≤ x.prev)
/-- Whether nothing stands where only changes have something. -/
def Ent.plainB (x : Ent) : Bool := decide (x.page = 0 ∧ x.slot = 0 ∧ x.next = 0 ∧ x.wu = false ∧ x.iu = false) && (x.wd.toList.isEmpty && x.ix.toList.isEmpty)
def Ent.good (x : Ent) : Bool :=
  (x.known && (x.lsnB && x.prevB)) &&
    (if x.kind = 1 then x.changeB && decide (x.next = 0) else if x.kind = 2 then x.changeB && x.nextB else if x.kind = 3 ∨ x.kind = 4 then x.plainB else false)

theorem entEqBin (x y : Ent) (w : World) : (binOp .eql 64 x.val y.val).run Try.prog w = .ok (.bool (x.eqB y)) w := by
  have h := entEqIn 9997 x y w
  obtain ⟨k, c, e, n, l, p, pg, sl, wu, wd, iu, ix, nx⟩ := x
  obtain ⟨k', c', e', n', l', p', pg', sl', wu', wd', iu', ix', nx'⟩ := y
  simp only [Ent.val, Ent.row] at h ⊢
  rw [run_eql_struct, h]
  rfl
theorem plain_eqB (x : Ent) : x.eqB x.plain = x.plainB := by
  have e : ∀ d : ByteArray, (d.toList == (⟨#[]⟩ : ByteArray).toList) = d.toList.isEmpty := by
    intro d
    have : (⟨#[]⟩ : ByteArray).toList = [] := by decide +kernel
    rw [this]
    cases d.toList <;> rfl
  simp only [Ent.eqB, Ent.plain, Ent.plainB, e]
  simp only [beq_self_eq_true, Bool.true_and, Bool.and_true]
  rw [Bool.eq_iff_iff]
  simp
  constructor <;> (rintro h; simp [h])
/-- The cells of an entry that lies in a block of its own. -/
structure EntAt (w : World) (b : Nat) (k c e n l p pg sl : Int) (wu : Bool) (wd : ByteArray) (iu : Bool) (ix : ByteArray) (nx : Int) : Prop where
  a0 : w.cell? ⟨b, 0, none⟩ = some (.int .i64 k)
  a1 : w.cell? ⟨b, 1, none⟩ = some (.int .i64 c)
  a2 : w.cell? ⟨b, 2, none⟩ = some (.int .i64 e)
  a3 : w.cell? ⟨b, 3, none⟩ = some (.int .i64 n)
  a4 : w.cell? ⟨b, 4, none⟩ = some (.int .i64 l)
  a5 : w.cell? ⟨b, 5, none⟩ = some (.int .i64 p)
  a6 : w.cell? ⟨b, 6, none⟩ = some (.int .i64 pg)
  a7 : w.cell? ⟨b, 7, none⟩ = some (.int .i64 sl)
  a8 : w.cell? ⟨b, 8, none⟩ = some (.bool wu)
  a9 : w.cell? ⟨b, 9, none⟩ = some (.string wd)
  a10 : w.cell? ⟨b, 10, none⟩ = some (.bool iu)
  a11 : w.cell? ⟨b, 11, none⟩ = some (.string ix)
  a12 : w.cell? ⟨b, 12, none⟩ = some (.int .i64 nx)
theorem EntAt.of {w : World} {b : Nat} {t : TypeId} {fr : Nat × Nat} {k c e n l p pg sl : Int} {wu : Bool} {wd : ByteArray} {iu : Bool} {ix : ByteArray} {nx : Int}
    (h : Has w b (.cells #[.int .i64 k, .int .i64 c, .int .i64 e, .int .i64 n, .int .i64 l, .int .i64 p, .int .i64 pg, .int .i64 sl, .bool wu, .string wd, .bool iu, .string ix, .int .i64 nx] t fr)) :
    EntAt w b k c e n l p pg sl wu wd iu ix nx :=
  ⟨h.cell 0 _ rfl, h.cell 1 _ rfl, h.cell 2 _ rfl, h.cell 3 _ rfl, h.cell 4 _ rfl, h.cell 5 _ rfl, h.cell 6 _ rfl, h.cell 7 _ rfl, h.cell 8 _ rfl, h.cell 9 _ rfl, h.cell 10 _ rfl, h.cell 11 _ rfl, h.cell 12 _ rfl⟩

set_option maxRecDepth 100000 in
set_option maxHeartbeats 4000000 in
theorem good_one (c e n l p pg sl : Int) (wu : Bool) (wd : ByteArray) (iu : Bool) (ix : ByteArray) (nx : Int) (b3 b4 b5 b6 b7 : Bool) (C0 : ∀ w, Calls Try.prog 31 #[.agg #[.int .i64 c, .int .i64 e, .int .i64 n]] w fun r w' => r = .returned (.bool true) ∧ Below w.heap.size w w') (C1 : ∀ w, Calls Try.prog 53 #[.int .i64 l, .int .i64 1, .int .i64 1099511627776] w fun e w' => e = .returned (.bool true) ∧ w' = w) (hl : 1 ≤ l ∧ l ≤ 1099511627776) (C2 : ∀ w, Calls Try.prog 53 #[.int .i64 p, .int .i64 0, .int .i64 (l - 1)] w fun e w' => e = .returned (.bool true) ∧ w' = w) (C3 : ∀ w, Calls Try.prog 53 #[.int .i64 pg, .int .i64 0, .int .i64 1023] w fun e w' => e = .returned (.bool b3) ∧ w' = w) (C4 : ∀ w, Calls Try.prog 53 #[.int .i64 sl, .int .i64 0, .int .i64 31] w fun e w' => e = .returned (.bool b4) ∧ w' = w) (C5 : ∀ w, Calls Try.prog 54 #[.agg #[.bool wu, .string wd]] w fun r w' => r = .returned (.bool b5) ∧ Below w.heap.size w w') (C6 : ∀ w, Calls Try.prog 54 #[.agg #[.bool iu, .string ix]] w fun r w' => r = .returned (.bool b6) ∧ Below w.heap.size w w') (C7 : ∀ w, Calls Try.prog 53 #[.int .i64 nx, .int .i64 0, .int .i64 p] w fun e w' => e = .returned (.bool b7) ∧ w' = w)  (w : World) :
    Calls Try.prog 28 #[.agg #[.int .i64 1, .int .i64 c, .int .i64 e, .int .i64 n, .int .i64 l, .int .i64 p, .int .i64 pg, .int .i64 sl, .bool wu, .string wd, .bool iu, .string ix, .int .i64 nx]] w fun r w' => r = .returned (.bool ((b3 && (b4 && (b5 && b6))) && decide (nx = 0))) ∧ Below w.heap.size w w' := by
  have C0 := Lib.hid C0; have C1 := Lib.hid C1; have C2 := Lib.hid C2; have C3 := Lib.hid C3; have C4 := Lib.hid C4; have C5 := Lib.hid C5; have C6 := Lib.hid C6; have C7 := Lib.hid C7
  obtain ⟨G, hG⟩ : ∃ G, ((b3 && (b4 && (b5 && b6))) && decide (nx = 0)) = G := ⟨_, rfl⟩
  rw [hG]
  have HG := Lib.hid hG
  clear hG
  cases b3
  case false =>
    go_enter Try.func28, Try.ntmps28
    go_wp2_with fail
    refine (C0.out _).mono ?_
    rintro e w1 ⟨rfl, g1⟩
    have H1 := (Has.new w _).below g1
    obtain ⟨a0, a1, a2, a3, a4, a5, a6, a7, a8, a9, a10, a11, a12⟩ := EntAt.of H1
    go_wp2_with (go_at_call 53; first | ((with_reducible refine (C1.out _).mono ?_); rintro e w2 ⟨rfl, rfl⟩) | ((with_reducible refine (C2.out _).mono ?_); rintro e w2 ⟨rfl, rfl⟩) | ((with_reducible refine (C3.out _).mono ?_); rintro e w2 ⟨rfl, rfl⟩) | ((with_reducible refine (C4.out _).mono ?_); rintro e w2 ⟨rfl, rfl⟩))
    go_ret
    exact ⟨by rw [← HG.out] <;> simp <;> rfl, bup (bnew _ _) g1⟩
  cases b4
  case false =>
    go_enter Try.func28, Try.ntmps28
    go_wp2_with fail
    refine (C0.out _).mono ?_
    rintro e w1 ⟨rfl, g1⟩
    have H1 := (Has.new w _).below g1
    obtain ⟨a0, a1, a2, a3, a4, a5, a6, a7, a8, a9, a10, a11, a12⟩ := EntAt.of H1
    go_wp2_with (go_at_call 53; first | ((with_reducible refine (C1.out _).mono ?_); rintro e w2 ⟨rfl, rfl⟩) | ((with_reducible refine (C2.out _).mono ?_); rintro e w2 ⟨rfl, rfl⟩) | ((with_reducible refine (C3.out _).mono ?_); rintro e w2 ⟨rfl, rfl⟩) | ((with_reducible refine (C4.out _).mono ?_); rintro e w2 ⟨rfl, rfl⟩))
    go_ret
    exact ⟨by rw [← HG.out] <;> simp <;> rfl, bup (bnew _ _) g1⟩
  cases b5
  case false =>
    go_enter Try.func28, Try.ntmps28
    go_wp2_with fail
    refine (C0.out _).mono ?_
    rintro e w1 ⟨rfl, g1⟩
    have H1 := (Has.new w _).below g1
    obtain ⟨a0, a1, a2, a3, a4, a5, a6, a7, a8, a9, a10, a11, a12⟩ := EntAt.of H1
    go_wp2_with (go_at_call 53; first | ((with_reducible refine (C1.out _).mono ?_); rintro e w2 ⟨rfl, rfl⟩) | ((with_reducible refine (C2.out _).mono ?_); rintro e w2 ⟨rfl, rfl⟩) | ((with_reducible refine (C3.out _).mono ?_); rintro e w2 ⟨rfl, rfl⟩) | ((with_reducible refine (C4.out _).mono ?_); rintro e w2 ⟨rfl, rfl⟩))
    refine (C5.out _).mono ?_
    rintro e w2 ⟨rfl, g2⟩
    have H2 := H1.below g2
    clear a0 a1 a2 a3 a4 a5 a6 a7 a8 a9 a10 a11 a12
    obtain ⟨a0, a1, a2, a3, a4, a5, a6, a7, a8, a9, a10, a11, a12⟩ := EntAt.of H2
    go_wp2_with fail
    go_ret
    exact ⟨by rw [← HG.out] <;> simp <;> rfl, bup (bup (bnew _ _) g1) g2⟩
  cases b6
  case false =>
    go_enter Try.func28, Try.ntmps28
    go_wp2_with fail
    refine (C0.out _).mono ?_
    rintro e w1 ⟨rfl, g1⟩
    have H1 := (Has.new w _).below g1
    obtain ⟨a0, a1, a2, a3, a4, a5, a6, a7, a8, a9, a10, a11, a12⟩ := EntAt.of H1
    go_wp2_with (go_at_call 53; first | ((with_reducible refine (C1.out _).mono ?_); rintro e w2 ⟨rfl, rfl⟩) | ((with_reducible refine (C2.out _).mono ?_); rintro e w2 ⟨rfl, rfl⟩) | ((with_reducible refine (C3.out _).mono ?_); rintro e w2 ⟨rfl, rfl⟩) | ((with_reducible refine (C4.out _).mono ?_); rintro e w2 ⟨rfl, rfl⟩))
    refine (C5.out _).mono ?_
    rintro e w2 ⟨rfl, g2⟩
    have H2 := H1.below g2
    clear a0 a1 a2 a3 a4 a5 a6 a7 a8 a9 a10 a11 a12
    obtain ⟨a0, a1, a2, a3, a4, a5, a6, a7, a8, a9, a10, a11, a12⟩ := EntAt.of H2
    go_wp2_with fail
    refine (C6.out _).mono ?_
    rintro e w3 ⟨rfl, g3⟩
    have H3 := H2.below g3
    clear a0 a1 a2 a3 a4 a5 a6 a7 a8 a9 a10 a11 a12
    obtain ⟨a0, a1, a2, a3, a4, a5, a6, a7, a8, a9, a10, a11, a12⟩ := EntAt.of H3
    go_wp2_with fail
    go_ret
    exact ⟨by rw [← HG.out] <;> simp <;> rfl, bup (bup (bup (bnew _ _) g1) g2) g3⟩
  case true =>
    go_enter Try.func28, Try.ntmps28
    go_wp2_with fail
    refine (C0.out _).mono ?_
    rintro e w1 ⟨rfl, g1⟩
    have H1 := (Has.new w _).below g1
    obtain ⟨a0, a1, a2, a3, a4, a5, a6, a7, a8, a9, a10, a11, a12⟩ := EntAt.of H1
    go_wp2_with (go_at_call 53; first | ((with_reducible refine (C1.out _).mono ?_); rintro e w2 ⟨rfl, rfl⟩) | ((with_reducible refine (C2.out _).mono ?_); rintro e w2 ⟨rfl, rfl⟩) | ((with_reducible refine (C3.out _).mono ?_); rintro e w2 ⟨rfl, rfl⟩) | ((with_reducible refine (C4.out _).mono ?_); rintro e w2 ⟨rfl, rfl⟩))
    refine (C5.out _).mono ?_
    rintro e w2 ⟨rfl, g2⟩
    have H2 := H1.below g2
    clear a0 a1 a2 a3 a4 a5 a6 a7 a8 a9 a10 a11 a12
    obtain ⟨a0, a1, a2, a3, a4, a5, a6, a7, a8, a9, a10, a11, a12⟩ := EntAt.of H2
    go_wp2_with fail
    refine (C6.out _).mono ?_
    rintro e w3 ⟨rfl, g3⟩
    have H3 := H2.below g3
    clear a0 a1 a2 a3 a4 a5 a6 a7 a8 a9 a10 a11 a12
    obtain ⟨a0, a1, a2, a3, a4, a5, a6, a7, a8, a9, a10, a11, a12⟩ := EntAt.of H3
    go_wp2_with fail
    go_ret
    exact ⟨by rw [← HG.out] <;> simp <;> rfl, bup (bup (bup (bnew _ _) g1) g2) g3⟩
set_option maxRecDepth 100000 in
set_option maxHeartbeats 4000000 in
theorem good_two (c e n l p pg sl : Int) (wu : Bool) (wd : ByteArray) (iu : Bool) (ix : ByteArray) (nx : Int) (b3 b4 b5 b6 b7 : Bool) (C0 : ∀ w, Calls Try.prog 31 #[.agg #[.int .i64 c, .int .i64 e, .int .i64 n]] w fun r w' => r = .returned (.bool true) ∧ Below w.heap.size w w') (C1 : ∀ w, Calls Try.prog 53 #[.int .i64 l, .int .i64 1, .int .i64 1099511627776] w fun e w' => e = .returned (.bool true) ∧ w' = w) (hl : 1 ≤ l ∧ l ≤ 1099511627776) (C2 : ∀ w, Calls Try.prog 53 #[.int .i64 p, .int .i64 0, .int .i64 (l - 1)] w fun e w' => e = .returned (.bool true) ∧ w' = w) (C3 : ∀ w, Calls Try.prog 53 #[.int .i64 pg, .int .i64 0, .int .i64 1023] w fun e w' => e = .returned (.bool b3) ∧ w' = w) (C4 : ∀ w, Calls Try.prog 53 #[.int .i64 sl, .int .i64 0, .int .i64 31] w fun e w' => e = .returned (.bool b4) ∧ w' = w) (C5 : ∀ w, Calls Try.prog 54 #[.agg #[.bool wu, .string wd]] w fun r w' => r = .returned (.bool b5) ∧ Below w.heap.size w w') (C6 : ∀ w, Calls Try.prog 54 #[.agg #[.bool iu, .string ix]] w fun r w' => r = .returned (.bool b6) ∧ Below w.heap.size w w') (C7 : ∀ w, Calls Try.prog 53 #[.int .i64 nx, .int .i64 0, .int .i64 p] w fun e w' => e = .returned (.bool b7) ∧ w' = w)  (w : World) :
    Calls Try.prog 28 #[.agg #[.int .i64 2, .int .i64 c, .int .i64 e, .int .i64 n, .int .i64 l, .int .i64 p, .int .i64 pg, .int .i64 sl, .bool wu, .string wd, .bool iu, .string ix, .int .i64 nx]] w fun r w' => r = .returned (.bool ((b3 && (b4 && (b5 && b6))) && b7)) ∧ Below w.heap.size w w' := by
  have C0 := Lib.hid C0; have C1 := Lib.hid C1; have C2 := Lib.hid C2; have C3 := Lib.hid C3; have C4 := Lib.hid C4; have C5 := Lib.hid C5; have C6 := Lib.hid C6; have C7 := Lib.hid C7
  obtain ⟨G, hG⟩ : ∃ G, ((b3 && (b4 && (b5 && b6))) && b7) = G := ⟨_, rfl⟩
  rw [hG]
  have HG := Lib.hid hG
  clear hG
  cases b3
  case false =>
    go_enter Try.func28, Try.ntmps28
    go_wp2_with fail
    refine (C0.out _).mono ?_
    rintro e w1 ⟨rfl, g1⟩
    have H1 := (Has.new w _).below g1
    obtain ⟨a0, a1, a2, a3, a4, a5, a6, a7, a8, a9, a10, a11, a12⟩ := EntAt.of H1
    go_wp2_with (go_at_call 53; first | ((with_reducible refine (C1.out _).mono ?_); rintro e w2 ⟨rfl, rfl⟩) | ((with_reducible refine (C2.out _).mono ?_); rintro e w2 ⟨rfl, rfl⟩) | ((with_reducible refine (C3.out _).mono ?_); rintro e w2 ⟨rfl, rfl⟩) | ((with_reducible refine (C4.out _).mono ?_); rintro e w2 ⟨rfl, rfl⟩))
    go_ret
    exact ⟨by rw [← HG.out] <;> simp <;> rfl, bup (bnew _ _) g1⟩
  cases b4
  case false =>
    go_enter Try.func28, Try.ntmps28
    go_wp2_with fail
    refine (C0.out _).mono ?_
    rintro e w1 ⟨rfl, g1⟩
    have H1 := (Has.new w _).below g1
    obtain ⟨a0, a1, a2, a3, a4, a5, a6, a7, a8, a9, a10, a11, a12⟩ := EntAt.of H1
    go_wp2_with (go_at_call 53; first | ((with_reducible refine (C1.out _).mono ?_); rintro e w2 ⟨rfl, rfl⟩) | ((with_reducible refine (C2.out _).mono ?_); rintro e w2 ⟨rfl, rfl⟩) | ((with_reducible refine (C3.out _).mono ?_); rintro e w2 ⟨rfl, rfl⟩) | ((with_reducible refine (C4.out _).mono ?_); rintro e w2 ⟨rfl, rfl⟩))
    go_ret
    exact ⟨by rw [← HG.out] <;> simp <;> rfl, bup (bnew _ _) g1⟩
  cases b5
  case false =>
    go_enter Try.func28, Try.ntmps28
    go_wp2_with fail
    refine (C0.out _).mono ?_
    rintro e w1 ⟨rfl, g1⟩
    have H1 := (Has.new w _).below g1
    obtain ⟨a0, a1, a2, a3, a4, a5, a6, a7, a8, a9, a10, a11, a12⟩ := EntAt.of H1
    go_wp2_with (go_at_call 53; first | ((with_reducible refine (C1.out _).mono ?_); rintro e w2 ⟨rfl, rfl⟩) | ((with_reducible refine (C2.out _).mono ?_); rintro e w2 ⟨rfl, rfl⟩) | ((with_reducible refine (C3.out _).mono ?_); rintro e w2 ⟨rfl, rfl⟩) | ((with_reducible refine (C4.out _).mono ?_); rintro e w2 ⟨rfl, rfl⟩))
    refine (C5.out _).mono ?_
    rintro e w2 ⟨rfl, g2⟩
    have H2 := H1.below g2
    clear a0 a1 a2 a3 a4 a5 a6 a7 a8 a9 a10 a11 a12
    obtain ⟨a0, a1, a2, a3, a4, a5, a6, a7, a8, a9, a10, a11, a12⟩ := EntAt.of H2
    go_wp2_with fail
    go_ret
    exact ⟨by rw [← HG.out] <;> simp <;> rfl, bup (bup (bnew _ _) g1) g2⟩
  cases b6
  case false =>
    go_enter Try.func28, Try.ntmps28
    go_wp2_with fail
    refine (C0.out _).mono ?_
    rintro e w1 ⟨rfl, g1⟩
    have H1 := (Has.new w _).below g1
    obtain ⟨a0, a1, a2, a3, a4, a5, a6, a7, a8, a9, a10, a11, a12⟩ := EntAt.of H1
    go_wp2_with (go_at_call 53; first | ((with_reducible refine (C1.out _).mono ?_); rintro e w2 ⟨rfl, rfl⟩) | ((with_reducible refine (C2.out _).mono ?_); rintro e w2 ⟨rfl, rfl⟩) | ((with_reducible refine (C3.out _).mono ?_); rintro e w2 ⟨rfl, rfl⟩) | ((with_reducible refine (C4.out _).mono ?_); rintro e w2 ⟨rfl, rfl⟩))
    refine (C5.out _).mono ?_
    rintro e w2 ⟨rfl, g2⟩
    have H2 := H1.below g2
    clear a0 a1 a2 a3 a4 a5 a6 a7 a8 a9 a10 a11 a12
    obtain ⟨a0, a1, a2, a3, a4, a5, a6, a7, a8, a9, a10, a11, a12⟩ := EntAt.of H2
    go_wp2_with fail
    refine (C6.out _).mono ?_
    rintro e w3 ⟨rfl, g3⟩
    have H3 := H2.below g3
    clear a0 a1 a2 a3 a4 a5 a6 a7 a8 a9 a10 a11 a12
    obtain ⟨a0, a1, a2, a3, a4, a5, a6, a7, a8, a9, a10, a11, a12⟩ := EntAt.of H3
    go_wp2_with fail
    go_ret
    exact ⟨by rw [← HG.out] <;> simp <;> rfl, bup (bup (bup (bnew _ _) g1) g2) g3⟩
  case true =>
    go_enter Try.func28, Try.ntmps28
    go_wp2_with fail
    refine (C0.out _).mono ?_
    rintro e w1 ⟨rfl, g1⟩
    have H1 := (Has.new w _).below g1
    obtain ⟨a0, a1, a2, a3, a4, a5, a6, a7, a8, a9, a10, a11, a12⟩ := EntAt.of H1
    go_wp2_with (go_at_call 53; first | ((with_reducible refine (C1.out _).mono ?_); rintro e w2 ⟨rfl, rfl⟩) | ((with_reducible refine (C2.out _).mono ?_); rintro e w2 ⟨rfl, rfl⟩) | ((with_reducible refine (C3.out _).mono ?_); rintro e w2 ⟨rfl, rfl⟩) | ((with_reducible refine (C4.out _).mono ?_); rintro e w2 ⟨rfl, rfl⟩))
    refine (C5.out _).mono ?_
    rintro e w2 ⟨rfl, g2⟩
    have H2 := H1.below g2
    clear a0 a1 a2 a3 a4 a5 a6 a7 a8 a9 a10 a11 a12
    obtain ⟨a0, a1, a2, a3, a4, a5, a6, a7, a8, a9, a10, a11, a12⟩ := EntAt.of H2
    go_wp2_with fail
    refine (C6.out _).mono ?_
    rintro e w3 ⟨rfl, g3⟩
    have H3 := H2.below g3
    clear a0 a1 a2 a3 a4 a5 a6 a7 a8 a9 a10 a11 a12
    obtain ⟨a0, a1, a2, a3, a4, a5, a6, a7, a8, a9, a10, a11, a12⟩ := EntAt.of H3
    go_wp2_with (go_at_call 53; first | ((with_reducible refine (C7.out _).mono ?_); rintro e w2 ⟨rfl, rfl⟩))
    go_ret
    exact ⟨by rw [← HG.out] <;> simp <;> rfl, bup (bup (bup (bnew _ _) g1) g2) g3⟩
set_option maxRecDepth 100000 in
set_option maxHeartbeats 4000000 in
theorem good_three (c e n l p pg sl : Int) (wu : Bool) (wd : ByteArray) (iu : Bool) (ix : ByteArray) (nx : Int) (b3 b4 b5 b6 b7 : Bool) (C0 : ∀ w, Calls Try.prog 31 #[.agg #[.int .i64 c, .int .i64 e, .int .i64 n]] w fun r w' => r = .returned (.bool true) ∧ Below w.heap.size w w') (C1 : ∀ w, Calls Try.prog 53 #[.int .i64 l, .int .i64 1, .int .i64 1099511627776] w fun e w' => e = .returned (.bool true) ∧ w' = w) (hl : 1 ≤ l ∧ l ≤ 1099511627776) (C2 : ∀ w, Calls Try.prog 53 #[.int .i64 p, .int .i64 0, .int .i64 (l - 1)] w fun e w' => e = .returned (.bool true) ∧ w' = w) (C3 : ∀ w, Calls Try.prog 53 #[.int .i64 pg, .int .i64 0, .int .i64 1023] w fun e w' => e = .returned (.bool b3) ∧ w' = w) (C4 : ∀ w, Calls Try.prog 53 #[.int .i64 sl, .int .i64 0, .int .i64 31] w fun e w' => e = .returned (.bool b4) ∧ w' = w) (C5 : ∀ w, Calls Try.prog 54 #[.agg #[.bool wu, .string wd]] w fun r w' => r = .returned (.bool b5) ∧ Below w.heap.size w w') (C6 : ∀ w, Calls Try.prog 54 #[.agg #[.bool iu, .string ix]] w fun r w' => r = .returned (.bool b6) ∧ Below w.heap.size w w') (C7 : ∀ w, Calls Try.prog 53 #[.int .i64 nx, .int .i64 0, .int .i64 p] w fun e w' => e = .returned (.bool b7) ∧ w' = w)  (w : World) :
    Calls Try.prog 28 #[.agg #[.int .i64 3, .int .i64 c, .int .i64 e, .int .i64 n, .int .i64 l, .int .i64 p, .int .i64 pg, .int .i64 sl, .bool wu, .string wd, .bool iu, .string ix, .int .i64 nx]] w fun r w' => r = .returned (.bool (Ent.plainB ⟨3, c, e, n, l, p, pg, sl, wu, wd, iu, ix, nx⟩)) ∧ Below w.heap.size w w' := by
  have C0 := Lib.hid C0; have C1 := Lib.hid C1; have C2 := Lib.hid C2; have C3 := Lib.hid C3; have C4 := Lib.hid C4; have C5 := Lib.hid C5; have C6 := Lib.hid C6; have C7 := Lib.hid C7
  obtain ⟨G, hG⟩ : ∃ G, (Ent.plainB ⟨3, c, e, n, l, p, pg, sl, wu, wd, iu, ix, nx⟩) = G := ⟨_, rfl⟩
  rw [hG]
  have HG := Lib.hid hG
  clear hG
  cases b3
  case false =>
    go_enter Try.func28, Try.ntmps28
    go_wp2_with fail
    refine (C0.out _).mono ?_
    rintro e w1 ⟨rfl, g1⟩
    have H1 := (Has.new w _).below g1
    obtain ⟨a0, a1, a2, a3, a4, a5, a6, a7, a8, a9, a10, a11, a12⟩ := EntAt.of H1
    go_wp2_with (go_at_call 53; first | ((with_reducible refine (C1.out _).mono ?_); rintro e w2 ⟨rfl, rfl⟩) | ((with_reducible refine (C2.out _).mono ?_); rintro e w2 ⟨rfl, rfl⟩) | ((with_reducible refine (C3.out _).mono ?_); rintro e w2 ⟨rfl, rfl⟩) | ((with_reducible refine (C4.out _).mono ?_); rintro e w2 ⟨rfl, rfl⟩))
    have CE := fun w => entEqBin ⟨3, c, e, n, l, p, pg, sl, wu, wd, iu, ix, nx⟩ (Ent.plain ⟨3, c, e, n, l, p, pg, sl, wu, wd, iu, ix, nx⟩) w
    have CP := fun d os => Calls.regrown_of (plain_any ⟨3, c, e, n, l, p, pg, sl, wu, wd, iu, ix, nx⟩ (grow (redrawn w2 d) os))
    rw [plain_eqB] at CE
    obtain ⟨b8, h8⟩ : ∃ b, Ent.plainB ⟨3, c, e, n, l, p, pg, sl, wu, wd, iu, ix, nx⟩ = b := ⟨_, rfl⟩
    rw [h8] at CE
    have H8 := Lib.hid h8
    clear h8
    simp only [Ent.plain, Ent.val, Ent.row] at CP CE
    have a0 := cell_regrown a0
    have a1 := cell_regrown a1
    have a2 := cell_regrown a2
    have a3 := cell_regrown a3
    have a4 := cell_regrown a4
    have a5 := cell_regrown a5
    have a6 := cell_regrown a6
    have a7 := cell_regrown a7
    have a8 := cell_regrown a8
    have a9 := cell_regrown a9
    have a10 := cell_regrown a10
    have a11 := cell_regrown a11
    have a12 := cell_regrown a12
    refine wp_region_quiet_below (by kernel_rfl) (by kernel_rfl) ?_
    repeat (quiet_step (exact CP _ _))
    refine wpQuiet_nil ?_
    intro _ hw4
    obtain ⟨⟨dq, osq⟩, hw5⟩ := hw4
    subst hw5
    go_wp2_with fail
    go_ret
    exact ⟨by rw [← HG.out, H8.out]; rfl, bup (bup (bnew _ _) g1) (below_regrown _ _ _)⟩
  cases b4
  case false =>
    go_enter Try.func28, Try.ntmps28
    go_wp2_with fail
    refine (C0.out _).mono ?_
    rintro e w1 ⟨rfl, g1⟩
    have H1 := (Has.new w _).below g1
    obtain ⟨a0, a1, a2, a3, a4, a5, a6, a7, a8, a9, a10, a11, a12⟩ := EntAt.of H1
    go_wp2_with (go_at_call 53; first | ((with_reducible refine (C1.out _).mono ?_); rintro e w2 ⟨rfl, rfl⟩) | ((with_reducible refine (C2.out _).mono ?_); rintro e w2 ⟨rfl, rfl⟩) | ((with_reducible refine (C3.out _).mono ?_); rintro e w2 ⟨rfl, rfl⟩) | ((with_reducible refine (C4.out _).mono ?_); rintro e w2 ⟨rfl, rfl⟩))
    have CE := fun w => entEqBin ⟨3, c, e, n, l, p, pg, sl, wu, wd, iu, ix, nx⟩ (Ent.plain ⟨3, c, e, n, l, p, pg, sl, wu, wd, iu, ix, nx⟩) w
    have CP := fun d os => Calls.regrown_of (plain_any ⟨3, c, e, n, l, p, pg, sl, wu, wd, iu, ix, nx⟩ (grow (redrawn w2 d) os))
    rw [plain_eqB] at CE
    obtain ⟨b8, h8⟩ : ∃ b, Ent.plainB ⟨3, c, e, n, l, p, pg, sl, wu, wd, iu, ix, nx⟩ = b := ⟨_, rfl⟩
    rw [h8] at CE
    have H8 := Lib.hid h8
    clear h8
    simp only [Ent.plain, Ent.val, Ent.row] at CP CE
    have a0 := cell_regrown a0
    have a1 := cell_regrown a1
    have a2 := cell_regrown a2
    have a3 := cell_regrown a3
    have a4 := cell_regrown a4
    have a5 := cell_regrown a5
    have a6 := cell_regrown a6
    have a7 := cell_regrown a7
    have a8 := cell_regrown a8
    have a9 := cell_regrown a9
    have a10 := cell_regrown a10
    have a11 := cell_regrown a11
    have a12 := cell_regrown a12
    refine wp_region_quiet_below (by kernel_rfl) (by kernel_rfl) ?_
    repeat (quiet_step (exact CP _ _))
    refine wpQuiet_nil ?_
    intro _ hw4
    obtain ⟨⟨dq, osq⟩, hw5⟩ := hw4
    subst hw5
    go_wp2_with fail
    go_ret
    exact ⟨by rw [← HG.out, H8.out]; rfl, bup (bup (bnew _ _) g1) (below_regrown _ _ _)⟩
  cases b5
  case false =>
    go_enter Try.func28, Try.ntmps28
    go_wp2_with fail
    refine (C0.out _).mono ?_
    rintro e w1 ⟨rfl, g1⟩
    have H1 := (Has.new w _).below g1
    obtain ⟨a0, a1, a2, a3, a4, a5, a6, a7, a8, a9, a10, a11, a12⟩ := EntAt.of H1
    go_wp2_with (go_at_call 53; first | ((with_reducible refine (C1.out _).mono ?_); rintro e w2 ⟨rfl, rfl⟩) | ((with_reducible refine (C2.out _).mono ?_); rintro e w2 ⟨rfl, rfl⟩) | ((with_reducible refine (C3.out _).mono ?_); rintro e w2 ⟨rfl, rfl⟩) | ((with_reducible refine (C4.out _).mono ?_); rintro e w2 ⟨rfl, rfl⟩))
    refine (C5.out _).mono ?_
    rintro e w2 ⟨rfl, g2⟩
    have H2 := H1.below g2
    clear a0 a1 a2 a3 a4 a5 a6 a7 a8 a9 a10 a11 a12
    obtain ⟨a0, a1, a2, a3, a4, a5, a6, a7, a8, a9, a10, a11, a12⟩ := EntAt.of H2
    go_wp2_with fail
    have CE := fun w => entEqBin ⟨3, c, e, n, l, p, pg, sl, wu, wd, iu, ix, nx⟩ (Ent.plain ⟨3, c, e, n, l, p, pg, sl, wu, wd, iu, ix, nx⟩) w
    have CP := fun d os => Calls.regrown_of (plain_any ⟨3, c, e, n, l, p, pg, sl, wu, wd, iu, ix, nx⟩ (grow (redrawn w2 d) os))
    rw [plain_eqB] at CE
    obtain ⟨b8, h8⟩ : ∃ b, Ent.plainB ⟨3, c, e, n, l, p, pg, sl, wu, wd, iu, ix, nx⟩ = b := ⟨_, rfl⟩
    rw [h8] at CE
    have H8 := Lib.hid h8
    clear h8
    simp only [Ent.plain, Ent.val, Ent.row] at CP CE
    have a0 := cell_regrown a0
    have a1 := cell_regrown a1
    have a2 := cell_regrown a2
    have a3 := cell_regrown a3
    have a4 := cell_regrown a4
    have a5 := cell_regrown a5
    have a6 := cell_regrown a6
    have a7 := cell_regrown a7
    have a8 := cell_regrown a8
    have a9 := cell_regrown a9
    have a10 := cell_regrown a10
    have a11 := cell_regrown a11
    have a12 := cell_regrown a12
    refine wp_region_quiet_below (by kernel_rfl) (by kernel_rfl) ?_
    repeat (quiet_step (exact CP _ _))
    refine wpQuiet_nil ?_
    intro _ hw4
    obtain ⟨⟨dq, osq⟩, hw5⟩ := hw4
    subst hw5
    go_wp2_with fail
    go_ret
    exact ⟨by rw [← HG.out, H8.out]; rfl, bup (bup (bup (bnew _ _) g1) g2) (below_regrown _ _ _)⟩
  cases b6
  case false =>
    go_enter Try.func28, Try.ntmps28
    go_wp2_with fail
    refine (C0.out _).mono ?_
    rintro e w1 ⟨rfl, g1⟩
    have H1 := (Has.new w _).below g1
    obtain ⟨a0, a1, a2, a3, a4, a5, a6, a7, a8, a9, a10, a11, a12⟩ := EntAt.of H1
    go_wp2_with (go_at_call 53; first | ((with_reducible refine (C1.out _).mono ?_); rintro e w2 ⟨rfl, rfl⟩) | ((with_reducible refine (C2.out _).mono ?_); rintro e w2 ⟨rfl, rfl⟩) | ((with_reducible refine (C3.out _).mono ?_); rintro e w2 ⟨rfl, rfl⟩) | ((with_reducible refine (C4.out _).mono ?_); rintro e w2 ⟨rfl, rfl⟩))
    refine (C5.out _).mono ?_
    rintro e w2 ⟨rfl, g2⟩
    have H2 := H1.below g2
    clear a0 a1 a2 a3 a4 a5 a6 a7 a8 a9 a10 a11 a12
    obtain ⟨a0, a1, a2, a3, a4, a5, a6, a7, a8, a9, a10, a11, a12⟩ := EntAt.of H2
    go_wp2_with fail
    refine (C6.out _).mono ?_
    rintro e w3 ⟨rfl, g3⟩
    have H3 := H2.below g3
    clear a0 a1 a2 a3 a4 a5 a6 a7 a8 a9 a10 a11 a12
    obtain ⟨a0, a1, a2, a3, a4, a5, a6, a7, a8, a9, a10, a11, a12⟩ := EntAt.of H3
    go_wp2_with fail
    have CE := fun w => entEqBin ⟨3, c, e, n, l, p, pg, sl, wu, wd, iu, ix, nx⟩ (Ent.plain ⟨3, c, e, n, l, p, pg, sl, wu, wd, iu, ix, nx⟩) w
    have CP := fun d os => Calls.regrown_of (plain_any ⟨3, c, e, n, l, p, pg, sl, wu, wd, iu, ix, nx⟩ (grow (redrawn w3 d) os))
    rw [plain_eqB] at CE
    obtain ⟨b8, h8⟩ : ∃ b, Ent.plainB ⟨3, c, e, n, l, p, pg, sl, wu, wd, iu, ix, nx⟩ = b := ⟨_, rfl⟩
    rw [h8] at CE
    have H8 := Lib.hid h8
    clear h8
    simp only [Ent.plain, Ent.val, Ent.row] at CP CE
    have a0 := cell_regrown a0
    have a1 := cell_regrown a1
    have a2 := cell_regrown a2
    have a3 := cell_regrown a3
    have a4 := cell_regrown a4
    have a5 := cell_regrown a5
    have a6 := cell_regrown a6
    have a7 := cell_regrown a7
    have a8 := cell_regrown a8
    have a9 := cell_regrown a9
    have a10 := cell_regrown a10
    have a11 := cell_regrown a11
    have a12 := cell_regrown a12
    refine wp_region_quiet_below (by kernel_rfl) (by kernel_rfl) ?_
    repeat (quiet_step (exact CP _ _))
    refine wpQuiet_nil ?_
    intro _ hw4
    obtain ⟨⟨dq, osq⟩, hw5⟩ := hw4
    subst hw5
    go_wp2_with fail
    go_ret
    exact ⟨by rw [← HG.out, H8.out]; rfl, bup (bup (bup (bup (bnew _ _) g1) g2) g3) (below_regrown _ _ _)⟩
  case true =>
    go_enter Try.func28, Try.ntmps28
    go_wp2_with fail
    refine (C0.out _).mono ?_
    rintro e w1 ⟨rfl, g1⟩
    have H1 := (Has.new w _).below g1
    obtain ⟨a0, a1, a2, a3, a4, a5, a6, a7, a8, a9, a10, a11, a12⟩ := EntAt.of H1
    go_wp2_with (go_at_call 53; first | ((with_reducible refine (C1.out _).mono ?_); rintro e w2 ⟨rfl, rfl⟩) | ((with_reducible refine (C2.out _).mono ?_); rintro e w2 ⟨rfl, rfl⟩) | ((with_reducible refine (C3.out _).mono ?_); rintro e w2 ⟨rfl, rfl⟩) | ((with_reducible refine (C4.out _).mono ?_); rintro e w2 ⟨rfl, rfl⟩))
    refine (C5.out _).mono ?_
    rintro e w2 ⟨rfl, g2⟩
    have H2 := H1.below g2
    clear a0 a1 a2 a3 a4 a5 a6 a7 a8 a9 a10 a11 a12
    obtain ⟨a0, a1, a2, a3, a4, a5, a6, a7, a8, a9, a10, a11, a12⟩ := EntAt.of H2
    go_wp2_with fail
    refine (C6.out _).mono ?_
    rintro e w3 ⟨rfl, g3⟩
    have H3 := H2.below g3
    clear a0 a1 a2 a3 a4 a5 a6 a7 a8 a9 a10 a11 a12
    obtain ⟨a0, a1, a2, a3, a4, a5, a6, a7, a8, a9, a10, a11, a12⟩ := EntAt.of H3
    go_wp2_with fail
    have CE := fun w => entEqBin ⟨3, c, e, n, l, p, pg, sl, wu, wd, iu, ix, nx⟩ (Ent.plain ⟨3, c, e, n, l, p, pg, sl, wu, wd, iu, ix, nx⟩) w
    have CP := fun d os => Calls.regrown_of (plain_any ⟨3, c, e, n, l, p, pg, sl, wu, wd, iu, ix, nx⟩ (grow (redrawn w3 d) os))
    rw [plain_eqB] at CE
    obtain ⟨b8, h8⟩ : ∃ b, Ent.plainB ⟨3, c, e, n, l, p, pg, sl, wu, wd, iu, ix, nx⟩ = b := ⟨_, rfl⟩
    rw [h8] at CE
    have H8 := Lib.hid h8
    clear h8
    simp only [Ent.plain, Ent.val, Ent.row] at CP CE
    have a0 := cell_regrown a0
    have a1 := cell_regrown a1
    have a2 := cell_regrown a2
    have a3 := cell_regrown a3
    have a4 := cell_regrown a4
    have a5 := cell_regrown a5
    have a6 := cell_regrown a6
    have a7 := cell_regrown a7
    have a8 := cell_regrown a8
    have a9 := cell_regrown a9
    have a10 := cell_regrown a10
    have a11 := cell_regrown a11
    have a12 := cell_regrown a12
    refine wp_region_quiet_below (by kernel_rfl) (by kernel_rfl) ?_
    repeat (quiet_step (exact CP _ _))
    refine wpQuiet_nil ?_
    intro _ hw4
    obtain ⟨⟨dq, osq⟩, hw5⟩ := hw4
    subst hw5
    go_wp2_with fail
    go_ret
    exact ⟨by rw [← HG.out, H8.out]; rfl, bup (bup (bup (bup (bnew _ _) g1) g2) g3) (below_regrown _ _ _)⟩
set_option maxRecDepth 100000 in
set_option maxHeartbeats 4000000 in
theorem good_four (c e n l p pg sl : Int) (wu : Bool) (wd : ByteArray) (iu : Bool) (ix : ByteArray) (nx : Int) (b3 b4 b5 b6 b7 : Bool) (C0 : ∀ w, Calls Try.prog 31 #[.agg #[.int .i64 c, .int .i64 e, .int .i64 n]] w fun r w' => r = .returned (.bool true) ∧ Below w.heap.size w w') (C1 : ∀ w, Calls Try.prog 53 #[.int .i64 l, .int .i64 1, .int .i64 1099511627776] w fun e w' => e = .returned (.bool true) ∧ w' = w) (hl : 1 ≤ l ∧ l ≤ 1099511627776) (C2 : ∀ w, Calls Try.prog 53 #[.int .i64 p, .int .i64 0, .int .i64 (l - 1)] w fun e w' => e = .returned (.bool true) ∧ w' = w) (C3 : ∀ w, Calls Try.prog 53 #[.int .i64 pg, .int .i64 0, .int .i64 1023] w fun e w' => e = .returned (.bool b3) ∧ w' = w) (C4 : ∀ w, Calls Try.prog 53 #[.int .i64 sl, .int .i64 0, .int .i64 31] w fun e w' => e = .returned (.bool b4) ∧ w' = w) (C5 : ∀ w, Calls Try.prog 54 #[.agg #[.bool wu, .string wd]] w fun r w' => r = .returned (.bool b5) ∧ Below w.heap.size w w') (C6 : ∀ w, Calls Try.prog 54 #[.agg #[.bool iu, .string ix]] w fun r w' => r = .returned (.bool b6) ∧ Below w.heap.size w w') (C7 : ∀ w, Calls Try.prog 53 #[.int .i64 nx, .int .i64 0, .int .i64 p] w fun e w' => e = .returned (.bool b7) ∧ w' = w)  (w : World) :
    Calls Try.prog 28 #[.agg #[.int .i64 4, .int .i64 c, .int .i64 e, .int .i64 n, .int .i64 l, .int .i64 p, .int .i64 pg, .int .i64 sl, .bool wu, .string wd, .bool iu, .string ix, .int .i64 nx]] w fun r w' => r = .returned (.bool (Ent.plainB ⟨4, c, e, n, l, p, pg, sl, wu, wd, iu, ix, nx⟩)) ∧ Below w.heap.size w w' := by
  have C0 := Lib.hid C0; have C1 := Lib.hid C1; have C2 := Lib.hid C2; have C3 := Lib.hid C3; have C4 := Lib.hid C4; have C5 := Lib.hid C5; have C6 := Lib.hid C6; have C7 := Lib.hid C7
  obtain ⟨G, hG⟩ : ∃ G, (Ent.plainB ⟨4, c, e, n, l, p, pg, sl, wu, wd, iu, ix, nx⟩) = G := ⟨_, rfl⟩
  rw [hG]
  have HG := Lib.hid hG
  clear hG
  cases b3
  case false =>
    go_enter Try.func28, Try.ntmps28
    go_wp2_with fail
    refine (C0.out _).mono ?_
    rintro e w1 ⟨rfl, g1⟩
    have H1 := (Has.new w _).below g1
    obtain ⟨a0, a1, a2, a3, a4, a5, a6, a7, a8, a9, a10, a11, a12⟩ := EntAt.of H1
    go_wp2_with (go_at_call 53; first | ((with_reducible refine (C1.out _).mono ?_); rintro e w2 ⟨rfl, rfl⟩) | ((with_reducible refine (C2.out _).mono ?_); rintro e w2 ⟨rfl, rfl⟩) | ((with_reducible refine (C3.out _).mono ?_); rintro e w2 ⟨rfl, rfl⟩) | ((with_reducible refine (C4.out _).mono ?_); rintro e w2 ⟨rfl, rfl⟩))
    have CE := fun w => entEqBin ⟨4, c, e, n, l, p, pg, sl, wu, wd, iu, ix, nx⟩ (Ent.plain ⟨4, c, e, n, l, p, pg, sl, wu, wd, iu, ix, nx⟩) w
    have CP := fun d os => Calls.regrown_of (plain_any ⟨4, c, e, n, l, p, pg, sl, wu, wd, iu, ix, nx⟩ (grow (redrawn w2 d) os))
    rw [plain_eqB] at CE
    obtain ⟨b8, h8⟩ : ∃ b, Ent.plainB ⟨4, c, e, n, l, p, pg, sl, wu, wd, iu, ix, nx⟩ = b := ⟨_, rfl⟩
    rw [h8] at CE
    have H8 := Lib.hid h8
    clear h8
    simp only [Ent.plain, Ent.val, Ent.row] at CP CE
    have a0 := cell_regrown a0
    have a1 := cell_regrown a1
    have a2 := cell_regrown a2
    have a3 := cell_regrown a3
    have a4 := cell_regrown a4
    have a5 := cell_regrown a5
    have a6 := cell_regrown a6
    have a7 := cell_regrown a7
    have a8 := cell_regrown a8
    have a9 := cell_regrown a9
    have a10 := cell_regrown a10
    have a11 := cell_regrown a11
    have a12 := cell_regrown a12
    refine wp_region_quiet_below (by kernel_rfl) (by kernel_rfl) ?_
    repeat (quiet_step (exact CP _ _))
    refine wpQuiet_nil ?_
    intro _ hw4
    obtain ⟨⟨dq, osq⟩, hw5⟩ := hw4
    subst hw5
    go_wp2_with fail
    go_ret
    exact ⟨by rw [← HG.out, H8.out]; rfl, bup (bup (bnew _ _) g1) (below_regrown _ _ _)⟩
  cases b4
  case false =>
    go_enter Try.func28, Try.ntmps28
    go_wp2_with fail
    refine (C0.out _).mono ?_
    rintro e w1 ⟨rfl, g1⟩
    have H1 := (Has.new w _).below g1
    obtain ⟨a0, a1, a2, a3, a4, a5, a6, a7, a8, a9, a10, a11, a12⟩ := EntAt.of H1
    go_wp2_with (go_at_call 53; first | ((with_reducible refine (C1.out _).mono ?_); rintro e w2 ⟨rfl, rfl⟩) | ((with_reducible refine (C2.out _).mono ?_); rintro e w2 ⟨rfl, rfl⟩) | ((with_reducible refine (C3.out _).mono ?_); rintro e w2 ⟨rfl, rfl⟩) | ((with_reducible refine (C4.out _).mono ?_); rintro e w2 ⟨rfl, rfl⟩))
    have CE := fun w => entEqBin ⟨4, c, e, n, l, p, pg, sl, wu, wd, iu, ix, nx⟩ (Ent.plain ⟨4, c, e, n, l, p, pg, sl, wu, wd, iu, ix, nx⟩) w
    have CP := fun d os => Calls.regrown_of (plain_any ⟨4, c, e, n, l, p, pg, sl, wu, wd, iu, ix, nx⟩ (grow (redrawn w2 d) os))
    rw [plain_eqB] at CE
    obtain ⟨b8, h8⟩ : ∃ b, Ent.plainB ⟨4, c, e, n, l, p, pg, sl, wu, wd, iu, ix, nx⟩ = b := ⟨_, rfl⟩
    rw [h8] at CE
    have H8 := Lib.hid h8
    clear h8
    simp only [Ent.plain, Ent.val, Ent.row] at CP CE
    have a0 := cell_regrown a0
    have a1 := cell_regrown a1
    have a2 := cell_regrown a2
    have a3 := cell_regrown a3
    have a4 := cell_regrown a4
    have a5 := cell_regrown a5
    have a6 := cell_regrown a6
    have a7 := cell_regrown a7
    have a8 := cell_regrown a8
    have a9 := cell_regrown a9
    have a10 := cell_regrown a10
    have a11 := cell_regrown a11
    have a12 := cell_regrown a12
    refine wp_region_quiet_below (by kernel_rfl) (by kernel_rfl) ?_
    repeat (quiet_step (exact CP _ _))
    refine wpQuiet_nil ?_
    intro _ hw4
    obtain ⟨⟨dq, osq⟩, hw5⟩ := hw4
    subst hw5
    go_wp2_with fail
    go_ret
    exact ⟨by rw [← HG.out, H8.out]; rfl, bup (bup (bnew _ _) g1) (below_regrown _ _ _)⟩
  cases b5
  case false =>
    go_enter Try.func28, Try.ntmps28
    go_wp2_with fail
    refine (C0.out _).mono ?_
    rintro e w1 ⟨rfl, g1⟩
    have H1 := (Has.new w _).below g1
    obtain ⟨a0, a1, a2, a3, a4, a5, a6, a7, a8, a9, a10, a11, a12⟩ := EntAt.of H1
    go_wp2_with (go_at_call 53; first | ((with_reducible refine (C1.out _).mono ?_); rintro e w2 ⟨rfl, rfl⟩) | ((with_reducible refine (C2.out _).mono ?_); rintro e w2 ⟨rfl, rfl⟩) | ((with_reducible refine (C3.out _).mono ?_); rintro e w2 ⟨rfl, rfl⟩) | ((with_reducible refine (C4.out _).mono ?_); rintro e w2 ⟨rfl, rfl⟩))
    refine (C5.out _).mono ?_
    rintro e w2 ⟨rfl, g2⟩
    have H2 := H1.below g2
    clear a0 a1 a2 a3 a4 a5 a6 a7 a8 a9 a10 a11 a12
    obtain ⟨a0, a1, a2, a3, a4, a5, a6, a7, a8, a9, a10, a11, a12⟩ := EntAt.of H2
    go_wp2_with fail
    have CE := fun w => entEqBin ⟨4, c, e, n, l, p, pg, sl, wu, wd, iu, ix, nx⟩ (Ent.plain ⟨4, c, e, n, l, p, pg, sl, wu, wd, iu, ix, nx⟩) w
    have CP := fun d os => Calls.regrown_of (plain_any ⟨4, c, e, n, l, p, pg, sl, wu, wd, iu, ix, nx⟩ (grow (redrawn w2 d) os))
    rw [plain_eqB] at CE
    obtain ⟨b8, h8⟩ : ∃ b, Ent.plainB ⟨4, c, e, n, l, p, pg, sl, wu, wd, iu, ix, nx⟩ = b := ⟨_, rfl⟩
    rw [h8] at CE
    have H8 := Lib.hid h8
    clear h8
    simp only [Ent.plain, Ent.val, Ent.row] at CP CE
    have a0 := cell_regrown a0
    have a1 := cell_regrown a1
    have a2 := cell_regrown a2
    have a3 := cell_regrown a3
    have a4 := cell_regrown a4
    have a5 := cell_regrown a5
    have a6 := cell_regrown a6
    have a7 := cell_regrown a7
    have a8 := cell_regrown a8
    have a9 := cell_regrown a9
    have a10 := cell_regrown a10
    have a11 := cell_regrown a11
    have a12 := cell_regrown a12
    refine wp_region_quiet_below (by kernel_rfl) (by kernel_rfl) ?_
    repeat (quiet_step (exact CP _ _))
    refine wpQuiet_nil ?_
    intro _ hw4
    obtain ⟨⟨dq, osq⟩, hw5⟩ := hw4
    subst hw5
    go_wp2_with fail
    go_ret
    exact ⟨by rw [← HG.out, H8.out]; rfl, bup (bup (bup (bnew _ _) g1) g2) (below_regrown _ _ _)⟩
  cases b6
  case false =>
    go_enter Try.func28, Try.ntmps28
    go_wp2_with fail
    refine (C0.out _).mono ?_
    rintro e w1 ⟨rfl, g1⟩
    have H1 := (Has.new w _).below g1
    obtain ⟨a0, a1, a2, a3, a4, a5, a6, a7, a8, a9, a10, a11, a12⟩ := EntAt.of H1
    go_wp2_with (go_at_call 53; first | ((with_reducible refine (C1.out _).mono ?_); rintro e w2 ⟨rfl, rfl⟩) | ((with_reducible refine (C2.out _).mono ?_); rintro e w2 ⟨rfl, rfl⟩) | ((with_reducible refine (C3.out _).mono ?_); rintro e w2 ⟨rfl, rfl⟩) | ((with_reducible refine (C4.out _).mono ?_); rintro e w2 ⟨rfl, rfl⟩))
    refine (C5.out _).mono ?_
    rintro e w2 ⟨rfl, g2⟩
    have H2 := H1.below g2
    clear a0 a1 a2 a3 a4 a5 a6 a7 a8 a9 a10 a11 a12
    obtain ⟨a0, a1, a2, a3, a4, a5, a6, a7, a8, a9, a10, a11, a12⟩ := EntAt.of H2
    go_wp2_with fail
    refine (C6.out _).mono ?_
    rintro e w3 ⟨rfl, g3⟩
    have H3 := H2.below g3
    clear a0 a1 a2 a3 a4 a5 a6 a7 a8 a9 a10 a11 a12
    obtain ⟨a0, a1, a2, a3, a4, a5, a6, a7, a8, a9, a10, a11, a12⟩ := EntAt.of H3
    go_wp2_with fail
    have CE := fun w => entEqBin ⟨4, c, e, n, l, p, pg, sl, wu, wd, iu, ix, nx⟩ (Ent.plain ⟨4, c, e, n, l, p, pg, sl, wu, wd, iu, ix, nx⟩) w
    have CP := fun d os => Calls.regrown_of (plain_any ⟨4, c, e, n, l, p, pg, sl, wu, wd, iu, ix, nx⟩ (grow (redrawn w3 d) os))
    rw [plain_eqB] at CE
    obtain ⟨b8, h8⟩ : ∃ b, Ent.plainB ⟨4, c, e, n, l, p, pg, sl, wu, wd, iu, ix, nx⟩ = b := ⟨_, rfl⟩
    rw [h8] at CE
    have H8 := Lib.hid h8
    clear h8
    simp only [Ent.plain, Ent.val, Ent.row] at CP CE
    have a0 := cell_regrown a0
    have a1 := cell_regrown a1
    have a2 := cell_regrown a2
    have a3 := cell_regrown a3
    have a4 := cell_regrown a4
    have a5 := cell_regrown a5
    have a6 := cell_regrown a6
    have a7 := cell_regrown a7
    have a8 := cell_regrown a8
    have a9 := cell_regrown a9
    have a10 := cell_regrown a10
    have a11 := cell_regrown a11
    have a12 := cell_regrown a12
    refine wp_region_quiet_below (by kernel_rfl) (by kernel_rfl) ?_
    repeat (quiet_step (exact CP _ _))
    refine wpQuiet_nil ?_
    intro _ hw4
    obtain ⟨⟨dq, osq⟩, hw5⟩ := hw4
    subst hw5
    go_wp2_with fail
    go_ret
    exact ⟨by rw [← HG.out, H8.out]; rfl, bup (bup (bup (bup (bnew _ _) g1) g2) g3) (below_regrown _ _ _)⟩
  case true =>
    go_enter Try.func28, Try.ntmps28
    go_wp2_with fail
    refine (C0.out _).mono ?_
    rintro e w1 ⟨rfl, g1⟩
    have H1 := (Has.new w _).below g1
    obtain ⟨a0, a1, a2, a3, a4, a5, a6, a7, a8, a9, a10, a11, a12⟩ := EntAt.of H1
    go_wp2_with (go_at_call 53; first | ((with_reducible refine (C1.out _).mono ?_); rintro e w2 ⟨rfl, rfl⟩) | ((with_reducible refine (C2.out _).mono ?_); rintro e w2 ⟨rfl, rfl⟩) | ((with_reducible refine (C3.out _).mono ?_); rintro e w2 ⟨rfl, rfl⟩) | ((with_reducible refine (C4.out _).mono ?_); rintro e w2 ⟨rfl, rfl⟩))
    refine (C5.out _).mono ?_
    rintro e w2 ⟨rfl, g2⟩
    have H2 := H1.below g2
    clear a0 a1 a2 a3 a4 a5 a6 a7 a8 a9 a10 a11 a12
    obtain ⟨a0, a1, a2, a3, a4, a5, a6, a7, a8, a9, a10, a11, a12⟩ := EntAt.of H2
    go_wp2_with fail
    refine (C6.out _).mono ?_
    rintro e w3 ⟨rfl, g3⟩
    have H3 := H2.below g3
    clear a0 a1 a2 a3 a4 a5 a6 a7 a8 a9 a10 a11 a12
    obtain ⟨a0, a1, a2, a3, a4, a5, a6, a7, a8, a9, a10, a11, a12⟩ := EntAt.of H3
    go_wp2_with fail
    have CE := fun w => entEqBin ⟨4, c, e, n, l, p, pg, sl, wu, wd, iu, ix, nx⟩ (Ent.plain ⟨4, c, e, n, l, p, pg, sl, wu, wd, iu, ix, nx⟩) w
    have CP := fun d os => Calls.regrown_of (plain_any ⟨4, c, e, n, l, p, pg, sl, wu, wd, iu, ix, nx⟩ (grow (redrawn w3 d) os))
    rw [plain_eqB] at CE
    obtain ⟨b8, h8⟩ : ∃ b, Ent.plainB ⟨4, c, e, n, l, p, pg, sl, wu, wd, iu, ix, nx⟩ = b := ⟨_, rfl⟩
    rw [h8] at CE
    have H8 := Lib.hid h8
    clear h8
    simp only [Ent.plain, Ent.val, Ent.row] at CP CE
    have a0 := cell_regrown a0
    have a1 := cell_regrown a1
    have a2 := cell_regrown a2
    have a3 := cell_regrown a3
    have a4 := cell_regrown a4
    have a5 := cell_regrown a5
    have a6 := cell_regrown a6
    have a7 := cell_regrown a7
    have a8 := cell_regrown a8
    have a9 := cell_regrown a9
    have a10 := cell_regrown a10
    have a11 := cell_regrown a11
    have a12 := cell_regrown a12
    refine wp_region_quiet_below (by kernel_rfl) (by kernel_rfl) ?_
    repeat (quiet_step (exact CP _ _))
    refine wpQuiet_nil ?_
    intro _ hw4
    obtain ⟨⟨dq, osq⟩, hw5⟩ := hw4
    subst hw5
    go_wp2_with fail
    go_ret
    exact ⟨by rw [← HG.out, H8.out]; rfl, bup (bup (bup (bup (bnew _ _) g1) g2) g3) (below_regrown _ _ _)⟩
set_option maxRecDepth 100000 in
set_option maxHeartbeats 4000000 in
theorem good_else (k c e n l p pg sl : Int) (wu : Bool) (wd : ByteArray) (iu : Bool) (ix : ByteArray) (nx : Int) (b3 b4 b5 b6 b7 : Bool) (C0 : ∀ w, Calls Try.prog 31 #[.agg #[.int .i64 c, .int .i64 e, .int .i64 n]] w fun r w' => r = .returned (.bool true) ∧ Below w.heap.size w w') (C1 : ∀ w, Calls Try.prog 53 #[.int .i64 l, .int .i64 1, .int .i64 1099511627776] w fun e w' => e = .returned (.bool true) ∧ w' = w) (hl : 1 ≤ l ∧ l ≤ 1099511627776) (C2 : ∀ w, Calls Try.prog 53 #[.int .i64 p, .int .i64 0, .int .i64 (l - 1)] w fun e w' => e = .returned (.bool true) ∧ w' = w) (C3 : ∀ w, Calls Try.prog 53 #[.int .i64 pg, .int .i64 0, .int .i64 1023] w fun e w' => e = .returned (.bool b3) ∧ w' = w) (C4 : ∀ w, Calls Try.prog 53 #[.int .i64 sl, .int .i64 0, .int .i64 31] w fun e w' => e = .returned (.bool b4) ∧ w' = w) (C5 : ∀ w, Calls Try.prog 54 #[.agg #[.bool wu, .string wd]] w fun r w' => r = .returned (.bool b5) ∧ Below w.heap.size w w') (C6 : ∀ w, Calls Try.prog 54 #[.agg #[.bool iu, .string ix]] w fun r w' => r = .returned (.bool b6) ∧ Below w.heap.size w w') (C7 : ∀ w, Calls Try.prog 53 #[.int .i64 nx, .int .i64 0, .int .i64 p] w fun e w' => e = .returned (.bool b7) ∧ w' = w) (k1 : (k == 1) = false) (k2 : (k == 2) = false) (k3 : (k == 3) = false) (k4 : (k == 4) = false) (w : World) :
    Calls Try.prog 28 #[.agg #[.int .i64 k, .int .i64 c, .int .i64 e, .int .i64 n, .int .i64 l, .int .i64 p, .int .i64 pg, .int .i64 sl, .bool wu, .string wd, .bool iu, .string ix, .int .i64 nx]] w fun r w' => r = .returned (.bool (false)) ∧ Below w.heap.size w w' := by
  have C0 := Lib.hid C0; have C1 := Lib.hid C1; have C2 := Lib.hid C2; have C3 := Lib.hid C3; have C4 := Lib.hid C4; have C5 := Lib.hid C5; have C6 := Lib.hid C6; have C7 := Lib.hid C7
  obtain ⟨G, hG⟩ : ∃ G, (false) = G := ⟨_, rfl⟩
  rw [hG]
  have HG := Lib.hid hG
  clear hG
  cases b3
  case false =>
    go_enter Try.func28, Try.ntmps28
    go_wp2_with fail
    refine (C0.out _).mono ?_
    rintro e w1 ⟨rfl, g1⟩
    have H1 := (Has.new w _).below g1
    obtain ⟨a0, a1, a2, a3, a4, a5, a6, a7, a8, a9, a10, a11, a12⟩ := EntAt.of H1
    go_wp2_with (go_at_call 53; first | ((with_reducible refine (C1.out _).mono ?_); rintro e w2 ⟨rfl, rfl⟩) | ((with_reducible refine (C2.out _).mono ?_); rintro e w2 ⟨rfl, rfl⟩) | ((with_reducible refine (C3.out _).mono ?_); rintro e w2 ⟨rfl, rfl⟩) | ((with_reducible refine (C4.out _).mono ?_); rintro e w2 ⟨rfl, rfl⟩))
    go_ret
    exact ⟨by rw [← HG.out] <;> simp <;> rfl, bup (bnew _ _) g1⟩
  cases b4
  case false =>
    go_enter Try.func28, Try.ntmps28
    go_wp2_with fail
    refine (C0.out _).mono ?_
    rintro e w1 ⟨rfl, g1⟩
    have H1 := (Has.new w _).below g1
    obtain ⟨a0, a1, a2, a3, a4, a5, a6, a7, a8, a9, a10, a11, a12⟩ := EntAt.of H1
    go_wp2_with (go_at_call 53; first | ((with_reducible refine (C1.out _).mono ?_); rintro e w2 ⟨rfl, rfl⟩) | ((with_reducible refine (C2.out _).mono ?_); rintro e w2 ⟨rfl, rfl⟩) | ((with_reducible refine (C3.out _).mono ?_); rintro e w2 ⟨rfl, rfl⟩) | ((with_reducible refine (C4.out _).mono ?_); rintro e w2 ⟨rfl, rfl⟩))
    go_ret
    exact ⟨by rw [← HG.out] <;> simp <;> rfl, bup (bnew _ _) g1⟩
  cases b5
  case false =>
    go_enter Try.func28, Try.ntmps28
    go_wp2_with fail
    refine (C0.out _).mono ?_
    rintro e w1 ⟨rfl, g1⟩
    have H1 := (Has.new w _).below g1
    obtain ⟨a0, a1, a2, a3, a4, a5, a6, a7, a8, a9, a10, a11, a12⟩ := EntAt.of H1
    go_wp2_with (go_at_call 53; first | ((with_reducible refine (C1.out _).mono ?_); rintro e w2 ⟨rfl, rfl⟩) | ((with_reducible refine (C2.out _).mono ?_); rintro e w2 ⟨rfl, rfl⟩) | ((with_reducible refine (C3.out _).mono ?_); rintro e w2 ⟨rfl, rfl⟩) | ((with_reducible refine (C4.out _).mono ?_); rintro e w2 ⟨rfl, rfl⟩))
    refine (C5.out _).mono ?_
    rintro e w2 ⟨rfl, g2⟩
    have H2 := H1.below g2
    clear a0 a1 a2 a3 a4 a5 a6 a7 a8 a9 a10 a11 a12
    obtain ⟨a0, a1, a2, a3, a4, a5, a6, a7, a8, a9, a10, a11, a12⟩ := EntAt.of H2
    go_wp2_with fail
    go_ret
    exact ⟨by rw [← HG.out] <;> simp <;> rfl, bup (bup (bnew _ _) g1) g2⟩
  cases b6
  case false =>
    go_enter Try.func28, Try.ntmps28
    go_wp2_with fail
    refine (C0.out _).mono ?_
    rintro e w1 ⟨rfl, g1⟩
    have H1 := (Has.new w _).below g1
    obtain ⟨a0, a1, a2, a3, a4, a5, a6, a7, a8, a9, a10, a11, a12⟩ := EntAt.of H1
    go_wp2_with (go_at_call 53; first | ((with_reducible refine (C1.out _).mono ?_); rintro e w2 ⟨rfl, rfl⟩) | ((with_reducible refine (C2.out _).mono ?_); rintro e w2 ⟨rfl, rfl⟩) | ((with_reducible refine (C3.out _).mono ?_); rintro e w2 ⟨rfl, rfl⟩) | ((with_reducible refine (C4.out _).mono ?_); rintro e w2 ⟨rfl, rfl⟩))
    refine (C5.out _).mono ?_
    rintro e w2 ⟨rfl, g2⟩
    have H2 := H1.below g2
    clear a0 a1 a2 a3 a4 a5 a6 a7 a8 a9 a10 a11 a12
    obtain ⟨a0, a1, a2, a3, a4, a5, a6, a7, a8, a9, a10, a11, a12⟩ := EntAt.of H2
    go_wp2_with fail
    refine (C6.out _).mono ?_
    rintro e w3 ⟨rfl, g3⟩
    have H3 := H2.below g3
    clear a0 a1 a2 a3 a4 a5 a6 a7 a8 a9 a10 a11 a12
    obtain ⟨a0, a1, a2, a3, a4, a5, a6, a7, a8, a9, a10, a11, a12⟩ := EntAt.of H3
    go_wp2_with fail
    go_ret
    exact ⟨by rw [← HG.out] <;> simp <;> rfl, bup (bup (bup (bnew _ _) g1) g2) g3⟩
  case true =>
    go_enter Try.func28, Try.ntmps28
    go_wp2_with fail
    refine (C0.out _).mono ?_
    rintro e w1 ⟨rfl, g1⟩
    have H1 := (Has.new w _).below g1
    obtain ⟨a0, a1, a2, a3, a4, a5, a6, a7, a8, a9, a10, a11, a12⟩ := EntAt.of H1
    go_wp2_with (go_at_call 53; first | ((with_reducible refine (C1.out _).mono ?_); rintro e w2 ⟨rfl, rfl⟩) | ((with_reducible refine (C2.out _).mono ?_); rintro e w2 ⟨rfl, rfl⟩) | ((with_reducible refine (C3.out _).mono ?_); rintro e w2 ⟨rfl, rfl⟩) | ((with_reducible refine (C4.out _).mono ?_); rintro e w2 ⟨rfl, rfl⟩))
    refine (C5.out _).mono ?_
    rintro e w2 ⟨rfl, g2⟩
    have H2 := H1.below g2
    clear a0 a1 a2 a3 a4 a5 a6 a7 a8 a9 a10 a11 a12
    obtain ⟨a0, a1, a2, a3, a4, a5, a6, a7, a8, a9, a10, a11, a12⟩ := EntAt.of H2
    go_wp2_with fail
    refine (C6.out _).mono ?_
    rintro e w3 ⟨rfl, g3⟩
    have H3 := H2.below g3
    clear a0 a1 a2 a3 a4 a5 a6 a7 a8 a9 a10 a11 a12
    obtain ⟨a0, a1, a2, a3, a4, a5, a6, a7, a8, a9, a10, a11, a12⟩ := EntAt.of H3
    go_wp2_with fail
    go_ret
    exact ⟨by rw [← HG.out] <;> simp <;> rfl, bup (bup (bup (bnew _ _) g1) g2) g3⟩
end Go.Proofs.Ytakdagmkkelnfaa

/-! entry.Good, where it ends early. -/
namespace Go.Proofs.Ytakdagmkkelnfaa
open Go.RowKit Go.Sort

set_option maxRecDepth 100000 in
set_option maxHeartbeats 4000000 in
theorem good_early0 (k c e n l p pg sl : Int) (wu : Bool) (wd : ByteArray) (iu : Bool) (ix : ByteArray) (nx : Int) (C0 : ∀ w, Calls Try.prog 31 #[.agg #[.int .i64 c, .int .i64 e, .int .i64 n]] w fun r w' => r = .returned (.bool false) ∧ Below w.heap.size w w') (w : World) :
    Calls Try.prog 28 #[.agg #[.int .i64 k, .int .i64 c, .int .i64 e, .int .i64 n, .int .i64 l, .int .i64 p, .int .i64 pg, .int .i64 sl, .bool wu, .string wd, .bool iu, .string ix, .int .i64 nx]] w fun r w' => r = .returned (.bool false) ∧ Below w.heap.size w w' := by
  have C0 := Lib.hid C0
  go_enter Try.func28, Try.ntmps28
  go_wp2_with fail
  refine (C0.out _).mono ?_
  rintro e w1 ⟨rfl, g1⟩
  go_wp2_with fail
  go_ret
  exact ⟨rfl, bup (bnew _ _) g1⟩
set_option maxRecDepth 100000 in
set_option maxHeartbeats 4000000 in
theorem good_early1 (k c e n l p pg sl : Int) (wu : Bool) (wd : ByteArray) (iu : Bool) (ix : ByteArray) (nx : Int) (C0 : ∀ w, Calls Try.prog 31 #[.agg #[.int .i64 c, .int .i64 e, .int .i64 n]] w fun r w' => r = .returned (.bool true) ∧ Below w.heap.size w w') (C1 : ∀ w, Calls Try.prog 53 #[.int .i64 l, .int .i64 1, .int .i64 1099511627776] w fun e w' => e = .returned (.bool false) ∧ w' = w) (w : World) :
    Calls Try.prog 28 #[.agg #[.int .i64 k, .int .i64 c, .int .i64 e, .int .i64 n, .int .i64 l, .int .i64 p, .int .i64 pg, .int .i64 sl, .bool wu, .string wd, .bool iu, .string ix, .int .i64 nx]] w fun r w' => r = .returned (.bool false) ∧ Below w.heap.size w w' := by
  have C0 := Lib.hid C0
  have C1 := Lib.hid C1
  go_enter Try.func28, Try.ntmps28
  go_wp2_with fail
  refine (C0.out _).mono ?_
  rintro e w1 ⟨rfl, g1⟩
  obtain ⟨a0, a1, a2, a3, a4, a5, a6, a7, a8, a9, a10, a11, a12⟩ := EntAt.of ((Has.new w _).below g1)
  go_wp2_with (go_at_call 53; first | ((with_reducible refine (C1.out _).mono ?_); rintro e w2 ⟨rfl, rfl⟩))
  go_ret
  exact ⟨rfl, bup (bnew _ _) g1⟩
set_option maxRecDepth 100000 in
set_option maxHeartbeats 4000000 in
theorem good_early2 (k c e n l p pg sl : Int) (wu : Bool) (wd : ByteArray) (iu : Bool) (ix : ByteArray) (nx : Int) (C0 : ∀ w, Calls Try.prog 31 #[.agg #[.int .i64 c, .int .i64 e, .int .i64 n]] w fun r w' => r = .returned (.bool true) ∧ Below w.heap.size w w') (C1 : ∀ w, Calls Try.prog 53 #[.int .i64 l, .int .i64 1, .int .i64 1099511627776] w fun e w' => e = .returned (.bool true) ∧ w' = w) (hl : 1 ≤ l ∧ l ≤ 1099511627776) (C2 : ∀ w, Calls Try.prog 53 #[.int .i64 p, .int .i64 0, .int .i64 (l - 1)] w fun e w' => e = .returned (.bool false) ∧ w' = w) (w : World) :
    Calls Try.prog 28 #[.agg #[.int .i64 k, .int .i64 c, .int .i64 e, .int .i64 n, .int .i64 l, .int .i64 p, .int .i64 pg, .int .i64 sl, .bool wu, .string wd, .bool iu, .string ix, .int .i64 nx]] w fun r w' => r = .returned (.bool false) ∧ Below w.heap.size w w' := by
  have C0 := Lib.hid C0
  have C1 := Lib.hid C1
  have C2 := Lib.hid C2
  go_enter Try.func28, Try.ntmps28
  go_wp2_with fail
  refine (C0.out _).mono ?_
  rintro e w1 ⟨rfl, g1⟩
  obtain ⟨a0, a1, a2, a3, a4, a5, a6, a7, a8, a9, a10, a11, a12⟩ := EntAt.of ((Has.new w _).below g1)
  go_wp2_with (go_at_call 53; first | ((with_reducible refine (C1.out _).mono ?_); rintro e w2 ⟨rfl, rfl⟩) | ((with_reducible refine (C2.out _).mono ?_); rintro e w2 ⟨rfl, rfl⟩))
  go_ret
  exact ⟨rfl, bup (bnew _ _) g1⟩
end Go.Proofs.Ytakdagmkkelnfaa

/-! Which entries can be: entry.Good, put together. -/
namespace Go.Proofs.Ytakdagmkkelnfaa
open Go.RowKit Go.Sort

theorem good_any (x : Ent) (hw : x.wd.size ≤ 9223372036854775807) (hi : x.ix.size ≤ 9223372036854775807) (w : World) :
    Calls Try.prog 28 #[x.val] w fun r w' => r = .returned (.bool x.good) ∧ Below w.heap.size w w' := by
  obtain ⟨k, c, e, n, l, p, pg, sl, wu, wd, iu, ix, nx⟩ := x
  have C0 := known_any c e n
  have C1 := fun w => within_is (n := l) (a := 1) (b := 1099511627776) rfl w
  have C2 := fun w => within_is (n := p) (a := 0) (b := l - 1) rfl w
  have C3 := fun w => within_is (n := pg) (a := 0) (b := 1023) rfl w
  have C4 := fun w => within_is (n := sl) (a := 0) (b := 31) rfl w
  have C5 := isSlot_any wu wd hw
  have C6 := isSlot_any iu ix hi
  have C7 := fun w => within_is (n := nx) (a := 0) (b := p) rfl w
  by_cases b0 : knownB c e n = true
  case neg =>
    have b0 : knownB c e n = false := by simpa using b0
    refine (good_early0 k c e n l p pg sl wu wd iu ix nx (by rw [← b0]; exact C0) w).mono ?_
    rintro r w' ⟨rfl, h⟩
    exact ⟨by simp [Ent.good, Ent.known, b0], h⟩
  by_cases b1 : 1 ≤ l ∧ l ≤ 1099511627776
  case neg =>
    refine (good_early1 k c e n l p pg sl wu wd iu ix nx (by rw [← b0]; exact C0) (by rw [← decide_eq_false b1]; exact C1) w).mono ?_
    rintro r w' ⟨rfl, h⟩
    exact ⟨by simp only [Ent.good, Ent.lsnB, decide_eq_false b1]; simp, h⟩
  by_cases b2 : 0 ≤ p ∧ p ≤ l - 1
  case neg =>
    refine (good_early2 k c e n l p pg sl wu wd iu ix nx (by rw [← b0]; exact C0) (by rw [← decide_eq_true b1]; exact C1) b1 (by rw [← decide_eq_false b2]; exact C2) w).mono ?_
    rintro r w' ⟨rfl, h⟩
    exact ⟨by simp only [Ent.good, Ent.prevB, decide_eq_false b2]; simp, h⟩
  rw [b0] at C0
  rw [decide_eq_true b1] at C1
  rw [decide_eq_true b2] at C2
  have hp : ∀ R : Bool, ((Ent.known ⟨k, c, e, n, l, p, pg, sl, wu, wd, iu, ix, nx⟩ && (Ent.lsnB ⟨k, c, e, n, l, p, pg, sl, wu, wd, iu, ix, nx⟩ && Ent.prevB ⟨k, c, e, n, l, p, pg, sl, wu, wd, iu, ix, nx⟩)) && R) = R := by
    intro R
    simp only [Ent.known, Ent.lsnB, Ent.prevB, b0, decide_eq_true b1, decide_eq_true b2]
    simp
  unfold Ent.good
  rw [hp]
  by_cases k1 : k = 1
  · subst k1
    exact good_one c e n l p pg sl wu wd iu ix nx _ _ _ _ _ C0 C1 b1 C2 C3 C4 C5 C6 C7 w
  by_cases k2 : k = 2
  · subst k2
    exact good_two c e n l p pg sl wu wd iu ix nx _ _ _ _ _ C0 C1 b1 C2 C3 C4 C5 C6 C7 w
  by_cases k3 : k = 3
  · subst k3
    exact good_three c e n l p pg sl wu wd iu ix nx _ _ _ _ _ C0 C1 b1 C2 C3 C4 C5 C6 C7 w
  by_cases k4 : k = 4
  · subst k4
    exact good_four c e n l p pg sl wu wd iu ix nx _ _ _ _ _ C0 C1 b1 C2 C3 C4 C5 C6 C7 w
  refine (good_else k c e n l p pg sl wu wd iu ix nx _ _ _ _ _ C0 C1 b1 C2 C3 C4 C5 C6 C7 (by simpa using k1) (by simpa using k2) (by simpa using k3) (by simpa using k4) w).mono ?_
  rintro r w' ⟨rfl, h⟩
  exact ⟨by simp [k1, k2, k3, k4], h⟩
end Go.Proofs.Ytakdagmkkelnfaa
