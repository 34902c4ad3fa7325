/-
  The walk of a statement of layer 3: what comes of a put.
-/
import Derived.Test.YtklmoigpalhlmaaSlN
import Derived.Lib.QuietBelow
namespace Go.Proofs.Ytklmoigpalhlmaa
open Go.RowKit Go.Sort
set_option linter.unusedVariables false
set_option linter.unusedSimpArgs false

/-- An image and a slot lie where they were laid. -/
def Two (w : World) (lsn : Int) (A : Option Addr) (n c : Nat) (l : List Sl) (x : Sl) (v : World) : Prop :=
  Has v w.heap.size (.cells #[.int .i64 lsn, .slice A n c] 24) ∧ Has v (w.heap.size + 1) (.cells #[.bool x.u, .string x.d] 33) ∧ IsSlots v A n c l ∧ Below w.heap.size w v
section
variable {w v u : World} {lsn : Int} {A : Option Addr} {n c : Nat} {l : List Sl} {x : Sl}
theorem Two.go (h : Two w lsn A n c l x v) (b : Below v.heap.size v u) : Two w lsn A n c l x u := ⟨h.1.below b, h.2.1.below b, h.2.2.1.below b, bup h.2.2.2 b⟩
theorem Two.cells (h : Two w lsn A n c l x v) : v.cell? ⟨w.heap.size, 0, none⟩ = some (.int .i64 lsn) ∧ v.cell? ⟨w.heap.size, 1, none⟩ = some (.slice A n c) ∧ v.cell? ⟨w.heap.size + 1, 0, none⟩ = some (.bool x.u) ∧ v.cell? ⟨w.heap.size + 1, 1, none⟩ = some (.string x.d) :=
  ⟨h.1.cell 0 _ rfl, h.1.cell 1 _ rfl, h.2.1.cell 0 _ rfl, h.2.1.cell 1 _ rfl⟩
theorem Two.lt (h : Two w lsn A n c l x v) : w.heap.size < v.heap.size ∧ w.heap.size + 1 < v.heap.size := ⟨h.1.lt, h.2.1.lt⟩
theorem Two.start (I : IsSlots w A n c l) (lsn : Int) (x : Sl) : Two w lsn A n c l x ((w.alloc (.cells #[.int .i64 lsn, .slice A n c] 24)).alloc (.cells #[.bool x.u, .string x.d] 33)) :=
  ⟨(Has.new w _).alloc _, Has.new1 w _ _, (I.alloc _).alloc _, bup (bnew w _) (bnew _ _)⟩
end
set_option maxRecDepth 100000 in
set_option maxHeartbeats 8000000 in
theorem SlabPuts_walk (lsn : Int) (A : Option Addr) (n c : Nat) (l : List Sl) (w : World) (I : IsSlots w A n c l) (_ : (Lit.int .i64 lsn).wf = true) (slot : Int) (_ : (Lit.int .i64 slot).wf = true) (x : Sl) (hx : x.d.size ≤ 140737488351232) :
    Calls Try.prog 5 #[.agg #[.int .i64 lsn, .slice A n c], .int .i64 slot, .agg #[.bool x.u, .string x.d]] w fun e w' => e = .returned (.bool true) ∧ Below w.heap.size w w' := by
  have CA := Lib.hid (fun w => slabAwake_any w)
  have CR := Lib.hid (fun w h => great_any lsn A n c l w h)
  have T0 := Lib.hid (Two.start I lsn x)
  clear I
  obtain ⟨g1, hg1⟩ : ∃ g, slGreat l = g := ⟨_, rfl⟩
  rw [hg1] at CR
  clear hg1
  by_cases hgo : g1 = false ∧ x.d.size ≤ 4096
  · obtain ⟨rfl, hx4⟩ := hgo
    have C1 := Lib.hid (fun w h => pat_any lsn A n c l slot w h)
    have C2 := Lib.hid (fun w h => rat_any lsn A n c l slot w h)
    have C3 := Lib.hid (fun w h => pput_any lsn A n c l slot x w h hx)
    have C4 := Lib.hid (fun w h => rput_any lsn A n c l slot x w h hx)
    have C5 := Lib.hid (fun w h => pvac_any lsn A n c l slot w h)
    have C6 := Lib.hid (fun w h => rvac_any lsn A n c l slot w h)
    obtain ⟨y, hy⟩ : ∃ y, slAt lsn l slot = y := ⟨_, rfl⟩
    rw [hy] at C1 C2
    obtain ⟨R, hR⟩ : ∃ R, putRes lsn l slot x = R := ⟨_, rfl⟩
    rw [hR] at C3 C4
    obtain ⟨V, hV⟩ : ∃ V, vacRes lsn l slot = V := ⟨_, rfl⟩
    rw [hV] at C5 C6
    obtain ⟨r1, r2, r3⟩ := R
    obtain ⟨v1, v2⟩ := V
    simp only at C5 C6
    have C7 := Lib.hid (fun A1 n1 c1 A2 n2 c2 w h1 h2 => psame_any r1 A1 n1 c1 r2 r1 A2 n2 c2 r2 w h1 h2)
    rw [(pgSame_iff r1 r1 r2 r2).2 ⟨rfl, rfl⟩] at C7
    clear hy hR hV
    go_enter Try.func5, Try.ntmps5
    go_wp2_with fail
    refine (CA.out _).mono ?_
    rintro e w0 ⟨rfl, b0⟩
    replace T0 := Lib.hid (T0.out.go b0)
    clear b0
    obtain ⟨p0, p1, x0, x1⟩ := T0.out.cells
    go_wp2_with fail
    refine (CR.out _ T0.out.2.2.1).mono ?_
    rintro e w1 ⟨rfl, b1⟩
    have T1 := Lib.hid (T0.out.go b1)
    clear b1 p0 p1 x0 x1 T0
    obtain ⟨p0, p1, x0, x1⟩ := T1.out.cells
    go_upto_region 5 with (fail)
    have h1 := T1.out.2.2.1
    have p0 := cell_regrown p0
    have p1 := cell_regrown p1
    have c1 := fun d os => Calls.regrown_of (C1.out (grow (redrawn w1 d) os) (h1.below (below_regrown _ _ _)))
    have c2 := fun d os => Calls.regrown_of (C2.out (grow (redrawn w1 d) os) (h1.below (below_regrown _ _ _)))
    have CE := fun w => slNeqBin y y w
    rw [(slEq_iff y y).2 rfl] at CE
    replace h1 := Lib.hid h1
    refine wp_region_quiet_below (by kernel_rfl) (by kernel_rfl) ?_
    repeat (quiet_step (first | exact c1 _ _ | exact c2 _ _))
    refine wpQuiet_nil ?_
    intro _ hw7
    obtain ⟨⟨dq, osq⟩, hw8⟩ := hw7
    subst hw8
    have T2 := Lib.hid (T1.out.go (below_regrown w1 dq osq))
    generalize grow (redrawn w1 dq) osq = w2 at *
    clear p0 p1 x0 x1 T1 c1 c2 h1 CE
    obtain ⟨p0, p1, x0, x1⟩ := T2.out.cells
    go_wp2_with fail
    refine (C3.out _ T2.out.2.2.1).mono ?_
    rintro e w3 ⟨A3, n3, c3, rfl, I3, b3⟩
    have T3 := Lib.hid ((T2.out.go b3).go (bnew w3 (.cells #[.int .i64 r1, .slice A3 n3 c3] 24)))
    have Q3 := Lib.hid (Has.new w3 (.cells #[.int .i64 r1, .slice A3 n3 c3] 24))
    have I3' := Lib.hid (I3.alloc (.cells #[.int .i64 r1, .slice A3 n3 c3] 24))
    clear b3 I3 p0 p1 x0 x1 T2
    go_upto_region 8 with (fail)
    generalize hw4 : World.alloc w3 _ = w4
    rw [hw4] at T3 Q3 I3'
    have hq4 : w3.heap.size < w4.heap.size := Q3.out.lt
    clear hw4
    obtain ⟨p0, p1, x0, x1⟩ := T3.out.cells
    go_wp2_with fail
    refine (C4.out _ T3.out.2.2.1).mono ?_
    rintro e w5 ⟨A5, n5, c5, rfl, I5, b5⟩
    have T5 := Lib.hid ((T3.out.go b5).go (bnew w5 (.cells #[.int .i64 r1, .slice A5 n5 c5] 24)))
    have Q5 := Lib.hid ((Q3.out.below b5).alloc (.cells #[.int .i64 r1, .slice A5 n5 c5] 24))
    have I5' := Lib.hid ((I3'.out.below b5).alloc (.cells #[.int .i64 r1, .slice A5 n5 c5] 24))
    have U5 := Lib.hid (Has.new w5 (.cells #[.int .i64 r1, .slice A5 n5 c5] 24))
    have J5 := Lib.hid (I5.alloc (.cells #[.int .i64 r1, .slice A5 n5 c5] 24))
    clear b5 I5 p0 p1 x0 x1 T3 Q3 I3'
    go_upto_region 9 with (fail)
    generalize hw6 : World.alloc w5 _ = w6
    rw [hw6] at T5 Q5 I5' U5 J5
    clear hw6
    have q0 := Q5.out.cell 0 _ rfl
    have q1 := Q5.out.cell 1 _ rfl
    have u0 := U5.out.cell 0 _ rfl
    have u1 := U5.out.cell 1 _ rfl
    go_wp2_with fail
    refine (C7.out _ _ _ _ _ _ _ I5'.out J5.out).mono ?_
    rintro e w7 ⟨rfl, b7⟩
    have T7 := Lib.hid (T5.out.go b7)
    clear b7 q0 q1 u0 u1 T5 Q5 I5' U5 J5
    obtain ⟨p0, p1, x0, x1⟩ := T7.out.cells
    go_wp2_with fail
    refine (C5.out _ T7.out.2.2.1).mono ?_
    rintro e w8 ⟨rfl, b8⟩
    have T8 := Lib.hid (T7.out.go b8)
    clear b8 p0 p1 x0 x1 T7
    obtain ⟨p0, p1, x0, x1⟩ := T8.out.cells
    go_wp2_with fail
    refine (C6.out _ T8.out.2.2.1).mono ?_
    rintro e w9 ⟨rfl, b9⟩
    go_wp2_with fail
    go_ret
    exact ⟨by simp, bup T8.out.2.2.2 b9⟩
  · go_enter Try.func5, Try.ntmps5
    go_wp2_with fail
    refine (CA.out _).mono ?_
    rintro e w0 ⟨rfl, b0⟩
    replace T0 := Lib.hid (T0.out.go b0)
    clear b0
    obtain ⟨p0, p1, x0, x1⟩ := T0.out.cells
    go_wp2_with fail
    refine (CR.out _ T0.out.2.2.1).mono ?_
    rintro e w1 ⟨rfl, b1⟩
    have T1 := Lib.hid (T0.out.go b1)
    clear b1 p0 p1 x0 x1 T0
    obtain ⟨p0, p1, x0, x1⟩ := T1.out.cells
    cases g1 with
    | true =>
      clear hgo
      go_wp2_with fail
      go_ret
      exact ⟨rfl, T1.out.2.2.2⟩
    | false =>
      have hxx : 4096 < x.d.size := by
        rcases Nat.lt_or_ge 4096 x.d.size with h | h
        · exact h
        · exact absurd ⟨rfl, h⟩ hgo
      clear hgo
      go_wp2_with fail
      go_ret
      exact ⟨rfl, T1.out.2.2.2⟩
end Go.Proofs.Ytklmoigpalhlmaa
