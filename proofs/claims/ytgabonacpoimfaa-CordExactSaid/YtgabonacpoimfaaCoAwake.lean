/-
  The answers that the document of layer 12 fixes by number.
-/
import Derived.Test.YtgabonacpoimfaaCoOk
import Derived.Deep.RegionHeld3
import Derived.Lib.QuietBelow
namespace Go.Proofs.Ytgabonacpoimfaa
open Go.RowKit
set_option linter.unusedVariables false
set_option linter.unusedSimpArgs false

def tA : ByteArray := ⟨#[97]⟩
def tB : ByteArray := ⟨#[98]⟩
def gA : Gr := ⟨0, false, 3, 1, 0, ⟨#[97]⟩⟩
def gB : Gr := ⟨0, false, 3, 2, 0, ⟨#[98]⟩⟩
def gN : Gr := ⟨0, false, 3, 0, 2, ⟨#[]⟩⟩
def ea1 : En := ⟨3, [tA], 1, 0, [], false, 0⟩
def ea2 : En := ⟨3, [tA, tB], 2, 0, [], false, 0⟩
def eb1 : En := ⟨3, [], 0, 0, [(2, tB)], true, 1⟩
def eb2 : En := ⟨3, [], 0, 2, [], true, 2⟩
def eb3 : En := ⟨3, [], 0, 2, [], true, 3⟩
def eb4 : En := ⟨3, [], 0, 2, [], false, 3⟩
theorem aw1 : sendE (En.new 3) ⟨#[97]⟩ = (ea1, 0) := by kernel_rfl
theorem aw2 : sendE ea1 ⟨#[98]⟩ = (ea2, 0) := by kernel_rfl
theorem aw3 : outG ea2 = [gA, gB] := by kernel_rfl
theorem aw4 : outE ea2 = ea2 := by kernel_rfl
theorem aw5 : takeE (En.new 3) gB = (eb1, [], 0) := by kernel_rfl
theorem aw6 : takeE eb1 gA = (eb2, [tA, tB], 0) := by kernel_rfl
theorem aw7 : takeE eb2 gA = (eb3, [], 0) := by kernel_rfl
theorem aw8 : outG eb3 = [gN] := by kernel_rfl
theorem aw9 : outE eb3 = eb4 := by kernel_rfl
theorem eb1_ok : eb1.ok := by have := takeE_ok (En.new_ok 3) gB; rwa [aw5] at this
theorem eb2_ok : eb2.ok := by have := takeE_ok eb1_ok gA; rwa [aw6] at this
/-- A row of datagrams that has some. -/
theorem RowG.there {base : Nat} {w : World} {A : Option Addr} {n cap : Nat} {q : List Gr} (h : RowG base w (.slice A n cap) q) (hn : n = q.length) (h0 : 0 < n) : ∃ g, A = some ⟨g, 0, none⟩ ∧ (Value.slice A n cap).ownBlock = some g ∧ g < w.heap.size ∧ ∀ i x, q[i]? = some x → GrIn w g (i * 6) x := by
  subst hn
  obtain ⟨g, cap', cur, e, hb, hl, _⟩ := ownsRow_at h h0
  injection e with e1 e2 e3
  subst e1
  exact ⟨g, rfl, rfl, hl, fun i x hx => h.at rfl hx⟩
set_option maxRecDepth 100000 in
set_option maxHeartbeats 4000000 in
theorem cordAwake_any (w : World) : Calls Try.prog 8 #[] w fun e w' => e = .returned (.bool true) ∧ Below w.heap.size w w' := by
  obtain ⟨F, hF⟩ : ∃ F : Nat → Prop, F = fun k => k < w.heap.size := ⟨_, rfl⟩
  have H0 : Hid (Held F Emp w) := Lib.hid (Held.emp (fun k hk => by rw [hF] at hk; exact hk))
  have HFB : Hid (∀ k, k < w.heap.size → F k) := Lib.hid (fun k hk => by rw [hF]; exact hk)
  clear hF
  go_enter Try.func8, Try.ntmps8
  go_upto_region 2 with (go_at_call 9; (with_reducible refine (cnew_any 3 _ (by decide) (by decide)).mono ?_); rintro e w1 ⟨rfl, hw1⟩)
  obtain ⟨pa, hpa⟩ : ∃ pa, w.heap.size + 1 = pa := ⟨_, rfl⟩
  rw [hpa]
  have H1 : Hid (Held F (Star (EndR pa (En.new 3)) Emp) w1) := Lib.hid (by rw [← hpa, ← hw1]; exact H0.out.newEnd Emp.good 3)
  have B1 : Hid (Below w.heap.size w w1) := Lib.hid (by rw [← hw1]; exact cordWorld_below w 3)
  clear hw1 hpa H0
  go_upto_region 3 with (go_at_call 9; (with_reducible refine (cnew_any 3 _ (by decide) (by decide)).mono ?_); rintro e w2 ⟨rfl, hw2⟩)
  obtain ⟨pb, hpb⟩ : ∃ pb, w1.heap.size + 1 = pb := ⟨_, rfl⟩
  rw [hpb]
  have EA := Lib.hid (fun E => EndR.good pa E)
  have EB := Lib.hid (fun E => EndR.good pb E)
  have H2 : Hid (Held F (Star (EndR pa (En.new 3)) (Star Emp (EndR pb (En.new 3)))) w2) := Lib.hid (by rw [← hpb, ← hw2]; exact (H1.out.newEnd (Star.good (EA.out _) Emp.good) 3).rot)
  have B2 : Hid (Below w.heap.size w w2) := Lib.hid (by rw [← hw2]; exact bup B1.out (cordWorld_below w1 3))
  clear hw2 hpb H1 B1
  have EE : Hid (Star Emp (EndR pb (En.new 3))).Good := Lib.hid (Star.good Emp.good (EB.out _))
  have HD : Hid (∀ w', Below w2.heap.size w2 w' → Held F (Star (EndR pa (En.new 3)) (Star Emp (EndR pb (En.new 3)))) w') := Lib.hid (fun w' b => H2.out.below (Star.good (EA.out _) EE.out) b)
  have C0 : Hid (∀ w', Calls Try.prog 9 #[.int .i64 0] w' fun e w'' => e = .returned (.pointer none) ∧ w' = w'') := Lib.hid (fun w' => cnew_bad 0 w' (.inl (by decide)))
  have C1 : Hid (∀ w', Held F (Star (EndR pa (En.new 3)) (Star Emp (EndR pb (En.new 3)))) w' → Calls Try.prog 11 #[.pointer (some ⟨pa, 0, none⟩), .string ⟨#[97]⟩] w' fun e w'' => e = .returned (.int .i64 0) ∧ Held F (Star (EndR pa ea1) (Star Emp (EndR pb (En.new 3)))) w'' ∧ KeptF F w' w'') := Lib.hid (fun w' h => by
    have := sendH EE.out pa (En.new 3) ⟨#[97]⟩ w' (by decide) (by decide) h
    rwa [aw1] at this)
  have C2 : Hid (∀ w', Held F (Star (EndR pa ea1) (Star Emp (EndR pb (En.new 3)))) w' → Calls Try.prog 11 #[.pointer (some ⟨pa, 0, none⟩), .string ⟨#[98]⟩] w' fun e w'' => e = .returned (.int .i64 0) ∧ Held F (Star (EndR pa ea2) (Star Emp (EndR pb (En.new 3)))) w'' ∧ KeptF F w' w'') := Lib.hid (fun w' h => by
    have := sendH EE.out pa ea1 ⟨#[98]⟩ w' (by decide) (by decide) h
    rwa [aw2] at this)
  go_upto_region 5 with (fail)
  refine (C0.out _).mono ?_
  rintro e wA ⟨rfl, hA⟩
  have s1 : Below w2.heap.size w2 wA := by
    rw [← hA]
    exact Below.refl _ _
  have hA' := Lib.hid (HD.out _ s1)
  clear hA HD
  go_upto_region 5 with (fail)
  refine (C1.out _ hA'.out).mono ?_
  rintro e wB ⟨rfl, hB, kB⟩
  have s2 : KeptF F w2 wB := (Kept.of s1).trans kB
  have hB' := Lib.hid hB
  clear hB kB hA'
  go_upto_region 5 with (fail)
  refine (C2.out _ hB'.out).mono ?_
  rintro e wC ⟨rfl, hC, kC⟩
  have s3 : KeptF F w2 wC := s2.trans kC
  have B3 := Lib.hid (B2.out.trans (s3.belowB HFB.out B2.out.size))
  have H3 := Lib.hid hC
  clear hC kC hB' s3 s2 s1 B2 C0 C1 C2 H2
  go_upto_region 5 with (fail)
  go_upto_region 6 with (fail)
  have CP := outH EE.out pa ea2 wC (by decide) (by decide) H3.out
  rw [aw3, aw4] at CP
  refine CP.mono ?_
  clear CP
  rintro e w4 ⟨A, cap, rfl, hrow, hfresh, h4, k4⟩
  obtain ⟨g, rfl, hog, hgl, hgr⟩ := hrow.there rfl (by decide)
  have hgw : wC.heap.size ≤ g := hfresh g hog
  obtain ⟨F2, hF2⟩ : ∃ F2 : Nat → Prop, F2 = fun k => F k ∨ (Value.slice (some ⟨g, 0, none⟩) [gA, gB].length cap).ownBlock = some k := ⟨_, rfl⟩
  rw [← hF2] at h4
  have hF2g : F2 g := by rw [hF2]; exact .inr rfl
  have HFB2 : Hid (∀ k, k < w.heap.size → F2 k) := Lib.hid (fun k hk => by rw [hF2]; exact .inl (HFB.out k hk))
  have H4 := Lib.hid h4
  have B4 := Lib.hid (B3.out.trans (k4.belowB HFB.out B3.out.size))
  have G0 := hgr 0 gA rfl
  have G1 := hgr 1 gB rfl
  have GK : Hid (∀ w', KeptF F2 w4 w' → (w'.cell? ⟨g, 0, none⟩ = some (.int .i64 0) ∧ w'.cell? ⟨g, 1, none⟩ = some (.bool false) ∧ w'.cell? ⟨g, 2, none⟩ = some (.int .i64 3) ∧ w'.cell? ⟨g, 3, none⟩ = some (.int .i64 1) ∧ w'.cell? ⟨g, 4, none⟩ = some (.int .i64 0) ∧ w'.cell? ⟨g, 5, none⟩ = some (.string ⟨#[97]⟩)) ∧ w'.cell? ⟨g, 6, none⟩ = some (.int .i64 0) ∧ w'.cell? ⟨g, 7, none⟩ = some (.bool false) ∧ w'.cell? ⟨g, 8, none⟩ = some (.int .i64 3) ∧ w'.cell? ⟨g, 9, none⟩ = some (.int .i64 2) ∧ w'.cell? ⟨g, 10, none⟩ = some (.int .i64 0) ∧ w'.cell? ⟨g, 11, none⟩ = some (.string ⟨#[98]⟩)) := Lib.hid (fun w' k => by
    have c : ∀ {o : Nat} {v : Value}, w4.cell? ⟨g, o, none⟩ = some v → w'.cell? ⟨g, o, none⟩ = some v := fun h => k.cell h (fun e => e hF2g)
    exact ⟨⟨c G0.a0, c G0.a1, c G0.a2, c G0.a3, c G0.a4, c G0.a5⟩, c G1.a0, c G1.a1, c G1.a2, c G1.a3, c G1.a4, c G1.a5⟩)
  clear G0 G1 hgr hF2 h4 k4 hrow hfresh hog H3 B3 HFB
  obtain ⟨_, q0, q1, q2, q3, q4, q5⟩ := GK.out _ (Kept.refl _ _)
  go_upto_region 8 with (fail)
  clear q0 q1 q2 q3 q4 q5
  have PE : Hid (Star (EndR pa ea2) Emp).Good := Lib.hid (Star.good (EA.out _) Emp.good)
  have H5 := Lib.hid H4.out.rot.rot
  clear H4 EE
  obtain ⟨_, q0, q1, q2, q3, q4, q5⟩ := GK.out _ (Kept.refl _ _)
  go_upto_region 9 with (fail)
  have CP := takeH PE.out pb (En.new 3) gB w4 (En.new_ok 3) (by decide) (by decide) H5.out
  rw [aw5] at CP
  refine CP.mono ?_
  clear CP
  rintro e w5 ⟨A5, cap5, rfl, _, _, h5, k5⟩
  have H6 := Lib.hid (h5.less (G := F2) (fun j h => .inl h))
  have B6 := Lib.hid (B4.out.trans (k5.belowB HFB2.out B4.out.size))
  have K6 : Hid (KeptF F2 w4 w5) := Lib.hid k5
  clear h5 k5 H5 B4 q0 q1 q2 q3 q4 q5
  obtain ⟨⟨q0, q1, q2, q3, q4, q5⟩, _⟩ := GK.out _ K6.out
  go_upto_region 9 with (fail)
  go_upto_region 10 with (fail)
  have CP := takeH PE.out pb eb1 gA w5 eb1_ok (by decide) (by decide) H6.out
  rw [aw6] at CP
  refine CP.mono ?_
  clear CP
  rintro e w6 ⟨A6, cap6, rfl, hrow, hfresh, h6, k6⟩
  obtain ⟨g6, o6, rfl, hog, ht, hgl6⟩ := SRow.at hrow (i := 0) (s := tA) rfl
  rw [Nat.add_zero] at ht
  have ht : w6.cell? ⟨g6, o6, none⟩ = some (.string ⟨#[97]⟩) := ht
  obtain ⟨F3, hF3⟩ : ∃ F3 : Nat → Prop, F3 = fun k => F2 k ∨ (Value.slice (some ⟨g6, o6, none⟩) [tA, tB].length cap6).ownBlock = some k := ⟨_, rfl⟩
  rw [← hF3] at h6
  have hF3g : F3 g6 := by rw [hF3]; exact .inr rfl
  have HFB3 : Hid (∀ k, k < w.heap.size → F3 k) := Lib.hid (fun k hk => by rw [hF3]; exact .inl (HFB2.out k hk))
  have HF32 : Hid (∀ k, F2 k → F3 k) := Lib.hid (fun k hk => by rw [hF3]; exact .inl hk)
  have H7 := Lib.hid h6
  have B7 := Lib.hid (B6.out.trans (k6.belowB HFB2.out B6.out.size))
  have K7 : Hid (KeptF F2 w4 w6) := Lib.hid (K6.out.trans k6)
  clear h6 k6 H6 B6 K6 hrow hfresh hog hF3 q0 q1 q2 q3 q4 q5
  obtain ⟨⟨q0, q1, q2, q3, q4, q5⟩, _⟩ := GK.out _ K7.out
  have TK : Hid (∀ w', KeptF F3 w6 w' → w'.cell? ⟨g6, o6, none⟩ = some (.string ⟨#[97]⟩)) := Lib.hid (fun w' k => k.cell ht (fun e => e hF3g))
  clear ht
  go_upto_region 10 with (fail)
  go_upto_region 11 with (fail)
  have CP := takeH PE.out pb eb2 gA w6 eb2_ok (by decide) (by decide) H7.out
  rw [aw7] at CP
  refine CP.mono ?_
  clear CP
  rintro e w7 ⟨A7, cap7, rfl, _, _, h7, k7⟩
  have H8 := Lib.hid (h7.less (G := F3) (fun j h => .inl h))
  have B8 := Lib.hid (B7.out.trans (k7.belowB HFB3.out B7.out.size))
  have K8 : Hid (KeptF F3 w6 w7) := Lib.hid k7
  clear h7 k7 H7 B7 GK K7 HF32 HFB2 hF2g q0 q1 q2 q3 q4 q5
  go_upto_region 11 with (fail)
  go_upto_region 12 with (fail)
  have CP := outH PE.out pb eb3 w7 (by decide) (by decide) H8.out
  rw [aw8, aw9] at CP
  refine CP.mono ?_
  clear CP
  rintro e w8 ⟨A8, cap8, rfl, hrow, hfresh, h8, k8⟩
  obtain ⟨g8, rfl, hog, hgl8, hgr⟩ := hrow.there rfl (by decide)
  have G0 := hgr 0 gN rfl
  have HFB4 : Hid (∀ k, k < w.heap.size → F3 k) := HFB3
  have H9 := Lib.hid h8
  have B9 := Lib.hid (B8.out.trans (k8.belowB HFB3.out B8.out.size))
  have ht := TK.out _ (K8.out.trans k8)
  have q0 : w8.cell? ⟨g8, 0, none⟩ = some (.int .i64 0) := G0.a0
  have q1 : w8.cell? ⟨g8, 1, none⟩ = some (.bool false) := G0.a1
  have q2 : w8.cell? ⟨g8, 2, none⟩ = some (.int .i64 3) := G0.a2
  have q3 : w8.cell? ⟨g8, 3, none⟩ = some (.int .i64 0) := G0.a3
  have q4 : w8.cell? ⟨g8, 4, none⟩ = some (.int .i64 2) := G0.a4
  have q5 : w8.cell? ⟨g8, 5, none⟩ = some (.string ⟨#[]⟩) := G0.a5
  clear h8 k8 H8 B8 K8 TK G0 hgr hog hfresh hrow
  go_upto_region 12 with (fail)
  obtain ⟨F4, hF4⟩ : ∃ F4 : Nat → Prop, F4 = F3 := ⟨_, rfl⟩
  have H10 : Hid (Held F4 (Star (EndR pb eb4) (Star (EndR pa ea2) Emp)) w8) := Lib.hid (by rw [hF4]; exact H9.out.less (fun j h => .inl h))
  have H11 : Hid (Held F4 (Star (EndR pa ea2) (Star Emp (EndR pb eb4))) w8) := Lib.hid H10.out.rot
  clear hF4 H9
  have CEN : ∀ w, (binOp .eql 29 (.agg #[.int .i64 0, .bool false, .int .i64 3, .int .i64 0, .int .i64 2, .string ⟨#[]⟩]) (.agg #[.int .i64 0, .bool false, .int .i64 3, .int .i64 0, .int .i64 2, .string ⟨#[]⟩])).run Try.prog w = .ok (.bool true) w := fun w => by
    have := grEqlBin gN gN w
    rwa [grEq_self] at this
  have e1 : owesE eb4 = false := by kernel_rfl
  go_wp2_with fail
  have CP := owesH pb eb4 w8 H10.out
  rw [e1] at CP
  refine CP.mono ?_
  clear CP
  rintro e w9 ⟨rfl, rfl⟩
  go_wp2_with fail
  refine (gotH pb eb4 w8 H10.out).mono ?_
  rintro e w9 ⟨rfl, rfl⟩
  simp only [show ((eb4.gt : Nat) : Int) = 2 from rfl]
  go_wp2_with fail
  refine (openH pa ea2 w8 H11.out).mono ?_
  rintro e w9 ⟨rfl, rfl⟩
  simp only [show ((ea2.op.length : Nat) : Int) = 2 from rfl]
  go_wp2_with fail
  refine (epochH pa ea2 w8 H11.out).mono ?_
  rintro e w9 ⟨rfl, rfl⟩
  simp only [show ea2.ep = 3 from rfl]
  go_wp2_with fail
  go_ret
  exact ⟨rfl, B9.out⟩
end Go.Proofs.Ytgabonacpoimfaa
