/-
  The answers that the document of layer 13 fixes by number.
-/
import Derived.Test.YtkdopflnaeejeaaMiRes
import Derived.Deep.RegionHeld3
import Derived.Lib.QuietBelow
namespace Go.Proofs.Ytkdopflnaeejeaa
open Go.RowKit
set_option linter.unusedVariables false
set_option linter.unusedSimpArgs false

def gOf (s : ByteArray) : Gr := ⟨1, true, 0, 0, 0, s⟩
def gA : Gr := gOf ⟨#[97]⟩
def gB : Gr := gOf ⟨#[98]⟩
set_option maxRecDepth 100000 in
theorem gram_any (s : ByteArray) (w : World) :
    Calls Try.prog 12 #[.string s] w fun e w' => e = .returned (gOf s).val ∧ Below w.heap.size w w' := by
  obtain ⟨fs, hu⟩ := gramUnd
  go_enter Try.func12, Try.ntmps12
  go_wp2_with fail
  (try simp only [Exit.inBlock, Exit.then])
  refine bodyPost_ret (v := .agg #[.int .i64 1, .bool true, .int .i64 0, .int .i64 0, .int .i64 0, .string s]) ?_ rfl ⟨rfl, bnew w _⟩
  exact results_cell_row rfl _ _ w.heap.size _ _ _ _ rfl (Has.new w _) hu rfl (by kernel_rfl)
theorem aw1 : putG [] gA = ([gA], 0) := by kernel_rfl
theorem aw2 : putG [gA] gB = ([gA, gB], 0) := by kernel_rfl
theorem aw3 : copyG [gA, gB] 1 true 0 = ([gA, gB, gA], true) := by kernel_rfl
theorem aw4 : cnt 1 true [gA, gB, gA] = 3 := by kernel_rfl
theorem aw5 : pickG [gA, gB, gA] 1 true 1 = ([gA, gA], gB, true) := by kernel_rfl
theorem aw6 : pullG [gA, gA] 0 = ([gA], gA, true) := by kernel_rfl
theorem aw7 : putG [gA] Gr.none = ([gA], 1) := by kernel_rfl
theorem aw8 : clearG [gA] 1 = ([], 1) := by kernel_rfl
theorem aw9 : cnt 1 true [] = 0 := by kernel_rfl
set_option maxRecDepth 100000 in
set_option maxHeartbeats 4000000 in
theorem mistAwake_any (w : World) : Calls Try.prog 7 #[] w fun e w' => e = .returned (.bool true) ∧ Below w.heap.size w w' := by
  have eE := Emp.good
  obtain ⟨F, hF⟩ : ∃ F : Nat → Prop, F = fun k => k < w.heap.size := ⟨_, rfl⟩
  have H1 : Hid (Held F (Star (NetR 53 w.heap.size []) Emp) (w.alloc (.cells #[.slice none 0 0] 53))) := Lib.hid (Held.newNet Emp.good (Held.emp (fun k hk => by rw [hF] at hk; exact hk)) _)
  have HFB : Hid (∀ k, k < w.heap.size → F k) := Lib.hid (fun k hk => by rw [hF]; exact hk)
  have CG := Lib.hid (fun s w => gram_any s w)
  clear hF
  go_enter Try.func7, Try.ntmps7
  go_wp2_with (go_at_call 8; (with_reducible refine (new_any _).mono ?_); rintro e w1 ⟨rfl, rfl⟩)
  have eN := fun q => Star.good (NetR.good 53 w.heap.size q) Emp.good
  have EN := Lib.hid eN
  clear eE eN
  have B1 := Lib.hid (bnew w (.cells #[.slice none 0 0] 53))
  refine (CG.out _ _).mono ?_
  rintro e w2 ⟨rfl, b2⟩
  have H2 := Lib.hid (H1.out.below (EN.out _) b2)
  have B2 := Lib.hid (bup B1.out b2)
  clear b2
  go_wp2_with fail
  have CP := putH Emp.good w.heap.size [] gA w2 (by decide) H2.out
  rw [aw1] at CP
  refine CP.mono ?_
  clear CP
  rintro e w3 ⟨rfl, h3, k3⟩
  have H3 := Lib.hid h3
  have B3 := Lib.hid (B2.out.trans (k3.belowB HFB.out B2.out.size))
  clear h3 k3 H2
  go_wp2_with fail
  refine (CG.out _ _).mono ?_
  rintro e w4 ⟨rfl, b4⟩
  have H4 := Lib.hid (H3.out.below (EN.out _) b4)
  have B4 := Lib.hid (bup B3.out b4)
  clear b4 H3
  go_wp2_with fail
  have CP := putH Emp.good w.heap.size [gA] gB w4 (by decide) H4.out
  rw [aw2] at CP
  refine CP.mono ?_
  clear CP
  rintro e w5 ⟨rfl, h5, k5⟩
  have H5 := Lib.hid h5
  have B5 := Lib.hid (B4.out.trans (k5.belowB HFB.out B4.out.size))
  clear h5 k5 H4
  go_wp2_with fail
  have CP := copyH Emp.good w.heap.size [gA, gB] 1 true 0 w5 (by decide) (by decide) (by decide) H5.out
  rw [aw3] at CP
  refine CP.mono ?_
  clear CP
  rintro e w6 ⟨rfl, h6, k6⟩
  have H6 := Lib.hid h6
  have B6 := Lib.hid (B5.out.trans (k6.belowB HFB.out B5.out.size))
  clear h6 k6 H5
  go_wp2_with fail
  have CP := countH Emp.good w.heap.size [gA, gB, gA] 1 true w6 H6.out
  rw [aw4] at CP
  refine CP.mono ?_
  clear CP
  rintro e w7 ⟨rfl, h7, b7⟩
  have H7 := Lib.hid h7
  have B7 := Lib.hid (bup B6.out b7)
  clear h7 b7 H6
  go_wp2_with fail
  have CP := pickH Emp.good w.heap.size [gA, gB, gA] 1 true 1 w7 (by decide) (by decide) H7.out
  rw [aw5] at CP
  refine CP.mono ?_
  clear CP
  rintro e w8 ⟨rfl, h8, k8⟩
  have H8 := Lib.hid h8
  have B8 := Lib.hid (B7.out.trans (k8.belowB HFB.out B7.out.size))
  clear h8 k8 H7
  have eB : gB.val = .agg #[.int .i64 1, .bool true, .int .i64 0, .int .i64 0, .int .i64 0, .string ⟨#[98]⟩] := rfl
  have eA : gA.val = .agg #[.int .i64 1, .bool true, .int .i64 0, .int .i64 0, .int .i64 0, .string ⟨#[97]⟩] := rfl
  have EA := Lib.hid eA
  simp only [eB]
  clear eA eB
  go_wp2_with fail
  have H8' : Hid (Held (fun k => F k ∨ k = w8.heap.size) (Star (NetR 53 w.heap.size [gA, gA]) Emp) (w8.alloc (.cells #[.int .i64 1, .bool true, .int .i64 0, .int .i64 0, .int .i64 0, .string ⟨#[98]⟩] 27))) := Lib.hid (H8.out.more (EN.out _) (bnew w8 _) (fun j hj => hj.imp id (fun e => by subst e; simp)))
  have CP := eldestH Emp.good w.heap.size [gA, gA] _ H8'.out
  rw [aw6] at CP
  refine CP.mono ?_
  clear CP
  rintro e w9 ⟨rfl, h9, k9⟩
  have X9 := Lib.hid ((Has.new w8 (.cells #[.int .i64 1, .bool true, .int .i64 0, .int .i64 0, .int .i64 0, .string ⟨#[98]⟩] 27)).keptF k9 (.inr rfl))
  have H9 := Lib.hid h9
  have B9 := Lib.hid ((bup B8.out (bnew w8 (.cells #[.int .i64 1, .bool true, .int .i64 0, .int .i64 0, .int .i64 0, .string ⟨#[98]⟩] 27))).trans (k9.belowB (fun k hk => .inl (HFB.out k hk)) (Nat.le_trans B8.out.size (bnew w8 (.cells #[.int .i64 1, .bool true, .int .i64 0, .int .i64 0, .int .i64 0, .string ⟨#[98]⟩] 27)).size)))
  have eA : gA.val = .agg #[.int .i64 1, .bool true, .int .i64 0, .int .i64 0, .int .i64 0, .string ⟨#[97]⟩] := rfl
  simp only [eA]
  clear h9 k9 H8' H8 eA
  go_upto_region 6 with (fail)
  have X10 := Lib.hid (X9.out.alloc (.cells #[.int .i64 1, .bool true, .int .i64 0, .int .i64 0, .int .i64 0, .string ⟨#[97]⟩] 27))
  have Y10 := Lib.hid (Has.new w9 (.cells #[.int .i64 1, .bool true, .int .i64 0, .int .i64 0, .int .i64 0, .string ⟨#[97]⟩] 27))
  have H10 : Hid (Held (fun k => (F k ∨ k = w8.heap.size) ∨ k = w9.heap.size) (Star (NetR 53 w.heap.size [gA]) Emp) (w9.alloc (.cells #[.int .i64 1, .bool true, .int .i64 0, .int .i64 0, .int .i64 0, .string ⟨#[97]⟩] 27))) := Lib.hid (H9.out.more (EN.out _) (bnew w9 _) (fun j hj => hj.imp id (fun e => by subst e; simp)))
  have B10 := Lib.hid (bup B9.out (bnew w9 (.cells #[.int .i64 1, .bool true, .int .i64 0, .int .i64 0, .int .i64 0, .string ⟨#[97]⟩] 27)))
  generalize hw10 : World.alloc w9 _ = wr
  rw [hw10] at X10 Y10 H10 B10
  clear hw10 H9 B9 X9
  obtain ⟨G, hG⟩ : ∃ G : Nat → Prop, G = fun k => (F k ∨ k = w8.heap.size) ∨ k = w9.heap.size := ⟨_, rfl⟩
  have HGF : Hid (∀ k, k < w.heap.size → G k) := Lib.hid (fun k hk => by rw [hG]; exact .inl (.inl (HFB.out k hk)))
  have hG8 : G w8.heap.size := by rw [hG]; exact .inl (.inr rfl)
  have hG9 : G w9.heap.size := by rw [hG]; exact .inr rfl
  rw [← hG] at H10
  have HK : Hid (∀ w', KeptF G wr w' → (fun w' => w'.cell? ⟨w8.heap.size, 0, none⟩ = some (.int .i64 1) ∧ w'.cell? ⟨w8.heap.size, 1, none⟩ = some (.bool true) ∧ w'.cell? ⟨w8.heap.size, 2, none⟩ = some (.int .i64 0) ∧ w'.cell? ⟨w8.heap.size, 3, none⟩ = some (.int .i64 0) ∧ w'.cell? ⟨w8.heap.size, 4, none⟩ = some (.int .i64 0) ∧ w'.cell? ⟨w8.heap.size, 5, none⟩ = some (.string ⟨#[98]⟩) ∧ w'.cell? ⟨w9.heap.size, 0, none⟩ = some (.int .i64 1) ∧ w'.cell? ⟨w9.heap.size, 1, none⟩ = some (.bool true) ∧ w'.cell? ⟨w9.heap.size, 2, none⟩ = some (.int .i64 0) ∧ w'.cell? ⟨w9.heap.size, 3, none⟩ = some (.int .i64 0) ∧ w'.cell? ⟨w9.heap.size, 4, none⟩ = some (.int .i64 0) ∧ w'.cell? ⟨w9.heap.size, 5, none⟩ = some (.string ⟨#[97]⟩)) w') := Lib.hid (fun w' k => by
    have x := X10.out.keptF k hG8
    have y := Y10.out.keptF k hG9
    exact ⟨x.cell 0 _ rfl, x.cell 1 _ rfl, x.cell 2 _ rfl, x.cell 3 _ rfl, x.cell 4 _ rfl, x.cell 5 _ rfl, y.cell 0 _ rfl, y.cell 1 _ rfl, y.cell 2 _ rfl, y.cell 3 _ rfl, y.cell 4 _ rfl, y.cell 5 _ rfl⟩)
  have CGB : Hid (∀ w, Calls Try.prog 12 #[.string ⟨#[98]⟩] w fun e w' => e = .returned (.agg #[.int .i64 1, .bool true, .int .i64 0, .int .i64 0, .int .i64 0, .string ⟨#[98]⟩]) ∧ Below w.heap.size w w') := Lib.hid (fun w => CG.out ⟨#[98]⟩ w)
  have CGA : Hid (∀ w, Calls Try.prog 12 #[.string ⟨#[97]⟩] w fun e w' => e = .returned (.agg #[.int .i64 1, .bool true, .int .i64 0, .int .i64 0, .int .i64 0, .string ⟨#[97]⟩]) ∧ Below w.heap.size w w') := Lib.hid (fun w => CG.out ⟨#[97]⟩ w)
  have CP : Hid (∀ w', Held G (Star (NetR 53 w.heap.size [gA]) Emp) w' → Calls Try.prog 9 #[.pointer (some ⟨w.heap.size, 0, none⟩), .agg #[.int .i64 0, .bool false, .int .i64 0, .int .i64 0, .int .i64 0, .string ⟨#[]⟩]] w' fun e w'' => e = .returned (.int .i64 1) ∧ Held G (Star (NetR 53 w.heap.size [gA]) Emp) w'' ∧ KeptF G w' w'') := Lib.hid (fun w' h => by
    have := putH Emp.good w.heap.size [gA] Gr.none w' (by decide) h
    rw [aw7] at this
    exact this)
  have CC : Hid (∀ w', Held G (Star (NetR 53 w.heap.size [gA]) Emp) w' → Calls Try.prog 14 #[.pointer (some ⟨w.heap.size, 0, none⟩), .int .i64 1] w' fun e w'' => e = .returned (.int .i64 1) ∧ Held G (Star (NetR 53 w.heap.size []) Emp) w'' ∧ KeptF G w' w'') := Lib.hid (fun w' h => by
    have := clearH Emp.good w.heap.size [gA] 1 w' h
    rw [aw8] at this
    exact this)
  have CN : Hid (∀ w', Held G (Star (NetR 53 w.heap.size []) Emp) w' → Calls Try.prog 13 #[.pointer (some ⟨w.heap.size, 0, none⟩), .int .i64 1, .bool true] w' fun e w'' => e = .returned (.int .i64 0) ∧ Held G (Star (NetR 53 w.heap.size []) Emp) w'' ∧ Below w'.heap.size w' w'') := Lib.hid (fun w' h => by
    have := countH Emp.good w.heap.size [] 1 true w' h
    rw [aw9] at this
    exact this)
  have CEB : ∀ w, (binOp .eql 27 (.agg #[.int .i64 1, .bool true, .int .i64 0, .int .i64 0, .int .i64 0, .string ⟨#[98]⟩]) (.agg #[.int .i64 1, .bool true, .int .i64 0, .int .i64 0, .int .i64 0, .string ⟨#[98]⟩])).run Try.prog w = .ok (.bool true) w := fun w => by
    have := grEqlBin gB gB w
    rwa [grEq_self] at this
  have CEA : ∀ w, (binOp .eql 27 (.agg #[.int .i64 1, .bool true, .int .i64 0, .int .i64 0, .int .i64 0, .string ⟨#[97]⟩]) (.agg #[.int .i64 1, .bool true, .int .i64 0, .int .i64 0, .int .i64 0, .string ⟨#[97]⟩])).run Try.prog w = .ok (.bool true) w := fun w => by
    have := grEqlBin gA gA w
    rwa [grEq_self] at this
  clear hG hG8 hG9 X10 Y10 CG EA HFB
  have HD := Lib.hid (fun (w' : World) (b : Below wr.heap.size wr w') => H10.out.below (EN.out _) b)
  go_region_held3 (fun w' => w'.cell? ⟨w8.heap.size, 0, none⟩ = some (.int .i64 1) ∧ w'.cell? ⟨w8.heap.size, 1, none⟩ = some (.bool true) ∧ w'.cell? ⟨w8.heap.size, 2, none⟩ = some (.int .i64 0) ∧ w'.cell? ⟨w8.heap.size, 3, none⟩ = some (.int .i64 0) ∧ w'.cell? ⟨w8.heap.size, 4, none⟩ = some (.int .i64 0) ∧ w'.cell? ⟨w8.heap.size, 5, none⟩ = some (.string ⟨#[98]⟩) ∧ w'.cell? ⟨w9.heap.size, 0, none⟩ = some (.int .i64 1) ∧ w'.cell? ⟨w9.heap.size, 1, none⟩ = some (.bool true) ∧ w'.cell? ⟨w9.heap.size, 2, none⟩ = some (.int .i64 0) ∧ w'.cell? ⟨w9.heap.size, 3, none⟩ = some (.int .i64 0) ∧ w'.cell? ⟨w9.heap.size, 4, none⟩ = some (.int .i64 0) ∧ w'.cell? ⟨w9.heap.size, 5, none⟩ = some (.string ⟨#[97]⟩)) ((refine HK.out _ ?_; first | exact Kept.of ((Below.refl _ _).drew) | exact Kept.of s1 | exact Kept.of s2 | exact s3 | exact s4 | exact s5))
    (first
    | (go_at_call 12; refine (CGB.out _).mono ?_; rintro e wA ⟨rfl, bA⟩; have s1 : Below wr.heap.size wr wA := ⟨bA.os, bA.tape, bA.output, bA.size, bA.block⟩)
    | (go_at_call 12; refine (CGA.out _).mono ?_; rintro e wB ⟨rfl, bB⟩; have s2 : Below wr.heap.size wr wB := bup s1 bB)
    | (go_at_call 9; refine (CP.out _ (HD.out _ s2)).mono ?_; rintro e wC ⟨rfl, hC, kC⟩; have s3 : KeptF G wr wC := (Kept.of s2).trans kC; have hC' := Lib.hid hC; clear hC kC)
    | (go_at_call 14; refine (CC.out _ hC'.out).mono ?_; rintro e wD ⟨rfl, hD, kD⟩; have s4 : KeptF G wr wD := s3.trans kD; have hD' := Lib.hid hD; clear hD kD)
    | (go_at_call 13; refine (CN.out _ hD'.out).mono ?_; rintro e wE ⟨rfl, hE, bE⟩; have s5 : KeptF G wr wE := s4.trans (Kept.of bE); clear hE bE))
  all_goals
    go_wp2_with fail
    go_ret
    exact ⟨rfl, B10.out.trans (s5.belowB HGF.out B10.out.size)⟩
end Go.Proofs.Ytkdopflnaeejeaa
