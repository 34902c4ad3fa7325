/-
  The iterator over an image's records.
-/
import Derived.Test.YtklmoigpalhlmaaSlRowP
import Derived.RangeFuncNested
import Derived.RangeFuncBound
import Derived.RangeFuncCalls
import Derived.RangeFuncLeaves
import Derived.Shelf.Abstract
import Derived.Shelf.RegionOpen
import Derived.WalkKit
import Derived.OwnWalkIn
import Derived.TacticsInMore
import Derived.LoopNIn
import Derived.LoopIn
namespace Go.Proofs.Ytklmoigpalhlmaa
open Go.RowKit Go.Shelf
set_option linter.unusedVariables false
set_option linter.unusedSimpArgs false
attribute [local go_sem] Oper.semAt_some

set_option maxRecDepth 100000 in
theorem rows_any (lsn : Int) (A : Option Addr) (n c : Nat) (w : World) :
    Calls Try.prog 27 #[.agg #[.int .i64 lsn, .slice A n c]] w fun e w' => e = .returned (.func (.func 37) #[] #[.pointer (some ⟨w.heap.size, 0, none⟩)]) ∧ w.alloc (.cells #[.int .i64 lsn, .slice A n c] 24) = w' := by
  go_enter Try.func27, Try.ntmps27
  go_wp2
  go_ret
  exact ⟨rfl, rfl⟩
set_option maxRecDepth 100000 in
set_option maxHeartbeats 2000000 in
/-- The records of an image, for whatever loop body keeps what lay below. -/
theorem rows1_in (n : Nat) (hn : 1 ≤ n) (l' Bp : Nat) (w0 : World) (lsn : Int) (A : Option Addr) (m c : Nat) (l : List Sl) (I0 : IsSlots w0 A m c l) (J Jx : List (Nat × ByteArray) → World → Prop) (W : World) (hJa : AbidesFrom W.heap.size J)
    (hY : ∀ pre (x : Nat × ByteArray) W, J pre W → pre.length < l.length → YieldAt Fence.wide (n - 1) Try.prog l' #[.int .i64 (x.1 : Int), .string x.2] W fun e W' =>
      (e = .returned (.bool true) ∧ J (pre ++ [x]) W' ∧ Below w0.heap.size W W') ∨ (e = .returned (.bool false) ∧ Jx (pre ++ [x]) W'))
    (h0 : J [] W) (hB0 : Below w0.heap.size w0 W) (hBp : Has W Bp (.cells #[.int .i64 lsn, .slice A m c] 24)) :
    CallsIn Fence.wide n Try.prog 37 #[.func (.yield l') #[] #[], .pointer (some ⟨Bp, 0, none⟩)] W fun e W' => (∃ v, e = .returned v) ∧
      ((∃ ys, ys = rowS lsn l ∧ J ys W') ∨ (∃ pre, (∃ k, k ≤ l.length ∧ pre = rowF 0 (l.take k) ∧ slGood lsn l = true) ∧ Jx pre W')) := by
  have CG := Lib.hid (fun w h => pgood_any lsn A m c l w h)
  have HI := Lib.hid I0
  have hcap := I0.cap
  have hmost := I0.most
  have hlen := I0.len
  have Hlen := Lib.hid hlen
  have HB0 := Lib.hid hB0
  have HY := Lib.hid hY
  have HJ0 := Lib.hid h0
  have HJa := Lib.hid hJa
  have HP := Lib.hid hBp
  have p0 := hBp.cell 0 _ rfl
  have p1 := hBp.cell 1 _ rfl
  have hpl := hBp.lt
  clear I0 hlen hB0 hY h0 hJa hBp
  obtain ⟨g, hg⟩ : ∃ g, slGood lsn l = g := ⟨_, rfl⟩
  rw [hg] at CG
  have HG := Lib.hid hg
  clear hg
  refine callsIn_of_wp Try.func37 rfl trivial ?_ rfl
  simp only [Try.ntmps37, List.size_toArray, List.length_cons, List.length_nil, Nat.reduceAdd, Nat.reduceSub, Array.replicate_succ, Array.replicate_zero, List.push_toArray, List.append_toArray, List.nil_append, List.cons_append]
  cases g with
  | false =>
    gi_wp2_with (refine ⟨trivial, ?_⟩; gi_at_call 16; refine (callsIn_wide.2 (CG.out _ (HI.out.below HB0.out))).mono ?_; rintro e W1 ⟨rfl, b1⟩)
    refine bodyPost_ret (results_none rfl _ _ _) rfl ?_
    refine ⟨⟨_, rfl⟩, .inl ⟨_, rfl, ?_⟩⟩
    rw [show rowS lsn l = [] by unfold rowS; rw [HG.out]; rfl]
    exact HJa.out _ _ _ none HJ0.out ⟨b1.os, b1.tape, b1.output, b1.size, fun k hk _ => b1.block k hk⟩ (by simp)
  | true =>
    gi_wp2_with (refine ⟨trivial, ?_⟩; gi_at_call 16; refine (callsIn_wide.2 (CG.out _ (HI.out.below HB0.out))).mono ?_; rintro e W1 ⟨rfl, b1⟩; have HP1 := Lib.hid (HP.out.below b1); have p1' := HP1.out.cell 1 _ rfl; have B1 := Lib.hid b1; clear b1)
    have HJ1 := Lib.hid (HJa.out _ _ _ none HJ0.out ⟨B1.out.os, B1.out.tape, B1.out.output, B1.out.size, fun k hk _ => B1.out.block k hk⟩ (by simp))
    have HB1 := Lib.hid (HB0.out.trans (B1.out.mono HB0.out.size))
    clear p0 p1 p1' HP1 HP B1 HB0
    gi_loopw [11] (fun i wr => ∃ k : Nat, k ≤ m ∧ i = .int .i64 k ∧ Hid (J (rowF 0 (l.take k)) wr) ∧ Hid (Below w0.heap.size w0 wr)) (fun i _ => m - (intOf i).toNat)
    case atStart => exact ⟨0, Nat.zero_le _, rfl, HJ1, HB1⟩
    case round =>
      obtain ⟨k, hk, rfl, HJ, HB⟩ := hrel
      by_cases hlt : k < m
      · obtain ⟨b, off, x, rfl, hx, hbl, s0, s1, hs⟩ := (HI.out.below HB.out).at hlt
        have Ht := Lib.hid (rowF_take l k x hx)
        have hJ' := Lib.hid (HJa.out _ _ _ none HJ.out (World.grownBy_alloc wr (.cells #[.bool x.u, .string x.d] 33) none) (by simp))
        have HB' := Lib.hid (HB.out.trans ((bnew wr (.cells #[.bool x.u, .string x.d] 33)).mono HB.out.size))
        have HL : Hid ((rowF 0 (l.take k)).length < l.length) := Lib.hid (by have := rowF_le (l.take k) 0; rw [List.length_take] at this; have := Hlen.out; omega)
        obtain ⟨u, d⟩ := x
        simp only at s0 s1 hs
        clear hx HJ
        cases u with
        | true =>
          obtain ⟨fn, tmps, assign, body, hy, hR⟩ := HY.out _ (k, d) _ hJ'.out HL.out
          simp only at hy
          gi_wp2
          refine hR.mono ?_
          rintro e W3 (⟨rfl, hJ3, hk3⟩ | ⟨rfl, hJx3⟩)
          · have HJ3 := Lib.hid hJ3
            have HK3 := Lib.hid hk3
            clear hJ3 hk3 hR hy
            gi_wp2
            go_roundw
            case rel => exact ⟨k + 1, by omega, by go_num, Lib.hid (by rw [Ht.out]; exact HJ3.out), Lib.hid (HB'.out.trans HK3.out)⟩
            case measure => simp [intOf]; omega
          · have HJ3 := Lib.hid hJx3
            clear hJx3 hR hy
            gi_wp2
            refine bodyPost_ret (results_none rfl _ _ _) rfl ?_
            exact ⟨⟨_, rfl⟩, .inr ⟨_, ⟨k + 1, by have := Hlen.out; omega, Ht.out.symm, HG.out⟩, HJ3.out⟩⟩
        | false =>
          gi_wp2
          refine ⟨fun _ h => (by cases h), ?_⟩
          gi_wp2
          go_roundw
          case rel => exact ⟨k + 1, by omega, by go_num, Lib.hid (by rw [Ht.out, if_neg (by simp), List.append_nil]; exact hJ'.out), HB'⟩
          case measure => simp [intOf]; omega
      · obtain rfl : k = m := by omega
        have Hz : Hid (J (rowS lsn l) wr) := Lib.hid (by
          have := HJ.out
          rw [List.take_of_length_le (by rw [Hlen.out]; omega)] at this
          unfold rowS; rw [if_pos HG.out]; exact this)
        clear HJ
        gi_wp2
        go_end0
        exact ⟨⟨_, rfl⟩, .inl ⟨_, rfl, Hz.out⟩⟩
theorem rows_stops (n : Nat) (hn : 1 ≤ n) (Bp : Nat) (w0 : World) (lsn : Int) (A : Option Addr) (m c : Nat) (l : List Sl) (I0 : IsSlots w0 A m c l) (w : World) (hB0 : Below w0.heap.size w0 w) (hBp : Has w Bp (.cells #[.int .i64 lsn, .slice A m c] 24)) :
    SeqStopsK Fence.wide n Try.prog 37 #[.pointer (some ⟨Bp, 0, none⟩)] (fun x : Nat × ByteArray => #[Value.int .i64 (x.1 : Int), .string x.2]) (Below w0.heap.size) (fun ys => ys = rowS lsn l) (fun pre => ∃ k, k ≤ l.length ∧ pre = rowF 0 (l.take k) ∧ slGood lsn l = true) l.length w := fun l' J Jx W hW hJ _ hY h0 =>
  rows1_in n hn l' Bp w0 lsn A m c l I0 J Jx W hJ hY h0 (hB0.trans (hW.mono hB0.size)) (hBp.below hW)
end Go.Proofs.Ytklmoigpalhlmaa
