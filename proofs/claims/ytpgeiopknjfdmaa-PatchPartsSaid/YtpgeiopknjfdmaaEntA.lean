/-
  An entry, and which entries can be: the small functions.
-/
import Derived.Test.YtpgeiopknjfdmaaBytes
import Derived.Test.YtpgeiopknjfdmaaBut
import Derived.Deep.QuietTactic
import Derived.BigQuiet
namespace Go.Proofs.Ytpgeiopknjfdmaa
open Go.RowKit

/-- An entry's fields, one by one. -/
structure Ent where
  kind : Int
  cl : Int
  ep : Int
  n : Int
  lsn : Int
  prev : Int
  page : Int
  slot : Int
  wu : Bool
  wd : ByteArray
  iu : Bool
  ix : ByteArray
  next : Int
def Ent.row (x : Ent) : Array Value := #[.int .i64 x.kind, .int .i64 x.cl, .int .i64 x.ep, .int .i64 x.n, .int .i64 x.lsn, .int .i64 x.prev, .int .i64 x.page, .int .i64 x.slot, .bool x.wu, .string x.wd, .bool x.iu, .string x.ix, .int .i64 x.next]
def Ent.val (x : Ent) : Value := .agg x.row

theorem within_is {n a b : Int} {c : Bool} (h : decide (a ≤ n ∧ n ≤ b) = c) (w : World) :
    Calls Try.prog 33 #[.int .i64 n, .int .i64 a, .int .i64 b] w fun e w' => e = .returned (.bool c) ∧ w' = w := by
  subst h
  by_cases h1 : a ≤ n <;> by_cases h2 : n ≤ b <;>
  · go_enter Try.func33, Try.ntmps33
    go_wp2_with fail
    go_ret
    exact ⟨congrArg (fun b => Ending.returned (.bool b)) (by simp_all), rfl⟩

/-- Whether a name can be a transaction's. -/
def knownB (c e n : Int) : Bool := decide (1 ≤ c ∧ c ≤ 8) && (decide (1 ≤ e ∧ e ≤ 1073741824) && decide (1 ≤ n ∧ n ≤ 1073741824))
theorem known_any (c e n : Int) (w : World) :
    Calls Try.prog 32 #[.agg #[.int .i64 c, .int .i64 e, .int .i64 n]] w fun r w' => r = .returned (.bool (knownB c e n)) ∧ Below w.heap.size w w' := by
  unfold knownB
  obtain ⟨b1, h1⟩ : ∃ b, decide (1 ≤ c ∧ c ≤ 8) = b := ⟨_, rfl⟩
  obtain ⟨b2, h2⟩ : ∃ b, decide (1 ≤ e ∧ e ≤ 1073741824) = b := ⟨_, rfl⟩
  obtain ⟨b3, h3⟩ : ∃ b, decide (1 ≤ n ∧ n ≤ 1073741824) = b := ⟨_, rfl⟩
  have C1 := Lib.hid (within_is h1)
  have C2 := Lib.hid (within_is h2)
  have C3 := Lib.hid (within_is h3)
  rw [h1, h2, h3]
  clear h1 h2 h3
  cases b1 <;> cases b2 <;> cases b3 <;>
  · go_enter Try.func32, Try.ntmps32
    go_wp2_with (first | (with_reducible refine (C1.out _).mono ?_; rintro e w1 ⟨rfl, rfl⟩) | (with_reducible refine (C2.out _).mono ?_; rintro e w1 ⟨rfl, rfl⟩) | (with_reducible refine (C3.out _).mono ?_; rintro e w1 ⟨rfl, rfl⟩))
    go_ret
    exact ⟨rfl, bnew _ _⟩
end Go.Proofs.Ytpgeiopknjfdmaa
