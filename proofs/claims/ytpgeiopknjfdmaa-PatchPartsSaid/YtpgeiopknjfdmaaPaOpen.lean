/-
  What comes in, opened: a row of two numbers.
-/
import Derived.Test.YtpgeiopknjfdmaaPaL1
import Derived.Test.YtpgeiopknjfdmaaOpenSl
import Derived.Test.YtpgeiopknjfdmaaEntOpen
import Derived.WalkKit
import Derived.ProofKit
import Derived.Lib.SmallJoins
namespace Go.Proofs.Ytpgeiopknjfdmaa
open Go.RowKit Go.ChangeShapes Go.WideShapes

theorem intCell {w : World} {r : Reach} {base : Nat} {v : Value} (h : Cell.okWide Try.prog w r base 3 v) : ∃ n : Int, v = .int .i64 n := by
  simp only [Cell.okWide, Try.underlying3, Cell.ok] at h
  cases v <;> simp_all
theorem open_arr2 {w : World} {r : Reach} {base : Nat} {v : Value} (h : Value.okWide Try.prog w r base 31 v) :
    ∃ a b : Int, v = .agg #[.int .i64 a, .int .i64 b] := by
  have hC : Try.prog.cellsOf 31 = 2 := by kernel_rfl
  have hT : Try.prog.cellTypes Try.prog.depth 31 = some [3, 3] := by kernel_rfl
  simp only [Value.okWide, Try.underlying31] at h
  obtain ⟨cs, rfl, hs, ts, ht, _, hc⟩ := h
  rw [hT] at ht
  obtain rfl := Option.some.inj ht
  obtain ⟨c0, c1, rfl⟩ := Joins.array2 (hs.trans hC)
  have g : ∀ i v, (#[c0, c1] : Array Value)[i]? = some v → i < 2 → Cell.okWide Try.prog w r base 3 v := by
    intro i v hv hi
    obtain ⟨u, hu, hok⟩ := hc i v hv
    match i, hi with
    | 0, _ => simp at hu; subst hu; exact hok
    | 1, _ => simp at hu; subst hu; exact hok
  obtain ⟨b0, rfl⟩ := intCell (g 0 _ rfl (by omega))
  obtain ⟨b1, rfl⟩ := intCell (g 1 _ rfl (by omega))
  exact ⟨b0, b1, rfl⟩
end Go.Proofs.Ytpgeiopknjfdmaa
