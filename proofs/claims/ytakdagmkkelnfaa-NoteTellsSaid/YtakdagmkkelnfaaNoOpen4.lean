/-
  A row of four bytes that came in.
-/
import Derived.Test.YtakdagmkkelnfaaNoLaw5
import Derived.Lib.SmallJoins
namespace Go.Proofs.Ytakdagmkkelnfaa
open Go.RowKit Go.ChangeShapes Go.WideShapes

set_option maxRecDepth 100000 in
theorem byteCell {w : World} {r : Reach} {base : Nat} {v : Value} (h : Cell.okWide Try.prog w r base 5 v) : ∃ b : UInt8, v = .int .u8 (b.toNat : Int) := by
  simp only [Cell.okWide, Try.underlying5, Cell.ok] at h
  cases v <;> simp_all
  rename_i k n
  obtain ⟨rfl, h1⟩ := h
  refine ⟨UInt8.ofNat n.toNat, ?_⟩
  have h2 : 0 ≤ n ∧ n < 256 := by
    simp [IntKind.has, IntKind.min, IntKind.max, IntKind.bits, IntKind.signed] at h1
    omega
  simp
  omega
set_option maxRecDepth 100000 in
theorem open_arr4 {w : World} {r : Reach} {base : Nat} {v : Value} (h : Value.okWide Try.prog w r base 44 v) :
    ∃ b0 b1 b2 b3 : UInt8, v = .agg #[.int .u8 (b0.toNat : Int), .int .u8 (b1.toNat : Int), .int .u8 (b2.toNat : Int), .int .u8 (b3.toNat : Int)] := by
  have hC : Try.prog.cellsOf 44 = 4 := by kernel_rfl
  have hT : Try.prog.cellTypes Try.prog.depth 44 = some [5, 5, 5, 5] := by kernel_rfl
  simp only [Value.okWide, Try.underlying44] at h
  obtain ⟨cs, rfl, hs, ts, ht, _, hc⟩ := h
  rw [hT] at ht
  obtain rfl := Option.some.inj ht
  obtain ⟨c0, c1, c2, c3, rfl⟩ := Joins.array4 (hs.trans hC)
  have g : ∀ i v, (#[c0, c1, c2, c3] : Array Value)[i]? = some v → i < 4 → Cell.okWide Try.prog w r base 5 v := by
    intro i v hv hi
    obtain ⟨u, hu, hok⟩ := hc i v hv
    match i, hi with
    | 0, _ => simp at hu; subst hu; exact hok
    | 1, _ => simp at hu; subst hu; exact hok
    | 2, _ => simp at hu; subst hu; exact hok
    | 3, _ => simp at hu; subst hu; exact hok
  obtain ⟨b0, rfl⟩ := byteCell (g 0 _ rfl (by omega))
  obtain ⟨b1, rfl⟩ := byteCell (g 1 _ rfl (by omega))
  obtain ⟨b2, rfl⟩ := byteCell (g 2 _ rfl (by omega))
  obtain ⟨b3, rfl⟩ := byteCell (g 3 _ rfl (by omega))
  exact ⟨b0, b1, b2, b3, rfl⟩
end Go.Proofs.Ytakdagmkkelnfaa
