/-
  Slices of a slice of entries.
-/
import Derived.Test.YtpgeiopknjfdmaaEntRowOpen
import Derived.Laws.Slices
namespace Go.Proofs.Ytpgeiopknjfdmaa
open Go.RowKit Go.Sort
set_option linter.unusedVariables false
set_option linter.unusedSimpArgs false

theorem ents_part {w : World} {A : Option Addr} {m d : Nat} {L : List Ent} (h : IsEnts w A m d L) {k j : Nat} (hk : k ≤ j) (hj : j ≤ m) :
    IsEnts w (if d = k then A else A.map (·.add (k * 13))) (j - k) (d - k) ((L.take j).drop k) := by
  have h1 := h.len
  have h2 := h.cap
  have h3 := h.most
  refine ⟨by simp; omega, by omega, by omega, fun x hx => h.small x (List.mem_of_mem_take (List.mem_of_mem_drop hx)), fun hn => ?_⟩
  obtain ⟨b, off, rfl, hb, hc⟩ := h.row (by omega)
  rw [if_neg (by omega)]
  refine ⟨b, off + k * 13, by simp [Addr.add], hb, fun i x hx t v hv => ?_⟩
  rw [List.getElem?_drop] at hx
  have hx2 : L[k + i]? = some x := by
    rw [List.getElem?_take] at hx
    split at hx
    · exact hx
    · cases hx
  have := hc (k + i) x hx2 t v hv
  rw [show off + k * 13 + i * 13 + t = off + (k + i) * 13 + t by omega]
  exact this
theorem slice_from {A : Option Addr} {m d k : Nat} (hk : k ≤ m) (w : World) : (Instr.slice 34 (.slice A m d) (some (.int .i64 (k : Int))) none none).run Try.prog w = .ok (.slice (if d = k then A else A.map (·.add (k * 13))) (m - k) (d - k)) w := by
  have hi : (Try.prog.info? 30).map (·.size) = some 13 := by kernel_rfl
  cases h : Try.prog.info? 30 with
  | none => rw [h] at hi; cases hi
  | some i =>
    rw [h] at hi
    simp at hi
    have hb := run_sliceBound (P := Try.prog) (w := w) .i64 (k : Int) m .sliceB (by omega) (by omega)
    simp [Instr.slice, Instr.sliceBounds, run_underlying Try.underlying34, hb, sizeOf, typeInfo, h, hi, go_sem]
theorem slice_upto {A : Option Addr} {m d k : Nat} (hk : k ≤ m) (hm : m ≤ d) (w : World) : (Instr.slice 34 (.slice A m d) none (some (.int .i64 (k : Int))) none).run Try.prog w = .ok (.slice (if d = 0 then A else A.map (·.add (0 * 13))) k d) w := by
  have hi : (Try.prog.info? 30).map (·.size) = some 13 := by kernel_rfl
  cases h : Try.prog.info? 30 with
  | none => rw [h] at hi; cases hi
  | some i =>
    rw [h] at hi
    simp at hi
    have hb := run_sliceBound (P := Try.prog) (w := w) .i64 (k : Int) d .sliceAcap (by omega) (by omega)
    simp [Instr.slice, Instr.sliceBounds, run_underlying Try.underlying34, hb, sizeOf, typeInfo, h, hi, go_sem]
theorem pa_cut (x : Int) (n : Nat) (hn : n ≤ 100000) : ∃ a : Nat, a ≤ n ∧ wrap64 ((IntKind.u64.wrap x).tmod ((n : Int) + 1)) = a := by
  have h0' : 0 ≤ IntKind.u64.wrap x := by rw [IntKind.wrap_u64]; omega
  rw [Int.tmod_eq_emod_of_nonneg h0']
  have h1 := Int.emod_lt_of_pos (IntKind.u64.wrap x) (show (0 : Int) < (n : Int) + 1 by omega)
  have h2 := Int.emod_nonneg (IntKind.u64.wrap x) (show (n : Int) + 1 ≠ 0 by omega)
  refine ⟨((IntKind.u64.wrap x) % ((n : Int) + 1)).toNat, by omega, ?_⟩
  rw [IntWalk.wrap64_in _ ⟨by omega, by omega⟩]
  omega
end Go.Proofs.Ytpgeiopknjfdmaa
