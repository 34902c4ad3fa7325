/-
  Numbers as so many bytes, the highest first: high.Put, high.Get.
-/
import Derived.Test.YtklmoigpalhlmaaBytes
import Derived.Test.YtklmoigpalhlmaaStore
import Derived.Laws.MakeOwn
import Derived.Laws.BitsAllLaws
import Derived.Laws.BitsLemmas
namespace Go.Proofs.Ytklmoigpalhlmaa
open Go.RowKit
set_option linter.unusedVariables false
set_option linter.unusedSimpArgs false

/-- The lowest bytes of a number in a row of so many, the others nothing. -/
def hiK (n sz k : Nat) : List UInt8 := (List.range sz).map fun j => if sz - 1 - j < k then UInt8.ofNat (n / 256 ^ (sz - 1 - j) % 256) else 0
/-- A number in so many bytes. -/
def highN (n sz : Nat) : List UInt8 := hiK n sz sz
theorem hiK_len (n sz k : Nat) : (hiK n sz k).length = sz := by simp [hiK]
theorem highN_len (n sz : Nat) : (highN n sz).length = sz := hiK_len n sz sz
theorem byteVals_len (l : List UInt8) : (byteVals l).length = l.length := by simp [byteVals]
theorem hiK_zero (n sz : Nat) : byteVals (hiK n sz 0) = List.replicate sz (.int .u8 0) := by
  apply List.ext_getElem?
  intro i
  simp [byteVals, hiK, List.getElem?_replicate]
  by_cases hi : i < sz
  · simp [hi]
  · simp [hi]
theorem hiK_get (n sz k j : Nat) (hj : j < sz) : (byteVals (hiK n sz k))[j]? = some (.int .u8 (if sz - 1 - j < k then ((n / 256 ^ (sz - 1 - j) % 256 : Nat) : Int) else 0)) := by
  have hx : (hiK n sz k)[j]? = some (if sz - 1 - j < k then UInt8.ofNat (n / 256 ^ (sz - 1 - j) % 256) else 0) := by simp [hiK, hj]
  unfold byteVals
  rw [List.getElem?_map, hx]
  simp only [Option.map_some, Option.some.injEq, Value.int.injEq, true_and]
  split
  · have : n / 256 ^ (sz - 1 - j) % 256 < 256 := Nat.mod_lt _ (by omega)
    rw [UInt8.toNat_ofNat', Nat.mod_eq_of_lt this]
  · rfl
theorem hiK_step (n sz k : Nat) (hk : k < sz) (v : Int) (hv : v = ((n / 256 ^ k % 256 : Nat) : Int)) : (byteVals (hiK n sz k)).set (sz - 1 - k) (.int .u8 v) = byteVals (hiK n sz (k + 1)) := by
  subst hv
  apply List.ext_getElem?
  intro j
  rw [List.getElem?_set]
  by_cases hj : j < sz
  · rw [hiK_get n sz (k + 1) j hj, byteVals_len, hiK_len]
    by_cases e : sz - 1 - k = j
    · rw [if_pos e, if_pos (by omega), if_pos (by omega), show sz - 1 - j = k by omega]
    · rw [if_neg e, hiK_get n sz k j hj]
      by_cases h1 : sz - 1 - j < k
      · rw [if_pos h1, if_pos (by omega)]
      · rw [if_neg h1, if_neg (by omega)]
  · rw [if_neg (by omega), List.getElem?_eq_none (by rw [byteVals_len, hiK_len]; omega), List.getElem?_eq_none (by rw [byteVals_len, hiK_len]; omega)]
set_option maxRecDepth 100000 in
theorem makeBytes (m : Nat) (hm : m ≤ 140737488355328) (c : Nat) (hc : m ≤ c) (hc2 : c ≤ 140737488355328) (w : World) :
    (Instr.makeSlice 36 (.int .i64 (m : Int)) (.int .i64 (c : Int))).run Try.prog w = .ok (.slice (some ⟨w.heap.size, 0, none⟩) m c) (w.alloc (.cells (List.replicate c (.int .u8 0)).toArray 5)) := by
  obtain ⟨i, hi, hz0, hz1, hz2⟩ := info_parts info8
  have hb : (i.bytes : Int) * (c : Int) ≤ 281474976710656 := by rw [hz2]; omega
  have hr := run_make (P := Try.prog) w 36 5 i _ Try.underlying36 hi hz0 .i64 .i64 (m : Int) (c : Int) (by omega) (by omega) hb (by omega)
  simp only [Int.toNat_natCast] at hr
  rw [hr, hz1]
  congr 3
  apply Array.ext
  · simp [madeCells]
  · intro i h1 h2
    simp [madeCells, Value.cells, Nat.mod_one]
theorem bytes_back {w : World} {g cap : Nat} {l : List UInt8} {more : List Value} {fr : Nat × Nat} (h : Has w g (.cells (byteVals l ++ more).toArray 5 fr)) :
    (convert 36 9 (.slice (some ⟨g, 0, none⟩) l.length cap)).run Try.prog w = .ok (.string (bs l)) w := by
  refine run_convert_bytes_back w 36 9 5 ⟨g, 0, none⟩ cap l Try.underlying36 Try.underlying5 Try.underlying9 ?_
  intro j hj
  rw [show (⟨g, 0, none⟩ : Addr).add j = ⟨g, j, none⟩ by simp [Addr.add]; omega]
  refine h.cell j _ ?_
  simp [byteVals, List.getElem?_append, hj]
theorem pow_form (n k : Nat) : (n : Int) / 2 ^ (8 * k) % 256 = ((n / 256 ^ k % 256 : Nat) : Int) := by
  have e : (2 : Nat) ^ (8 * k) = 256 ^ k := by rw [Nat.pow_mul]
  rw [← e, Int.natCast_emod, Int.natCast_ediv, Int.natCast_pow]
  rfl
set_option maxRecDepth 100000 in
set_option maxHeartbeats 2000000 in
theorem hput_any (n sz : Nat) (hn : n < 18446744073709551616) (h1 : 1 ≤ sz) (h8 : sz ≤ 8) (w : World) :
    Calls Try.prog 30 #[.int .u64 n, .int .i64 sz] w fun e w' => e = .returned (.string (bs (highN n sz))) ∧ Below w.heap.size w w' := by
  have hmk := fun w => makeBytes sz (by omega) sz (Nat.le_refl _) (by omega) w
  rw [← hiK_zero n] at hmk
  obtain ⟨F0, hF0⟩ : ∃ F, (byteVals (hiK n sz 0)).toArray = F := ⟨_, rfl⟩
  rw [hF0] at hmk
  have HF := Lib.hid hF0
  clear hF0
  go_enter Try.func30, Try.ntmps30
  go_wp2_with fail
  go_loopw [10] (fun i wr => ∃ k : Nat, k ≤ sz ∧ i = .int .i64 k ∧ Has wr w.heap.size (.cells (byteVals (hiK n sz k)).toArray 5) ∧ Below w.heap.size w wr) (fun i _ => sz - (intOf i).toNat)
  case atStart => exact ⟨0, by omega, rfl, by rw [HF.out]; exact Has.new _ _, bnew _ _⟩
  case round =>
    obtain ⟨k, hk, rfl, G, B⟩ := hrel
    by_cases hlt : k < sz
    · have g0 := G.cell (sz - 1 - k) _ (by rw [List.getElem?_toArray]; exact hiK_get n sz k (sz - 1 - k) (by omega))
      have f0 := G.free (sz - 1 - k)
      replace G := Lib.hid G
      replace B := Lib.hid B
      go_wp2_with fail
      go_roundw
      case rel =>
        refine ⟨k + 1, by omega, by go_num, ?_, B.out.setCell (p := ⟨w.heap.size, sz - 1 - k, none⟩) (Nat.le_refl _) _⟩
        have h2 := G.out.set (sz - 1 - k) (.int .u8 ((n : Int) / 2 ^ (8 * k) % 256))
        rw [List.setIfInBounds_toArray, hiK_step n sz k hlt _ (pow_form n k)] at h2
        exact h2
      case measure => simp [intOf]; omega
    · have hkn : k = sz := by omega
      subst hkn
      have hcv := bytes_back (l := highN n k) (more := []) (cap := k) (by rw [List.append_nil]; exact G)
      rw [highN_len] at hcv
      replace G := Lib.hid G
      go_wp2_with fail
      go_ret
      exact ⟨rfl, B⟩
/-- The number that bytes are. -/
def getN (l : List UInt8) : Nat := l.foldl (fun a b => a * 256 + b.toNat) 0
theorem getN_snoc (l : List UInt8) (b : UInt8) : getN (l ++ [b]) = getN l * 256 + b.toNat := by simp [getN]
theorem getN_from (l : List UInt8) : ∀ a : Nat, l.foldl (fun a b => a * 256 + b.toNat) a < (a + 1) * 256 ^ l.length := by
  induction l with
  | nil => intro a; simp
  | cons b l ih =>
    intro a
    have h := ih (a * 256 + b.toNat)
    have hb : b.toNat < 256 := b.toNat_lt
    rw [List.foldl_cons, List.length_cons, Nat.pow_succ]
    have h2 : (a * 256 + b.toNat + 1) * 256 ^ l.length ≤ ((a + 1) * 256) * 256 ^ l.length := Nat.mul_le_mul_right _ (by omega)
    have h3 : (a + 1) * 256 * 256 ^ l.length = (a + 1) * (256 ^ l.length * 256) := by rw [Nat.mul_assoc, Nat.mul_comm 256]
    omega
theorem getN_lt (l : List UInt8) : getN l < 256 ^ l.length := by
  have := getN_from l 0
  simpa [getN] using this
set_option maxRecDepth 100000 in
theorem or_low (a b : Nat) (ha : a * 256 + b < 18446744073709551616) (hb : b < 256) : bits BinOp.or IntKind.u64 ((a : Int) * 256) (b : Int) = ((a * 256 + b : Nat) : Int) := by
  have h1 := u64_or_nat (a * 256) b (by omega) (by omega)
  rw [show ((a : Int) * 256) = ((a * 256 : Nat) : Int) by omega, h1]
  congr 1
  have h2 := Nat.two_pow_add_eq_or_of_lt (i := 8) (b := b) (by omega) a
  rw [show a * 256 = 2 ^ 8 * a by omega]
  exact h2.symm
set_option maxRecDepth 100000 in
set_option maxHeartbeats 2000000 in
theorem hget_any (s : ByteArray) (hs : s.size ≤ 8) (w : World) :
    Calls Try.prog 38 #[.string s] w fun e w' => e = .returned (.int .u64 (getN s.data.toList : Nat)) ∧ Below w.heap.size w w' := by
  have hcv := fun w s => strWorld_conv (P := Try.prog) (src := 9) (dst := 36) (e := 5) Try.underlying9 Try.underlying36 Try.underlying5 w s
  go_enter Try.func38, Try.ntmps38
  go_wp2_with fail
  generalize hw1 : strWorld _ _ _ = w1
  have B1 : Below w.heap.size w w1 := by rw [← hw1]; exact strWorld_below _ _ _ (Nat.le_refl _)
  have C1 := Lib.hid (by rw [← hw1]; exact strWorld_cell _ _ _ : ∀ j (hj : j < s.size), w1.cell? ⟨w.heap.size, j, none⟩ = some (.int .u8 (s[j].toNat : Int)))
  clear hw1
  go_loop [3, 9] (fun v i => ∃ k m : Nat, k ≤ s.size ∧ i = .int .i64 k ∧ v = .int .u64 m ∧ Hid (m = getN (s.data.toList.take k))) (fun _ i => s.size - (intOf i).toNat)
  case atStart => exact ⟨0, 0, by omega, rfl, rfl, Lib.hid rfl⟩
  case round =>
    obtain ⟨k, m, hk, rfl, rfl, Hm⟩ := hrel
    by_cases hlt : k < s.size
    · have hc := C1.out k hlt
      have hb := s[k].toNat_lt
      have hm1 := getN_lt (s.data.toList.take k)
      rw [← Hm.out, List.length_take] at hm1
      have hp : 256 ^ min k s.data.toList.length ≤ 256 ^ 7 := Nat.pow_le_pow_right (by omega) (by omega)
      have hm2 : m < 72057594037927936 := Nat.lt_of_lt_of_le hm1 hp
      have ho := or_low m s[k].toNat (by omega) hb
      have HX : Hid (m * 256 + s[k].toNat = getN (s.data.toList.take (k + 1))) := Lib.hid (by
        have e : s.data.toList.take (k + 1) = s.data.toList.take k ++ [s[k]] := by
          rw [List.take_succ_eq_append_getElem (by simpa using hlt)]; rfl
        rw [e, getN_snoc, ← Hm.out])
      clear hm1 hp
      go_wp2_with fail
      go_round
      case rel => exact ⟨k + 1, m * 256 + s[k].toNat, by omega, by go_num, by go_num, HX⟩
      case measure => simp [intOf]; omega
    · have hkn : s.data.toList.take k = s.data.toList := List.take_of_length_le (by simp; exact Nat.le_of_not_lt hlt)
      rw [hkn] at Hm
      clear hkn
      go_wp2_with fail
      go_ret
      exact ⟨by rw [← Hm.out]; rfl, B1⟩
end Go.Proofs.Ytklmoigpalhlmaa
