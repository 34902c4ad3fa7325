/-
  The walks of the statements of layer 2.
-/
import Derived.Test.YtnanojpbfcgloaaSumOf
import Derived.Deep.RegionWith
import Derived.Deep.QuietTactic
import Derived.BigQuiet
namespace Go.Proofs.Ytnanojpbfcgloaa
open Go.RowKit SumPure

theorem cell_alloc_new (w : World) (C : Array Value) (e : TypeId) (i : Nat) (v : Value) (h : C[i]? = some v) :
    (w.alloc (.cells C e)).cell? ⟨w.heap.size, i, none⟩ = some v := by
  have : (w.alloc (.cells C e)).heap[w.heap.size]? = some (.cells C e) := by
    show (w.heap.push _)[w.heap.size]? = _
    simp
  simp only [World.cell?, this]
  simpa using h
theorem of_new (ss : List ByteArray) (w : World) (C : Array Value) (hC : C = (ss.map Value.string).toArray) (hm : ss.length ≤ 9223372036854775807) (hs : ∀ i, i < ss.length → (ss.getD i ByteArray.empty).size ≤ 9223372036854775807) (n cap : Nat) (hn : n = ss.length) :
    Calls Try.prog 16 #[.slice (some ⟨w.heap.size, 0, none⟩) n cap] (w.alloc (.cells C 9)) fun e w' => e = .returned (.int .u32 (sum (joined ss) : Nat)) ∧ Below w.heap.size w w' := by
  subst hC hn
  refine (of_some ss w.heap.size 0 cap _ hm hs (by simp) ?_).mono ?_
  · intro i hi
    rw [Nat.zero_add]
    refine cell_alloc_new _ _ _ _ _ ?_
    simp [List.getD, List.getElem?_eq_getElem hi]
  · rintro e w' ⟨rfl, hb⟩
    exact ⟨rfl, ((Below.refl _ _).alloc (Nat.le_refl _) _).trans (hb.mono (by simp))⟩
theorem of_has1 (s : ByteArray) (b : Nat) (w : World) (h : Has w b (.cells #[.string s] 9)) (hs : s.size ≤ 9223372036854775807) :
    Calls Try.prog 16 #[.slice (some ⟨b, 0, none⟩) 1 1] w fun e w' => e = .returned (.int .u32 (sum s.data.toList : Nat)) ∧ Below w.heap.size w w' := by
  have h1 := of_some [s] b 0 1 w (by simp) (by intro i hi; match i, hi with | 0, _ => exact hs) h.lt (by intro i hi; match i, hi with | 0, _ => exact h.cell 0 _ rfl)
  rwa [show joined [s] = s.data.toList by simp [joined]] at h1
theorem of_has2 (x y : ByteArray) (b : Nat) (w : World) (h : Has w b (.cells #[.string x, .string y] 9)) (hx : x.size ≤ 9223372036854775807) (hy : y.size ≤ 9223372036854775807) :
    Calls Try.prog 16 #[.slice (some ⟨b, 0, none⟩) 2 2] w fun e w' => e = .returned (.int .u32 (sum (x.data.toList ++ y.data.toList) : Nat)) ∧ Below w.heap.size w w' := by
  have h1 := of_some [x, y] b 0 2 w (by simp) (by intro i hi; match i, hi with | 0, _ => exact hx | 1, _ => exact hy) h.lt
    (by intro i hi; match i, hi with | 0, _ => exact h.cell 0 _ rfl | 1, _ => exact h.cell 1 _ rfl)
  rwa [show joined [x, y] = x.data.toList ++ y.data.toList by simp [joined]] at h1
theorem of_has3 (x y z : ByteArray) (b : Nat) (w : World) (h : Has w b (.cells #[.string x, .string y, .string z] 9)) (hx : x.size ≤ 9223372036854775807) (hy : y.size ≤ 9223372036854775807) (hz : z.size ≤ 9223372036854775807) :
    Calls Try.prog 16 #[.slice (some ⟨b, 0, none⟩) 3 3] w fun e w' => e = .returned (.int .u32 (sum (x.data.toList ++ y.data.toList ++ z.data.toList) : Nat)) ∧ Below w.heap.size w w' := by
  have h1 := of_some [x, y, z] b 0 3 w (by simp) (by intro i hi; match i, hi with | 0, _ => exact hx | 1, _ => exact hy | 2, _ => exact hz) h.lt
    (by intro i hi; match i, hi with | 0, _ => exact h.cell 0 _ rfl | 1, _ => exact h.cell 1 _ rfl | 2, _ => exact h.cell 2 _ rfl)
  rwa [show joined [x, y, z] = x.data.toList ++ y.data.toList ++ z.data.toList by simp [joined]] at h1
def Parts (s : ByteArray) (C : Array Value) : Prop := ∃ x y z : ByteArray, C = #[.string x, .string y, .string z] ∧ x.data.toList ++ y.data.toList ++ z.data.toList = s.data.toList ∧ x.size ≤ s.size ∧ y.size ≤ s.size ∧ z.size ≤ s.size ∧ s.size ≤ 9223372036854775807
theorem of_parts (s : ByteArray) (C : Array Value) (b : Nat) (w : World) (h : Has w b (.cells C 9)) (hC : Parts s C) :
    Calls Try.prog 16 #[.slice (some ⟨b, 0, none⟩) 3 3] w fun e w' => e = .returned (.int .u32 (sum s.data.toList : Nat)) ∧ Below w.heap.size w w' := by
  obtain ⟨x, y, z, rfl, hj, hx, hy, hz, hs⟩ := hC
  rw [← hj]
  exact of_has3 x y z b w h (by omega) (by omega) (by omega)
theorem of_parts' (s : ByteArray) (b : Nat) (w : World) (h : ∃ C, Has w b (.cells C 9) ∧ Parts s C) :
    Calls Try.prog 16 #[.slice (some ⟨b, 0, none⟩) 3 3] w fun e w' => e = .returned (.int .u32 (sum s.data.toList : Nat)) ∧ Below w.heap.size w w' := by
  obtain ⟨C, h, hC⟩ := h
  exact of_parts s C b w h hC
theorem parts_whole (s : ByteArray) (hs : s.size ≤ 9223372036854775807) : Parts s #[.string { data := #[] }, .string s, .string { data := #[] }] :=
  ⟨⟨#[]⟩, s, ⟨#[]⟩, rfl, by simp, by show 0 ≤ _; omega, by omega, by show 0 ≤ _; omega, hs⟩
theorem parts_cut (s : ByteArray) (a d : Nat) (ha : a ≤ s.size) (hd : a + d ≤ s.size) (hs : s.size ≤ 9223372036854775807) :
    Parts s #[.string (s.extract 0 a), .string (s.extract a (a + d)), .string (s.extract ((a : Int) + (d : Int)).toNat s.size)] := by
  refine ⟨_, _, _, rfl, ?_, ?_, ?_, ?_, hs⟩
  · rw [show ((a : Int) + (d : Int)).toNat = a + d by omega]
    simp only [ByteArray.data_extract, Array.toList_extract, List.extract_eq_take_drop, Nat.sub_zero, List.drop_zero]
    have hl : s.data.toList.length = s.size := by simp
    generalize s.data.toList = l at *
    rw [List.take_of_length_le (l := l.drop (a + d)) (by simp; omega), show a + d - a = d by omega, ← List.take_add]
    exact List.take_append_drop _ _
  · simp; omega
  · simp; omega
  · simp
theorem sum_lt (l : List UInt8) : sum l < 4294967296 := by unfold sum; omega
def four4 (n : Nat) : List UInt8 := [UInt8.ofNat n, UInt8.ofNat (n / 256), UInt8.ofNat (n / 65536), UInt8.ofNat (n / 16777216)]
theorem four4_size {n : Nat} : ({ data := (four4 n).toArray } : ByteArray).size ≤ 9223372036854775807 := by
  show (four4 n).toArray.size ≤ _
  simp [four4]
theorem rest_bytes (l : List UInt8) : sum (l ++ four4 (sum l)) = 558161692 := by
  apply rest
  simp [four4]
theorem bytes4_conv (n : Nat) (w : World) :
    (convert 30 9 (.slice (some ⟨w.heap.size, 0, none⟩) 4 4)).run Try.prog (w.alloc (.cells #[.int .u8 ((n : Int) % 256), .int .u8 ((n : Int) / 256 % 256), .int .u8 ((n : Int) / 65536 % 256), .int .u8 ((n : Int) / 16777216 % 256)] 5)) =
      .ok (.string ⟨(four4 n).toArray⟩) (w.alloc (.cells #[.int .u8 ((n : Int) % 256), .int .u8 ((n : Int) / 256 % 256), .int .u8 ((n : Int) / 65536 % 256), .int .u8 ((n : Int) / 16777216 % 256)] 5)) := by
  refine run_convert_bytes_back _ 30 9 5 ⟨w.heap.size, 0, none⟩ 4 (four4 n) Try.underlying30 Try.underlying5 Try.underlying9 ?_
  intro j hj
  have hH := Has.new w (.cells #[.int .u8 ((n : Int) % 256), .int .u8 ((n : Int) / 256 % 256), .int .u8 ((n : Int) / 65536 % 256), .int .u8 ((n : Int) / 16777216 % 256)] 5)
  match j, hj with
  | 0, _ => exact hH.cell 0 _ (by simp [four4])
  | 1, _ => exact hH.cell 1 _ (by simp [four4])
  | 2, _ => exact hH.cell 2 _ (by simp [four4])
  | 3, _ => exact hH.cell 3 _ (by simp [four4])
theorem mod_form (x : Int) (n : Nat) (hn : n ≤ 65536) : ∃ a : Nat, a ≤ n ∧ wrap64 ((IntKind.u64.wrap x).tmod (n + 1)) = a := by
  have h0 : 0 ≤ IntKind.u64.wrap x := by rw [IntKind.wrap_u64]; omega
  rw [Int.tmod_eq_emod_of_nonneg h0]
  refine ⟨((IntKind.u64.wrap x) % (n + 1)).toNat, ?_, ?_⟩
  · have := Int.emod_lt_of_pos (IntKind.u64.wrap x) (show (0 : Int) < n + 1 by omega)
    omega
  · have h1 := Int.emod_lt_of_pos (IntKind.u64.wrap x) (show (0 : Int) < n + 1 by omega)
    have h2 := Int.emod_nonneg (IntKind.u64.wrap x) (show (n : Int) + 1 ≠ 0 by omega)
    rw [IntWalk.wrap64_in _ ⟨by omega, by omega⟩]
    omega
theorem of_one (s : ByteArray) (w : World) (hs : s.size ≤ 9223372036854775807) :
    Calls Try.prog 16 #[.slice (some ⟨w.heap.size, 0, none⟩) 1 1] (w.alloc (.cells #[.string s] 9)) fun e w' => e = .returned (.int .u32 (sum s.data.toList : Nat)) ∧ Below w.heap.size w w' := by
  have h := of_new [s] w #[.string s] rfl (by simp) (by intro i hi; match i, hi with | 0, _ => exact hs) 1 1 rfl
  rwa [show joined [s] = s.data.toList by simp [joined]] at h
theorem of_two (a b : ByteArray) (w : World) (ha : a.size ≤ 9223372036854775807) (hb : b.size ≤ 9223372036854775807) :
    Calls Try.prog 16 #[.slice (some ⟨w.heap.size, 0, none⟩) 2 2] (w.alloc (.cells #[.string a, .string b] 9)) fun e w' => e = .returned (.int .u32 (sum (a.data.toList ++ b.data.toList) : Nat)) ∧ Below w.heap.size w w' := by
  have h := of_new [a, b] w #[.string a, .string b] rfl (by simp) (by intro i hi; match i, hi with | 0, _ => exact ha | 1, _ => exact hb) 2 2 rfl
  rwa [show joined [a, b] = a.data.toList ++ b.data.toList by simp [joined]] at h
theorem of_three (a b c : ByteArray) (w : World) (ha : a.size ≤ 9223372036854775807) (hb : b.size ≤ 9223372036854775807) (hc : c.size ≤ 9223372036854775807) :
    Calls Try.prog 16 #[.slice (some ⟨w.heap.size, 0, none⟩) 3 3] (w.alloc (.cells #[.string a, .string b, .string c] 9)) fun e w' => e = .returned (.int .u32 (sum (a.data.toList ++ b.data.toList ++ c.data.toList) : Nat)) ∧ Below w.heap.size w w' := by
  have h := of_new [a, b, c] w #[.string a, .string b, .string c] rfl (by simp) (by intro i hi; match i, hi with | 0, _ => exact ha | 1, _ => exact hb | 2, _ => exact hc) 3 3 rfl
  rwa [show joined [a, b, c] = a.data.toList ++ b.data.toList ++ c.data.toList by simp [joined]] at h
theorem of_awake (w : World) :
    Calls Try.prog 16 #[.slice (some ⟨w.heap.size, 0, none⟩) 2 2] (w.alloc (.cells #[.string { data := #[49, 50, 51, 52] }, .string { data := #[53, 54, 55, 56, 57] }] 9)) fun e w' => e = .returned (.int .u32 3421780262) ∧ Below w.heap.size w w' := by
  refine (of_two _ _ w (by decide +kernel) (by decide +kernel)).mono ?_
  rintro e w' ⟨rfl, hb⟩
  exact ⟨ret_u32 (by decide +kernel), hb⟩

set_option maxHeartbeats 400000 in
theorem sumAwake_any (w : World) :
    Calls Try.prog 15 #[] w fun e w' => e = .returned (.bool true) ∧ Below w.heap.size w w' := by
  go_enter Try.func15, Try.ntmps15
  go_wp2_with (go_at_call 16; (with_reducible refine (of_nil _).mono ?_); rintro e w1 ⟨rfl, hb⟩)
  (with_reducible refine (of_awake _).mono ?_)
  rintro e w2 ⟨rfl, hb2⟩
  go_wp2
  go_ret
  exact ⟨rfl, hb.trans (hb2.mono hb.size)⟩
set_option maxHeartbeats 400000 in
theorem SumExact_walk (s : ByteArray) (hs0 : s.size ≤ maxLen) (w : World) :
    Calls Try.prog 3 #[.string s] w fun e w' => e = .returned (.bool true) ∧ Below w.heap.size w w' := by
  have hs : s.size ≤ 9223372036854775807 := by unfold maxLen at hs0; omega
  go_enter Try.func3, Try.ntmps3
  go_wp2_with (go_at_call 15; (with_reducible refine (sumAwake_any _).mono ?_); rintro e w1 ⟨rfl, hb1⟩)
  (with_reducible refine (of_one s _ hs).mono ?_)
  rintro e w2 ⟨rfl, hb2⟩
  go_wp2_with (go_at_call 17; (with_reducible refine (refOf_any s _ hs).mono ?_); rintro e w3 ⟨rfl, rfl⟩)
  go_ret
  exact ⟨by simp, hb1.trans (hb2.mono hb1.size)⟩

set_option maxHeartbeats 400000 in
theorem SumRest_walk (s : ByteArray) (hs0 : s.size ≤ maxLen) (w : World) :
    Calls Try.prog 6 #[.string s] w fun e w' => e = .returned (.bool true) ∧ Below w.heap.size w w' := by
  have hs : s.size ≤ 9223372036854775807 := by unfold maxLen at hs0; omega
  by_cases hbig : 65536 < s.size
  · go_enter Try.func6, Try.ntmps6
    go_wp2_with (go_at_call 15; (with_reducible refine (sumAwake_any _).mono ?_); rintro e w1 ⟨rfl, hb1⟩)
    go_ret
    exact ⟨rfl, hb1⟩
  · have hsm : s.size ≤ 65536 := by omega
    clear hbig
    go_enter Try.func6, Try.ntmps6
    go_wp2_with (go_at_call 15; (with_reducible refine (sumAwake_any _).mono ?_); rintro e w1 ⟨rfl, hb1⟩)
    (with_reducible refine (of_one s _ hs).mono ?_)
    rintro e w2 ⟨rfl, hb2⟩
    have hbytes := rest_bytes s.data.toList
    have hconv := fun (w2 : World) => bytes4_conv (sum s.data.toList) w2
    go_wp2_with fail
    (with_reducible refine (of_has2 s _ _ _ ((Has.at _ _ (by simp))) hs four4_size).mono ?_)
    rintro e w3 ⟨rfl, hb3⟩
    rw [hbytes]
    clear hconv hbytes
    go_wp2
    go_ret
    exact ⟨rfl, bup hb1 (bup hb2 (bup (bnew _ _) (bup (bnew _ _) hb3)))⟩

def bytes4 (b0 b1 b2 b3 : UInt8) : List UInt8 := [b0, b1, b2, b3]
theorem ret_true {b : Bool} (h : b = true) : Ending.returned (.bool b) = .returned (.bool true) := by rw [h]
theorem same_test {x y : Nat} {s t : ByteArray} (h : x = y ↔ s.data.toList = t.data.toList) : (((x : Int) == (y : Int)) == (s.toList == t.toList)) = true := by
  rw [ByteArray.toList_eq, ByteArray.toList_eq]
  by_cases hx : x = y
  · have := h.1 hx; simp [hx, this]
  · have h2 : ¬ s.data.toList = t.data.toList := fun h3 => hx (h.2 h3)
    have h4 : (s.data.toList == t.data.toList) = false := by simpa using h2
    rw [h4]
    simp; omega
theorem tells_cut (s t : ByteArray) (k : Nat) (b0 b1 b2 b3 : UInt8) (hk : k + 4 ≤ s.size) (ht : t = s.extract 0 k ++ { data := (bytes4 b0 b1 b2 b3).toArray } ++ s.extract (k + 4) s.size) :
    sum s.data.toList = sum t.data.toList ↔ s.data.toList = t.data.toList := by
  subst ht
  have hl : s.data.toList.length = s.size := by simp
  simp only [ByteArray.data_append, ByteArray.data_extract, Array.toList_append, Array.toList_extract, List.extract_eq_take_drop, Nat.sub_zero, List.drop_zero]
  generalize s.data.toList = l at *
  have e : l = l.take k ++ (l.drop k).take 4 ++ (l.drop (k + 4)).take (s.size - (k + 4)) := by
    rw [List.take_of_length_le (l := l.drop (k + 4)) (by simp; omega), ← List.take_add]
    exact (List.take_append_drop _ _).symm
  have h := tells (l.take k) ((l.drop (k + 4)).take (s.size - (k + 4))) ((l.drop k).take 4) (bytes4 b0 b1 b2 b3) (by simp; omega) rfl
  rw [← e] at h
  rw [h]
  constructor
  · intro hx; rw [← hx]; exact e
  · intro hx
    have hx2 := e.symm.trans hx
    exact List.append_cancel_left (List.append_cancel_right hx2)
theorem arr4_conv (b0 b1 b2 b3 : UInt8) (b : Nat) (w : World) (h : Has w b (.cells #[.int .u8 (b0.toNat : Int), .int .u8 (b1.toNat : Int), .int .u8 (b2.toNat : Int), .int .u8 (b3.toNat : Int)] 29)) (n : Nat) :
    (convert 30 9 (.slice (some ⟨b, 0, none⟩) 4 4)).run Try.prog (w.drewN n) = .ok (.string ⟨(bytes4 b0 b1 b2 b3).toArray⟩) (w.drewN n) := by
  have hH : Has (w.drewN n) b (.cells #[.int .u8 (b0.toNat : Int), .int .u8 (b1.toNat : Int), .int .u8 (b2.toNat : Int), .int .u8 (b3.toNat : Int)] 29) := h
  refine run_convert_bytes_back _ 30 9 5 ⟨b, 0, none⟩ 4 (bytes4 b0 b1 b2 b3) Try.underlying30 Try.underlying5 Try.underlying9 ?_
  intro j hj
  match j, hj with
  | 0, _ => exact hH.cell 0 _ (by simp [bytes4])
  | 1, _ => exact hH.cell 1 _ (by simp [bytes4])
  | 2, _ => exact hH.cell 2 _ (by simp [bytes4])
  | 3, _ => exact hH.cell 3 _ (by simp [bytes4])
set_option maxHeartbeats 4000000 in
theorem SumTells_walk (s : ByteArray) (hs0 : s.size ≤ maxLen) (at_ : Int) (_ : (Lit.int .i64 at_).wf = true) (b0 b1 b2 b3 : UInt8) (w : World) :
    Calls Try.prog 5 #[.string s, .int .i64 at_, .agg #[.int .u8 (b0.toNat : Int), .int .u8 (b1.toNat : Int), .int .u8 (b2.toNat : Int), .int .u8 (b3.toNat : Int)]] w fun e w' => e = .returned (.bool true) ∧ Below w.heap.size w w' := by
  have hs : s.size ≤ 9223372036854775807 := by unfold maxLen at hs0; omega
  by_cases hsmall : s.size < 4
  · go_enter Try.func5, Try.ntmps5
    go_wp2_with (go_at_call 15; (with_reducible refine (sumAwake_any _).mono ?_); rintro e w1 ⟨rfl, hb1⟩)
    go_ret
    exact ⟨rfl, bup (bnew _ _) hb1⟩
  by_cases hbig : 65536 < s.size
  · go_enter Try.func5, Try.ntmps5
    go_wp2_with (go_at_call 15; (with_reducible refine (sumAwake_any _).mono ?_); rintro e w1 ⟨rfl, hb1⟩)
    go_ret
    exact ⟨rfl, bup (bnew _ _) hb1⟩
  have hlo : 4 ≤ s.size := by omega
  have hhi : s.size ≤ 65536 := by omega
  clear hsmall hbig
  obtain ⟨k, hk, hke⟩ := mod_form at_ (s.size - 4) (by omega)
  rw [show ((s.size - 4 : Nat) : Int) + 1 = (s.size : Int) - 3 by omega] at hke
  go_enter Try.func5, Try.ntmps5
  go_wp2_with (go_at_call 15; (with_reducible refine (sumAwake_any _).mono ?_); rintro e w1 ⟨rfl, hb1⟩)
  rw [hke]
  clear hke
  have hbox : Has w1 w.heap.size (.cells #[.int .u8 (b0.toNat : Int), .int .u8 (b1.toNat : Int), .int .u8 (b2.toNat : Int), .int .u8 (b3.toNat : Int)] 29) := (Has.new w _).below hb1
  have hconv := arr4_conv b0 b1 b2 b3 w.heap.size w1 hbox
  clear hbox
  have hk1 : (k : Int) ≤ (s.size : Int) := by omega
  have hk2 : (k : Int) + 4 ≤ (s.size : Int) := by omega
  have hadd1 := fun (w : World) => run_string_add_sum (P := Try.prog) w (s.extract 0 k) ⟨(bytes4 b0 b1 b2 b3).toArray⟩ (by simp [bytes4, ByteArray.size_mk']; omega)
  have hadd2 := fun (w : World) => run_string_add_sum (P := Try.prog) w (s.extract 0 k ++ ⟨(bytes4 b0 b1 b2 b3).toArray⟩) (s.extract (k + 4) s.size) (by simp [bytes4, ByteArray.size_mk']; omega)
  obtain ⟨t, hte⟩ : ∃ t, t = s.extract 0 k ++ { data := (bytes4 b0 b1 b2 b3).toArray } ++ s.extract (k + 4) s.size := ⟨_, rfl⟩
  have htell := tells_cut s t k b0 b1 b2 b3 (by omega) hte
  have htz : t.size ≤ 9223372036854775807 := by rw [hte]; simp [bytes4, ByteArray.size_mk']; omega
  have Htell := Lib.hid htell
  have Hte := Lib.hid hte
  clear htell hte
  go_quiet (fail)
  rw [← Hte.out]
  clear hadd1 hadd2 hconv
  go_wp2_with fail
  (with_reducible refine (of_has1 s _ _ (Has.at _ _ (by simp)) hs).mono ?_)
  rintro e w2 ⟨rfl, hb2⟩
  go_wp2_with fail
  (with_reducible refine (of_has1 t _ _ (Has.at _ _ (by simp)) htz).mono ?_)
  rintro e w3 ⟨rfl, hb3⟩
  go_wp2
  go_ret
  have hd : Below w1.heap.size w1 (w1.drewN nq) := ⟨rfl, rfl, rfl, Nat.le_refl _, fun _ _ => rfl⟩
  refine ⟨?_, bup (bnew _ _) (bup hb1 (bup hd (bup (bnew _ _) (bup hb2 (bup (bnew _ _) hb3)))))⟩
  exact ret_true (same_test Htell.out)
end Go.Proofs.Ytnanojpbfcgloaa
