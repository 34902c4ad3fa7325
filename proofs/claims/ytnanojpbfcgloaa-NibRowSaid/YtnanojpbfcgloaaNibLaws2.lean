/-
  The walks of the statements of layer 1, second part.
-/
import Derived.Test.YtnanojpbfcgloaaNibLaws
namespace Go.Proofs.Ytnanojpbfcgloaa
open Go.RowKit NibPure

theorem add_lists {P : Program} (a b : List UInt8) (h : a.length + b.length ≤ 9223372036854775807) (w : World) : (Op.stringOp .add (bs a) (bs b)).run P w = .ok (.string (bs (a ++ b))) w := by
  rw [run_string_add_sum w _ _ (by rw [bs_size, bs_size]; exact h), bs_append]

set_option maxRecDepth 100000 in
set_option maxHeartbeats 800000 in
theorem NibOne_walk (s : ByteArray) (hs : s.size ≤ 140737488351232) (w : World) :
    Calls Try.prog 10 #[.string s] w fun e w' => e = .returned (.bool true) ∧ Below w.heap.size w w' := by
  cases hd : dec s.data.toList with
  | none =>
    have c1 := takeInt_not hd (b := { data := #[] }) rfl
    have C1 := Lib.hid c1
    clear c1 hd
    go_enter Try.func10, Try.ntmps10
    go_wp2_with fail
    refine (nibAwake_any _).mono ?_
    rintro e w0 ⟨rfl, b0⟩
    go_wp2_with fail
    refine (C1.out _ (by omega)).mono ?_
    rintro e w1 ⟨rfl, b1⟩
    go_wp2
    go_ret
    exact ⟨rfl, bup b0 b1⟩
  | some p =>
    obtain ⟨n, r⟩ := p
    have c1 := takeInt_lit hd rfl
    have hb := (enc_dec hd).2
    have hl := dec_len hd
    have he := (enc_dec hd).1
    have hlen : (r.length : Int) < s.size := by simp at hl; omega
    have hr : r.length ≤ 140737488351232 := by omega
    have hsz : (bs r).size = r.length := bs_size r
    have hadd := fun w => add_lists (P := Try.prog) (enc n) r (by have := enc_len n; omega) w
    have C1 := Lib.hid c1
    have He := Lib.hid he
    clear c1 hd he hl
    go_enter Try.func10, Try.ntmps10
    go_wp2_with fail
    refine (nibAwake_any _).mono ?_
    rintro e w0 ⟨rfl, b0⟩
    go_wp2_with fail
    refine (C1.out _ (by omega)).mono ?_
    rintro e w1 ⟨rfl, b1⟩
    go_wp2_with fail
    refine (nibInt_any n _ hb.1 hb.2).mono ?_
    rintro e w2 ⟨rfl, b2⟩
    go_wp2
    go_ret
    refine ⟨ret_true' ?_, bup b0 (bup b1 b2)⟩
    rw [bs_toList, He.out, ByteArray.toList_eq]; simp

set_option maxRecDepth 100000 in
set_option maxHeartbeats 800000 in
theorem NibBack_walk (n : Int) (wn : (Lit.int .i64 n).wf = true) (s : ByteArray) (hs : s.size ≤ 140737488351232) (t : ByteArray) (ht : t.size ≤ 140737488351232) (w : World) :
    Calls Try.prog 9 #[.int .i64 n, .string s, .string t] w fun e w' => e = .returned (.bool true) ∧ Below w.heap.size w w' := by
  have hb := wf_bd wn
  by_cases hbig1 : 1048576 < s.size
  · go_enter Try.func9, Try.ntmps9
    go_wp2_with fail
    (with_reducible refine (nibAwake_any _).mono ?_)
    rintro e w0 ⟨rfl, b0⟩
    go_wp2
    go_ret
    exact ⟨rfl, b0⟩
  by_cases hbig2 : 1048576 < t.size
  · go_enter Try.func9, Try.ntmps9
    go_wp2_with fail
    (with_reducible refine (nibAwake_any _).mono ?_)
    rintro e w0 ⟨rfl, b0⟩
    go_wp2
    go_ret
    exact ⟨rfl, b0⟩
  obtain ⟨l, rfl⟩ : ∃ l, s = bs l := ⟨s.data.toList, rfl⟩
  obtain ⟨r, rfl⟩ : ∃ r, t = bs r := ⟨t.data.toList, rfl⟩
  have hz1 : (bs l).size = l.length := bs_size l
  have hz2 : (bs r).size = r.length := bs_size r
  have hl : l.length ≤ 1048576 := by omega
  have hr : r.length ≤ 1048576 := by omega
  have hS : (encS l).length ≤ 1048576 + 10 := by unfold encS; have := enc_len l.length; simp; omega
  have hE := enc_len n
  have a1 := fun w => add_lists (P := Try.prog) (enc n) (encS l) (by omega) w
  have a2 := fun w => add_lists (P := Try.prog) (enc n ++ encS l) r (by simp; omega) w
  rw [List.append_assoc] at a2
  have a3 := fun w => add_lists (P := Try.prog) (encS l) r (by omega) w
  have d1 : dec (bs (enc n ++ (encS l ++ r))).data.toList = some (n, encS l ++ r) := by rw [bs_data]; exact dec_enc hb.1 hb.2 _
  have d2 : decS l.length (bs (encS l ++ r)).data.toList = some (l, r) := by
    unfold decS encS
    rw [bs_data, List.append_assoc, dec_enc (by omega) (by omega)]
    simp
    omega
  have d3 : decS ((l.length : Int) - 1) (bs (encS l ++ r)).data.toList = none := by
    unfold decS encS
    rw [bs_data, List.append_assoc, dec_enc (by omega) (by omega)]
    exact if_neg (by omega)
  have c1 := takeInt_lit d1 rfl
  have c2 := takeStr_lit d2 rfl rfl
  have c3 := takeStr_not d3 rfl rfl
  have C1 := Lib.hid c1; have C2 := Lib.hid c2; have C3 := Lib.hid c3
  clear c1 c2 c3 d1 d2 d3
  have z1 : (bs (enc n ++ (encS l ++ r))).size ≤ 9223372036854775807 := by rw [bs_size]; simp; omega
  have z2 : (bs (encS l ++ r)).size ≤ 9223372036854775807 := by rw [bs_size]; simp; omega
  have hne : ((n : Int) != n) = false := by simp
  clear hbig1 hbig2 wn hs ht
  go_enter Try.func9, Try.ntmps9
  go_wp2_with fail
  (with_reducible refine (nibAwake_any _).mono ?_)
  rintro e w0 ⟨rfl, b0⟩
  go_wp2_with fail
  (with_reducible refine (nibInt_any n _ hb.1 hb.2).mono ?_)
  rintro e w1 ⟨rfl, b1⟩
  go_wp2_with fail
  (with_reducible refine (nibStr_any (bs l) _ (by omega)).mono ?_)
  rintro e w2 ⟨rfl, b2⟩
  rw [bs_data]
  go_wp2_with fail
  (with_reducible refine (C1.out _ z1).mono ?_)
  rintro e w3 ⟨rfl, b3⟩
  go_wp2_with fail
  (with_reducible refine (C2.out _ z2).mono ?_)
  rintro e w4 ⟨rfl, b4⟩
  go_wp2_with fail
  (with_reducible refine (nibStr_any (bs l) _ (by omega)).mono ?_)
  rintro e w5 ⟨rfl, b5⟩
  rw [bs_data]
  go_wp2_with fail
  (with_reducible refine (C3.out _ z2).mono ?_)
  rintro e w6 ⟨rfl, b6⟩
  go_wp2
  go_ret
  exact ⟨ret_true' (by simp), bup b0 (bup b1 (bup b2 (bup b3 (bup b4 (bup b5 b6)))))⟩
end Go.Proofs.Ytnanojpbfcgloaa
