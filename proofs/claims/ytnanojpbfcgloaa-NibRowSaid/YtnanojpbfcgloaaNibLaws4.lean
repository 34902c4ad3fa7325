/-
  The walks of the statements of layer 1, last part.
-/
import Derived.Test.YtnanojpbfcgloaaNibLaws3
import Derived.Test.YtnanojpbfcgloaaInts
namespace Go.Proofs.Ytnanojpbfcgloaa
open Go.RowKit NibPure

def encAll (l : List Int) : List UInt8 := l.flatMap enc
theorem encAll_take (zs : List Int) (k : Nat) (hk : k < zs.length) : encAll (zs.take (k + 1)) = encAll (zs.take k) ++ enc (zs.getD k 0) := by
  rw [List.take_succ_eq_append_getElem hk]
  unfold encAll
  rw [List.flatMap_append]
  simp [List.getD, List.getElem?_eq_getElem hk]
theorem encAll_len (l : List Int) : (encAll l).length ≤ 10 * l.length := by
  induction l with
  | nil => simp [encAll]
  | cons a l ih =>
    have := enc_len a
    have h2 : encAll (a :: l) = enc a ++ encAll l := rfl
    rw [h2]; simp; omega
theorem encAll_drop (zs : List Int) (k n : Nat) (hk : k < n) (hn : n ≤ zs.length) : encAll ((zs.take n).drop k) = enc (zs.getD k 0) ++ encAll ((zs.take n).drop (k + 1)) := by
  rw [List.drop_eq_getElem_cons (by simp; omega)]
  simp [encAll, List.getD, List.getElem?_eq_getElem (show k < zs.length by omega)]

set_option maxRecDepth 100000 in
set_option maxHeartbeats 1600000 in
theorem NibRow_walk (a : Option Addr) (len cap : Nat) (zs : List Int) (w : World) (hin : IsInts w a len cap zs) (hlen : len ≤ 9223372036854775807) :
    Calls Try.prog 13 #[.slice a len cap] w fun e w' => e = .returned (.bool true) ∧ Below w.heap.size w w' := by
  by_cases hbig : 100 < len
  · go_enter Try.func13, Try.ntmps13
    go_wp2_with (go_at_call 18; (with_reducible refine (nibAwake_any _).mono ?_); rintro e w0 ⟨rfl, b0⟩)
    go_ret
    exact ⟨rfl, b0⟩
  have hsm : len ≤ 100 := by omega
  clear hbig hlen
  by_cases hpos : 0 < len
  · obtain ⟨b, off, rfl, hbl, hlz, hcell, hwf⟩ := hin.cells hpos
    have Hcell := Lib.hid hcell
    have Hwf := Lib.hid hwf
    clear hin hcell hwf
    go_enter Try.func13, Try.ntmps13
    go_wp2_with (go_at_call 18; (with_reducible refine (nibAwake_any _).mono ?_); rintro e w0 ⟨rfl, b0⟩)
    go_loopw [3, 4] (fun s i wr => ∃ k : Nat, k ≤ len ∧ i = .int .i64 k ∧ s = .string (bs (encAll (zs.take k))) ∧ Below w.heap.size w wr) (fun _ i _ => len - (intOf i).toNat)
    case atStart => exact ⟨0, by omega, rfl, rfl, b0⟩
    case round =>
      obtain ⟨k, hk, rfl, rfl, hb⟩ := hrel
      by_cases hlt : k < len
      · have hc : wr.cell? ⟨b, off + k, none⟩ = some (.int .i64 (zs.getD k 0)) := (hb.cell (by exact hbl)).trans (Hcell.out k hlt)
        have hz := wf_bd (Hwf.out k hlt)
        obtain ⟨z, hze⟩ : ∃ z, z = zs.getD k 0 := ⟨_, rfl⟩
        rw [← hze] at hc hz
        have hadd := fun w => add_lists (P := Try.prog) (encAll (zs.take k)) (enc z) (by have := encAll_len (zs.take k); have := enc_len z; simp at *; omega) w
        have Hb := Lib.hid hb
        have Hze := Lib.hid hze
        clear hb hze
        go_wp2_with (go_at_call 19; (with_reducible refine (nibInt_any z _ hz.1 hz.2).mono ?_); rintro e w1 ⟨rfl, b1⟩)
        go_roundw
        case rel =>
          refine ⟨k + 1, by omega, by go_num, ?_, Hb.out.trans (b1.mono Hb.out.size)⟩
          rw [encAll_take zs k (by omega), ← Hze.out]
        case measure => simp [intOf]; omega
      · have hkl : k = len := by omega
        subst hkl
        clear hk hlt
        obtain ⟨wo, rfl⟩ : ∃ wo : World, wo = wr := ⟨_, rfl⟩
        go_wp2
        go_loopw [3, 5] (fun s i wq => ∃ j : Nat, j ≤ k ∧ i = .int .i64 j ∧ s = .string (bs (encAll ((zs.take k).drop j))) ∧ Below w.heap.size w wq) (fun _ i _ => k - (intOf i).toNat)
        case atStart => exact ⟨0, by omega, rfl, rfl, hb⟩
        case round =>
          obtain ⟨j, hj, rfl, rfl, hb2⟩ := hrel
          by_cases hjl : j < k
          · have hc : wr.cell? ⟨b, off + j, none⟩ = some (.int .i64 (zs.getD j 0)) := (hb2.cell (by exact hbl)).trans (Hcell.out j hjl)
            have hz := wf_bd (Hwf.out j hjl)
            have hd : dec (bs (encAll ((zs.take k).drop j))).data.toList = some (zs.getD j 0, encAll ((zs.take k).drop (j + 1))) := by
              rw [bs_data, encAll_drop zs j k hjl hlz]; exact dec_enc hz.1 hz.2 _
            have hsz : (bs (encAll ((zs.take k).drop j))).size ≤ 9223372036854775807 := by
              rw [bs_size]; have := encAll_len ((zs.take k).drop j); simp at this; omega
            have c1 := takeInt_lit hd rfl
            obtain ⟨z, hze⟩ : ∃ z, z = zs.getD j 0 := ⟨_, rfl⟩
            rw [← hze] at hc c1
            have C1 := Lib.hid c1
            have Hb2 := Lib.hid hb2
            have hne : ((z : Int) != z) = false := by simp
            clear c1 hd hze hz hb2
            go_wp2_with fail
            refine (C1.out _ hsz).mono ?_
            rintro e w1 ⟨rfl, b1⟩
            have hc1 := (b1.cell (p := ⟨b, off + j, none⟩) (lt_of_cell hc)).trans hc
            go_wp2
            go_roundw
            case rel =>
              exact ⟨j + 1, by omega, by go_num, rfl, Hb2.out.trans (b1.mono Hb2.out.size)⟩
            case measure => simp [intOf]; omega
          · have hjk : j = k := by omega
            subst hjk
            have hnil : encAll ((zs.take j).drop j) = [] := by rw [List.drop_eq_nil_of_le (by simp; omega)]; rfl
            rw [hnil]
            have ht : (bs []).toList = [] := bs_toList []
            clear hnil hj
            go_wp2
            go_ret
            exact ⟨ret_true' (by simp), hb2⟩
  · have h0 : len = 0 := by omega
    subst h0
    go_enter Try.func13, Try.ntmps13
    go_wp2_with (go_at_call 18; (with_reducible refine (nibAwake_any _).mono ?_); rintro e w0 ⟨rfl, b0⟩)
    go_loopw [3, 4] (fun s i wr => s = .string { data := #[] } ∧ i = .int .i64 0 ∧ wr = w0) (fun _ _ _ => 0)
    case atStart => exact ⟨rfl, rfl, rfl⟩
    case round =>
      obtain ⟨rfl, rfl, rfl⟩ := hrel
      obtain ⟨wo, rfl⟩ : ∃ wo : World, wo = wr := ⟨_, rfl⟩
      go_wp2
      go_loopw [3, 5] (fun s i wr => s = .string { data := #[] } ∧ i = .int .i64 0 ∧ wr = wo) (fun _ _ _ => 0)
      case atStart => exact ⟨rfl, rfl, rfl⟩
      case round =>
        obtain ⟨rfl, rfl, rfl⟩ := hrel
        go_wp2
        go_ret
        exact ⟨rfl, b0⟩

theorem cut_form (x : Int) (n : Nat) (h0 : 0 < n) (hn : n ≤ 10) : ∃ a : Nat, a < n ∧ wrap64 ((IntKind.u64.wrap x).tmod (n : Int)) = a := by
  have h0 : 0 ≤ IntKind.u64.wrap x := by rw [IntKind.wrap_u64]; omega
  rw [Int.tmod_eq_emod_of_nonneg h0]
  have h1 := Int.emod_lt_of_pos (IntKind.u64.wrap x) (show (0 : Int) < n by omega)
  have h2 := Int.emod_nonneg (IntKind.u64.wrap x) (show (n : Int) ≠ 0 by omega)
  refine ⟨((IntKind.u64.wrap x) % n).toNat, by omega, ?_⟩
  rw [IntWalk.wrap64_in _ ⟨by omega, by omega⟩]
  omega
theorem bs_take (l : List UInt8) (k : Nat) : (bs l).extract 0 k = bs (l.take k) := by
  apply ByteArray.ext
  apply Array.ext'
  simp [bs, ByteArray.data_extract]
theorem same_eq {x y : List UInt8} {a b : Int} (h : x = y ↔ a = b) : ((x == y) == (a == b)) = true := by
  by_cases hx : x = y
  · have := h.1 hx; simp [hx, this]
  · have h2 : ¬ a = b := fun h3 => hx (h.2 h3)
    have h3 : (x == y) = false := by simpa using hx
    have h4 : (a == b) = false := by simpa using h2
    rw [h3, h4]; rfl
theorem take_iff {a b : Int} (ha1 : -9223372036854775808 ≤ a) (ha2 : a ≤ 9223372036854775807) (hb1 : -9223372036854775808 ≤ b) (hb2 : b ≤ 9223372036854775807) {n : Nat} (hn : n = min (enc a).length (enc b).length) :
    (enc a).take n = (enc b).take n ↔ a = b := by
  constructor
  · intro h
    by_cases hl : (enc a).length ≤ (enc b).length
    · rw [List.take_of_length_le (l := enc a) (by omega)] at h
      refine enc_prefix ha1 ha2 hb1 hb2 (r := (enc b).drop n) (t := []) ?_
      rw [h]; simp
    · rw [List.take_of_length_le (l := enc b) (by omega)] at h
      refine enc_prefix ha1 ha2 hb1 hb2 (r := []) (t := (enc a).drop n) ?_
      rw [← h]; simp
  · rintro rfl; rfl
set_option maxRecDepth 100000 in
set_option maxHeartbeats 1600000 in
theorem NibApart_walk (a : Int) (wa : (Lit.int .i64 a).wf = true) (b : Int) (wb : (Lit.int .i64 b).wf = true) (cut : Int) (_ : (Lit.int .i64 cut).wf = true) (w : World) :
    Calls Try.prog 11 #[.int .i64 a, .int .i64 b, .int .i64 cut] w fun e w' => e = .returned (.bool true) ∧ Below w.heap.size w w' := by
  have ha := wf_bd wa
  have hb := wf_bd wb
  have hza : (bs (enc a)).size = (enc a).length := bs_size _
  have hzb : (bs (enc b)).size = (enc b).length := bs_size _
  have la := enc_len a
  have lb := enc_len b
  have pa := enc_pos a
  have pb := enc_pos b
  obtain ⟨k, hk, hke⟩ := cut_form cut (enc a).length (by omega) la
  have hx := fun l n => bs_take l n
  have hd : dec (bs ((enc a).take k)).data.toList = none := by rw [bs_data]; exact dec_none ha.1 ha.2 k hk
  have hsz : (bs ((enc a).take k)).size ≤ 9223372036854775807 := by rw [bs_size]; simp; omega
  have c1 := takeInt_not hd rfl
  have C1 := Lib.hid c1
  have hea : (((enc a).length : Int) == 0) = false := beq_no (by omega)
  have heb : (((enc b).length : Int) == 0) = false := beq_no (by omega)
  have hbt := fun l => bs_toList l
  have Hk := Lib.hid hk
  clear c1 hd
  rcases Nat.lt_trichotomy (enc a).length (enc b).length with hl | hl | hl
  · have hg : ((enc a == List.take (enc a).length (enc b)) == (a == b)) = true := by
      have h := take_iff ha.1 ha.2 hb.1 hb.2 (n := (enc a).length) (by omega)
      rw [List.take_length] at h
      exact same_eq h
    have hle : ((enc a).length : Int) ≤ ((enc b).length : Int) := by omega
    go_enter Try.func11, Try.ntmps11
    go_wp2_with fail
    refine (nibAwake_any _).mono ?_
    rintro e w0 ⟨rfl, b0⟩
    go_wp2_with fail
    (with_reducible refine (nibInt_any a _ ha.1 ha.2).mono ?_)
    rintro e w1 ⟨rfl, b1⟩
    go_wp2_with fail
    (with_reducible refine (nibInt_any b _ hb.1 hb.2).mono ?_)
    rintro e w2 ⟨rfl, b2⟩
    go_wp2_with fail
    all_goals
      refine (C1.out _ hsz).mono ?_
      rintro e w3 ⟨rfl, b3⟩
      go_wp2
      go_quiet (fail)
      go_wp2
      go_ret
      exact ⟨ret_true' (by simp), bup b0 (bup b1 (bup b2 (bup b3 (below_draws ⟨nq, rfl⟩))))⟩
  · have hg : ((enc a == enc b) == (a == b)) = true := by
      have h := take_iff ha.1 ha.2 hb.1 hb.2 (n := (enc b).length) (by omega)
      rw [List.take_length, ← hl, List.take_length] at h
      exact same_eq h
    rw [← hl] at hzb heb lb pb
    have e1 : List.take (enc a).length (enc b) = enc b := by rw [hl, List.take_length]
    have Hl := Lib.hid hl
    clear hl
    go_enter Try.func11, Try.ntmps11
    go_wp2_with fail
    refine (nibAwake_any _).mono ?_
    rintro e w0 ⟨rfl, b0⟩
    go_wp2_with fail
    (with_reducible refine (nibInt_any a _ ha.1 ha.2).mono ?_)
    rintro e w1 ⟨rfl, b1⟩
    go_wp2_with fail
    (with_reducible refine (nibInt_any b _ hb.1 hb.2).mono ?_)
    rintro e w2 ⟨rfl, b2⟩
    go_wp2_with fail
    all_goals
      refine (C1.out _ hsz).mono ?_
      rintro e w3 ⟨rfl, b3⟩
      go_wp2
      go_quiet (fail)
      go_wp2
      go_ret
      exact ⟨ret_true' (by simp), bup b0 (bup b1 (bup b2 (bup b3 (below_draws ⟨nq, rfl⟩))))⟩
  · have hg : ((List.take (enc b).length (enc a) == enc b) == (a == b)) = true := by
      have h := take_iff ha.1 ha.2 hb.1 hb.2 (n := (enc b).length) (by omega)
      rw [List.take_length] at h
      exact same_eq h
    have hle : ((enc b).length : Int) ≤ ((enc a).length : Int) := by omega
    go_enter Try.func11, Try.ntmps11
    go_wp2_with fail
    refine (nibAwake_any _).mono ?_
    rintro e w0 ⟨rfl, b0⟩
    go_wp2_with fail
    (with_reducible refine (nibInt_any a _ ha.1 ha.2).mono ?_)
    rintro e w1 ⟨rfl, b1⟩
    go_wp2_with fail
    (with_reducible refine (nibInt_any b _ hb.1 hb.2).mono ?_)
    rintro e w2 ⟨rfl, b2⟩
    go_wp2_with fail
    all_goals
      refine (C1.out _ hsz).mono ?_
      rintro e w3 ⟨rfl, b3⟩
      go_wp2
      go_quiet (fail)
      go_wp2
      go_ret
      exact ⟨ret_true' (by simp), bup b0 (bup b1 (bup b2 (bup b3 (below_draws ⟨nq, rfl⟩))))⟩
end Go.Proofs.Ytnanojpbfcgloaa
