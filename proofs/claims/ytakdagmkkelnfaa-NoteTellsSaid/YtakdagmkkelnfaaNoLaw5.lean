/-
  Four bytes of a message put in the place of others are told: the walk.
-/
import Derived.Test.YtakdagmkkelnfaaNoLaw4
import Derived.Deep.Cut
namespace Go.Proofs.Ytakdagmkkelnfaa
open Go.RowKit Go.Sort NibPure SumPure
set_option linter.unusedVariables false
set_option linter.unusedSimpArgs false
set_option maxHeartbeats 64000000 in
set_option maxRecDepth 100000 in
theorem NoteTells_walk (m : Ms) (A : Option Addr) (sn sc : Nat) (B : Option Addr) (en ec : Nat) (w : World) (hS : IsSlots w A sn sc m.sl) (hE : IsEnts w B en ec m.en) (at_ : Int) (_ : (Lit.int .i64 at_).wf = true) (b0 b1 b2 b3 : UInt8) :
    Calls Try.prog 8 #[.agg (m.row A sn sc B en ec), .int .i64 at_, .agg #[.int .u8 (b0.toNat : Int), .int .u8 (b1.toNat : Int), .int .u8 (b2.toNat : Int), .int .u8 (b3.toNat : Int)]] w fun r w' => r = .returned (.bool true) ∧ Below w.heap.size w w' := by
  have CA := Lib.hid (fun w => awake_any w)
  have CG := Lib.hid (fun w h1 h2 => great_any m A sn sc B en ec w h1 h2)
  have CE := Lib.hid (fun w h1 h2 => nencode_any m A sn sc B en ec w h1 h2)
  obtain ⟨g, hg⟩ : ∃ g, greatB m = g := ⟨_, rfl⟩
  rw [hg] at CG
  clear hg
  obtain ⟨q, hq⟩ : ∃ q, m.good = q := ⟨_, rfl⟩
  obtain ⟨L, hL⟩ : ∃ L, withSum m.body = L := ⟨_, rfl⟩
  have CEt : Hid (q = true → ∀ w, IsSlots w A sn sc m.sl → IsEnts w B en ec m.en → Calls Try.prog 15 #[.agg (m.row A sn sc B en ec)] w fun r w' => r = .returned (.tuple #[.string (bs L), .int .i64 0]) ∧ Below w.heap.size w w') := Lib.hid (fun h w h1 h2 => by
    have := CE.out w h1 h2
    unfold Ms.encM at this
    rw [hq, if_pos h, hL] at this
    exact this)
  have CEf : Hid (q = false → ∀ w, IsSlots w A sn sc m.sl → IsEnts w B en ec m.en → Calls Try.prog 15 #[.agg (m.row A sn sc B en ec)] w fun r w' => r = .returned (.tuple #[.string (bs []), .int .i64 1]) ∧ Below w.heap.size w w') := Lib.hid (fun h w h1 h2 => by
    have := CE.out w h1 h2
    unfold Ms.encM at this
    rw [hq, if_neg (by simp [h])] at this
    exact this)
  have HL : Hid (q = true → 5 ≤ L.length ∧ L.length ≤ 9004) := Lib.hid (fun h => by
    rw [h] at hq
    have := body_len hq
    rw [← hL, withSum_len]
    omega)
  have HT : Hid (q = true → ∀ (k : Nat) (T : List UInt8), (k = 0 ∨ 4 ≤ k) → k + 4 ≤ L.length → T = L.take k ++ bytes4 b0 b1 b2 b3 ++ L.drop (k + 4) → ((decM T).2 = 20 ∧ T ≠ L) ∨ ((decM T).2 = 0 ∧ T = L)) := Lib.hid (fun h k T h1 h2 h3 => by
    rw [h] at hq
    exact tellsM hq k h1 _ rfl L T hL h2 h3)
  clear CE hq hL
  have HS := Lib.hid hS
  have HE := Lib.hid hE
  clear hS hE
  obtain ⟨k, pg, x, nd, nn, tc, te, tn, lsn, sl, el⟩ := m
  simp only [Ms.row, msgC] at CG CEt CEf HS HE ⊢
  go_enter Try.func8, Try.ntmps8
  go_upto_region 1 with (fail)
  generalize hwa : World.alloc _ _ = wa
  have BW : Below w.heap.size w wa := by rw [← hwa]; exact bup (bnew _ _) (bnew _ _)
  have X : Has wa w.heap.size (.cells #[.int .i64 k, .int .i64 pg, .bool x, .bool nd, .int .i64 nn, .int .i64 tc, .int .i64 te, .int .i64 tn, .int .i64 lsn, .slice A sn sc, .slice B en ec] 32) := by rw [← hwa]; exact (Has.new _ _).alloc _
  have Y : Has wa (w.heap.size + 1) (.cells #[.int .u8 (b0.toNat : Int), .int .u8 (b1.toNat : Int), .int .u8 (b2.toNat : Int), .int .u8 (b3.toNat : Int)] 44) := by rw [← hwa]; exact Has.new1 _ _ _
  clear hwa
  replace BW := Lib.hid BW
  replace X := Lib.hid X
  replace Y := Lib.hid Y
  replace HS := Lib.hid (HS.out.below BW.out)
  replace HE := Lib.hid (HE.out.below BW.out)
  go_wp2_with fail
  refine (CA.out _).mono ?_
  rintro e w1 ⟨rfl, bb⟩
  have BW := Lib.hid (bup BW.out bb)
  have X := Lib.hid (X.out.below bb)
  have Y := Lib.hid (Y.out.below bb)
  have HS := Lib.hid (HS.out.below bb)
  have HE := Lib.hid (HE.out.below bb)
  clear bb
  have x0 := X.out.cell 0 (.int .i64 k) rfl
  have x1 := X.out.cell 1 (.int .i64 pg) rfl
  have x2 := X.out.cell 2 (.bool x) rfl
  have x3 := X.out.cell 3 (.bool nd) rfl
  have x4 := X.out.cell 4 (.int .i64 nn) rfl
  have x5 := X.out.cell 5 (.int .i64 tc) rfl
  have x6 := X.out.cell 6 (.int .i64 te) rfl
  have x7 := X.out.cell 7 (.int .i64 tn) rfl
  have x8 := X.out.cell 8 (.int .i64 lsn) rfl
  have x9 := X.out.cell 9 (.slice A sn sc) rfl
  have x10 := X.out.cell 10 (.slice B en ec) rfl
  go_wp2_with fail
  refine (CG.out _ HS.out HE.out).mono ?_
  rintro e w2 ⟨rfl, bb⟩
  clear x0 x1 x2 x3 x4 x5 x6 x7 x8 x9 x10
  have BW := Lib.hid (bup BW.out bb)
  have X := Lib.hid (X.out.below bb)
  have Y := Lib.hid (Y.out.below bb)
  have HS := Lib.hid (HS.out.below bb)
  have HE := Lib.hid (HE.out.below bb)
  clear bb
  cases g with
  | true =>
    go_wp2_with fail
    go_ret
    exact ⟨rfl, BW.out⟩
  | false =>
  have x0 := X.out.cell 0 (.int .i64 k) rfl
  have x1 := X.out.cell 1 (.int .i64 pg) rfl
  have x2 := X.out.cell 2 (.bool x) rfl
  have x3 := X.out.cell 3 (.bool nd) rfl
  have x4 := X.out.cell 4 (.int .i64 nn) rfl
  have x5 := X.out.cell 5 (.int .i64 tc) rfl
  have x6 := X.out.cell 6 (.int .i64 te) rfl
  have x7 := X.out.cell 7 (.int .i64 tn) rfl
  have x8 := X.out.cell 8 (.int .i64 lsn) rfl
  have x9 := X.out.cell 9 (.slice A sn sc) rfl
  have x10 := X.out.cell 10 (.slice B en ec) rfl
  go_wp2_with fail
  cases q with
  | false =>
    refine (CEf.out rfl _ HS.out HE.out).mono ?_
    rintro e w3 ⟨rfl, bb⟩
    clear x0 x1 x2 x3 x4 x5 x6 x7 x8 x9 x10
    have BW := Lib.hid (bup BW.out bb)
    have X := Lib.hid (X.out.below bb)
    have Y := Lib.hid (Y.out.below bb)
    have HS := Lib.hid (HS.out.below bb)
    have HE := Lib.hid (HE.out.below bb)
    clear bb
    go_wp2_with fail
    go_ret
    exact ⟨rfl, BW.out⟩
  | true =>
  refine (CEt.out rfl _ HS.out HE.out).mono ?_
  rintro e w3 ⟨rfl, bb⟩
  clear x0 x1 x2 x3 x4 x5 x6 x7 x8 x9 x10
  have BW := Lib.hid (bup BW.out bb)
  have X := Lib.hid (X.out.below bb)
  have Y := Lib.hid (Y.out.below bb)
  have HS := Lib.hid (HS.out.below bb)
  have HE := Lib.hid (HE.out.below bb)
  clear bb
  obtain ⟨l1, l2⟩ := HL.out rfl
  replace HT := Lib.hid (HT.out rfl)
  clear CEf CEt HL CG CA
  obtain ⟨U, hU⟩ : ∃ U, bs L = U := ⟨_, rfl⟩
  have hUs : U.size = L.length := by rw [← hU, bs_size]
  have hu1 : (5 : Int) ≤ (U.size : Int) := by omega
  have hu2 : (U.size : Int) ≤ 9004 := by omega
  have HU := Lib.hid hU
  have HUs := Lib.hid hUs
  rw [hU]
  clear hU hUs l1 l2
  obtain ⟨n, hn, hke⟩ := mod_form at_ (U.size - 4) (by omega)
  rw [show ((U.size - 4 : Nat) : Int) + 1 = (U.size : Int) - 3 by omega] at hke
  have HKE := Lib.hid hke
  clear hke
  go_upto_if 26 with (fail)
  go_cut [9] from 26 to 45 (fun v wx => ∃ k : Nat, v = .int .i64 k ∧ (k = 0 ∨ 4 ≤ k) ∧ k + 4 ≤ U.size ∧ Hid (Below w3.heap.size w3 wx))
  case first =>
    by_cases h8 : (8 : Int) ≤ (U.size : Int)
    · go_upto_region 11 with (fail)
      rw [HKE.out]
      by_cases n0 : n = 0
      · subst n0
        go_wp2_with fail
        go_meet
        exact ⟨0, rfl, by omega, by omega, Lib.hid (Below.refl _ _)⟩
      by_cases n4 : n < 4
      · have n1 : (0 : Int) < (n : Int) := by omega
        have n2 : (n : Int) < 4 := by omega
        go_wp2_with fail
        go_meet
        exact ⟨4, rfl, by omega, by omega, Lib.hid (Below.refl _ _)⟩
      · have n1 : (0 : Int) < (n : Int) := by omega
        have n2 : ¬ (n : Int) < 4 := by omega
        have n3 : (n : Int) + 4 ≤ (U.size : Int) := by omega
        go_wp2_with fail
        go_meet
        exact ⟨n, rfl, by omega, by omega, Lib.hid (Below.refl _ _)⟩
    · go_wp2_with fail
      go_meet
      exact ⟨0, rfl, by omega, by omega, Lib.hid (Below.refl _ _)⟩
  case rest =>
  obtain ⟨j, rfl, hj, hj2, hb⟩ := hcut
  have BW := Lib.hid (bup BW.out hb.out)
  have Y := Lib.hid (Y.out.below hb.out)
  have hUs2 := HUs.out
  have hadd1 := fun (w : World) => run_string_add_sum (P := Try.prog) w (U.extract 0 j) (bs (bytes4 b0 b1 b2 b3)) (by rw [bs_size]; simp [bytes4]; omega)
  have hadd2 := fun (w : World) => run_string_add_sum (P := Try.prog) w (U.extract 0 j ++ bs (bytes4 b0 b1 b2 b3)) (U.extract (j + 4) U.size) (by simp [bytes4, bs_size]; omega)
  obtain ⟨T, hT⟩ : ∃ T, T = L.take j ++ bytes4 b0 b1 b2 b3 ++ L.drop (j + 4) := ⟨_, rfl⟩
  have hTb : U.extract 0 j ++ bs (bytes4 b0 b1 b2 b3) ++ U.extract (j + 4) U.size = bs T := by
    rw [← HU.out, bs_take, bs_skip L (j + 4) _ (bs_size L), bs_append, bs_append, hT]
  have hR := HT.out j T hj (by omega) hT
  have hTl : T.length ≤ 9223372036854775807 := by rw [hT]; simp [bytes4]; omega
  have CD := Lib.hid (fun w => ndec_any (bs T) w (by rw [bs_size]; exact hTl))
  rw [bs_data] at CD
  obtain ⟨R, hRe⟩ : ∃ R, decM T = R := ⟨_, rfl⟩
  rw [hRe] at CD hR
  obtain ⟨V, hV⟩ : ∃ V, bs T = V := ⟨_, rfl⟩
  rw [hV] at CD hTb
  have hR2 : (R.2 = 20 ∧ (U.toList == V.toList) = false) ∨ (R.2 = 0 ∧ U = V) := by
    rcases hR with ⟨h1, h2⟩ | ⟨h1, h2⟩
    · left
      refine ⟨h1, ?_⟩
      cases h : (U.toList == V.toList) with
      | false => rfl
      | true =>
        have h' := eq_of_beq h
        rw [← HU.out, ← hV, bs_toList, bs_toList] at h'
        exact absurd h'.symm h2
    · right
      exact ⟨h1, by rw [← HU.out, ← hV, h2]⟩
  have HR2 := Lib.hid hR2
  obtain ⟨⟨rk, rpg, rx, rnd, rnn, rtc, rte, rtn, rlsn, rsl, rel⟩, re⟩ := R
  have hconv := arr4_conv b0 b1 b2 b3 (w.heap.size + 1) wc Y.out
  have hk1 : (j : Int) ≤ (U.size : Int) := by omega
  have hk2 : (j : Int) + 4 ≤ (U.size : Int) := by omega
  have HTB := Lib.hid hTb
  clear hR hR2 hRe hT hTb hTl hV HT HKE hUs2 HUs HU hj hj2 hn hb
  go_wp2_with fail
  go_quiet (fail)
  rw [HTB.out]
  clear hadd1 hadd2 hconv HTB
  go_wp2_with fail
  refine (CD.out _).mono ?_
  rintro e w5 ⟨cs, rfl, ⟨A4, s4, t4, B4, e4, f4, rfl, hS, hE⟩, bb⟩
  have BW := Lib.hid (bup BW.out (bup (draws_below _ _) bb))
  clear bb hS hE
  simp only [Ms.row, msgC]
  rcases HR2.out with ⟨rfl, huv⟩ | ⟨rfl, rfl⟩
  all_goals
    go_wp2_with ((with_reducible refine at_store rfl ?_); refine wpList_put_row rfl _ _ _ rfl rfl w5.heap.size _ rfl rfl _ _ (Has.new w5 _) (by kernel_rfl) rfl (by first | kernel_rfl | simp [Value.oneCell']) ?_; intro w9 Z5 B5; (have BW := Lib.hid ((bup BW.out (bnew _ _)).trans (B5.below BW.out.size (by have := BW.out.size; simp; omega)))); (clear Z5 B5))
    go_ret
    exact ⟨rfl, BW.out⟩
end Go.Proofs.Ytakdagmkkelnfaa
