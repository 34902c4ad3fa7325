/-
  slab.Vacant.
-/
import Derived.Test.YtklmoigpalhlmaaSlD
namespace Go.Proofs.Ytklmoigpalhlmaa
open Go.RowKit
set_option linter.unusedVariables false
set_option linter.unusedSimpArgs false

/-- The first slot that has nothing; behind all of them, if there is none. -/
def slVac (l : List Sl) : Nat := l.findIdx Sl.free
/-- The first slot that so many bytes find, and the error. -/
def vacRes (lsn : Int) (l : List Sl) (k : Int) : Int × Int :=
  if slGood lsn l = false ∨ k < 0 then (0, 1)
  else if 200 < k then (0, 5)
  else if 32 ≤ slVac l ∨ 240 < (slSize l : Int) + (k + if slVac l = l.length then 1 else 0) then (0, 22)
  else ((slVac l : Int), 0)
theorem slVac_lt {l : List Sl} (h : l.any Sl.free = true) : slVac l < l.length ∧ slIdx Sl.free l = (slVac l : Int) := by
  obtain ⟨x, hx, hp⟩ := List.any_eq_true.1 h
  exact ⟨List.findIdx_lt_length_of_exists ⟨x, hx, hp⟩, by simp [slIdx, h, slVac]⟩
theorem slVac_end {l : List Sl} (h : l.any Sl.free = false) : slVac l = l.length ∧ slIdx Sl.free l = -1 := by
  refine ⟨List.findIdx_eq_length.2 (fun x hx => ?_), slIdx_none h⟩
  have := List.any_eq_false.1 h x hx
  simpa using this
set_option maxRecDepth 100000 in
set_option maxHeartbeats 4000000 in
theorem pvac_any (lsn : Int) (A : Option Addr) (n c : Nat) (l : List Sl) (k : Int) (w : World) (h : IsSlots w A n c l) :
    Calls Try.prog 25 #[.agg #[.int .i64 lsn, .slice A n c], .int .i64 k] w fun r w' => r = .returned (.tuple #[.int .i64 (vacRes lsn l k).1, .int .i64 (vacRes lsn l k).2]) ∧ Below w.heap.size w w' := by
  have CG := Lib.hid (fun w h => pgood_any lsn A n c l w h)
  have hlen := h.len
  have H := Lib.hid h
  obtain ⟨R, hR⟩ : ∃ R, vacRes lsn l k = R := ⟨_, rfl⟩
  rw [hR]
  have HR := Lib.hid hR
  clear hR
  cases hg : slGood lsn l with
  | false =>
    rw [hg] at CG
    have HRR : Hid (R = (0, 1)) := Lib.hid (by rw [← HR.out]; simp [vacRes, hg])
    clear hg h
    go_enter Try.func25, Try.ntmps25
    go_wp2_with fail
    refine (CG.out _ (H.out.alloc _)).mono ?_
    rintro e w1 ⟨rfl, b1⟩
    go_wp2_with fail
    go_ret2
    exact ⟨by rw [HRR.out]; rfl, bup (bnew _ _) b1⟩
  | true =>
    rw [hg] at CG
    obtain ⟨hg1, hg2, hg3, hg4, hg5⟩ := (slGood_iff lsn l).1 hg
    have Hg := Lib.hid hg
    have CI := Lib.hid (fun w h => idxFree_any A n c l w h)
    have CS := Lib.hid (fun w h => size_any A n c l w h (by omega))
    obtain ⟨S, hS⟩ : ∃ S, slSize l = S := ⟨_, rfl⟩
    rw [hS] at CS hg5
    have HS := Lib.hid hS
    have hn32 : n ≤ 32 := by omega
    have Hlen := Lib.hid hlen
    clear hg h hg1 hg2 hg3 hg4 hS hlen
    by_cases k0 : k < 0
    · have HRR : Hid (R = (0, 1)) := Lib.hid (by rw [← HR.out]; simp [vacRes, k0])
      go_enter Try.func25, Try.ntmps25
      go_wp2_with fail
      refine (CG.out _ (H.out.alloc _)).mono ?_
      rintro e w1 ⟨rfl, b1⟩
      go_wp2_with fail
      go_ret2
      exact ⟨by rw [HRR.out]; rfl, bup (bnew _ _) b1⟩
    by_cases k2 : 200 < k
    · have HRR : Hid (R = (0, 5)) := Lib.hid (by rw [← HR.out]; simp [vacRes, k0, k2, Hg.out])
      go_enter Try.func25, Try.ntmps25
      go_wp2_with fail
      refine (CG.out _ (H.out.alloc _)).mono ?_
      rintro e w1 ⟨rfl, b1⟩
      go_wp2_with fail
      go_ret2
      exact ⟨by rw [HRR.out]; rfl, bup (bnew _ _) b1⟩
    have HV : Hid (vacRes lsn l k = if 32 ≤ slVac l ∨ 240 < (S : Int) + (k + if slVac l = l.length then 1 else 0) then (0, 22) else ((slVac l : Int), 0)) := Lib.hid (by
      unfold vacRes
      rw [if_neg (by rw [Hg.out]; simp; omega), if_neg k2, HS.out])
    cases hf : l.any Sl.free with
    | true =>
      obtain ⟨v1, v2⟩ := slVac_lt hf
      rw [v2] at CI
      rw [Hlen.out] at v1
      have HV2 := HV.out
      rw [HR.out, Hlen.out] at HV2
      generalize slVac l = j at *
      clear v2 hf
      by_cases hfull : 240 < (S : Int) + k
      · have HRR : Hid (R = (0, 22)) := Lib.hid (by rw [HV2, if_pos]; right; split <;> omega)
        clear HV2
        go_enter Try.func25, Try.ntmps25
        go_wp2_with fail
        refine (CG.out _ (H.out.alloc _)).mono ?_
        rintro e w1 ⟨rfl, b1⟩
        have P := ((Has.new w _).below b1)
        have p1 := P.cell 1 _ rfl
        replace P := Lib.hid P
        have H1 := Lib.hid ((H.out.alloc _).below b1)
        go_wp2_with fail
        refine (CI.out _ H1.out).mono ?_
        rintro e w2 ⟨rfl, b2⟩
        have p2 := (P.out.below b2).cell 1 _ rfl
        have H2 := Lib.hid (H1.out.below b2)
        clear p1
        go_wp2_with fail
        refine (CS.out _ H2.out).mono ?_
        rintro e w3 ⟨rfl, b3⟩
        go_wp2_with fail
        go_ret2
        exact ⟨by rw [HRR.out]; rfl, bup (bup (bup (bnew _ _) b1) b2) b3⟩
      · have HRR : Hid (R = ((j : Int), 0)) := Lib.hid (by rw [HV2, if_neg]; rintro (h | h); omega; rw [if_neg (by omega)] at h; omega)
        clear HV2
        go_enter Try.func25, Try.ntmps25
        go_wp2_with fail
        refine (CG.out _ (H.out.alloc _)).mono ?_
        rintro e w1 ⟨rfl, b1⟩
        have P := ((Has.new w _).below b1)
        have p1 := P.cell 1 _ rfl
        replace P := Lib.hid P
        have H1 := Lib.hid ((H.out.alloc _).below b1)
        go_wp2_with fail
        refine (CI.out _ H1.out).mono ?_
        rintro e w2 ⟨rfl, b2⟩
        have p2 := (P.out.below b2).cell 1 _ rfl
        have H2 := Lib.hid (H1.out.below b2)
        clear p1
        go_wp2_with fail
        refine (CS.out _ H2.out).mono ?_
        rintro e w3 ⟨rfl, b3⟩
        go_wp2_with fail
        go_ret2
        exact ⟨by rw [HRR.out]; rfl, bup (bup (bup (bnew _ _) b1) b2) b3⟩
    | false =>
      obtain ⟨v1, v2⟩ := slVac_end hf
      rw [v2] at CI
      have HV2 := HV.out
      rw [HR.out, v1, Hlen.out, if_pos rfl] at HV2
      clear v1 v2 hf
      by_cases h32 : 32 ≤ n
      · have HRR : Hid (R = (0, 22)) := Lib.hid (by rw [HV2, if_pos (.inl h32)])
        clear HV2
        go_enter Try.func25, Try.ntmps25
        go_wp2_with fail
        refine (CG.out _ (H.out.alloc _)).mono ?_
        rintro e w1 ⟨rfl, b1⟩
        have P := ((Has.new w _).below b1)
        have p1 := P.cell 1 _ rfl
        replace P := Lib.hid P
        have H1 := Lib.hid ((H.out.alloc _).below b1)
        go_wp2_with fail
        refine (CI.out _ H1.out).mono ?_
        rintro e w2 ⟨rfl, b2⟩
        have p2 := (P.out.below b2).cell 1 _ rfl
        clear p1
        go_wp2_with fail
        go_ret2
        exact ⟨by rw [HRR.out]; rfl, bup (bup (bnew _ _) b1) b2⟩
      by_cases hfull : 240 < (S : Int) + (k + 1)
      · have HRR : Hid (R = (0, 22)) := Lib.hid (by rw [HV2, if_pos (.inr hfull)])
        clear HV2
        go_enter Try.func25, Try.ntmps25
        go_wp2_with fail
        refine (CG.out _ (H.out.alloc _)).mono ?_
        rintro e w1 ⟨rfl, b1⟩
        have P := ((Has.new w _).below b1)
        have p1 := P.cell 1 _ rfl
        replace P := Lib.hid P
        have H1 := Lib.hid ((H.out.alloc _).below b1)
        go_wp2_with fail
        refine (CI.out _ H1.out).mono ?_
        rintro e w2 ⟨rfl, b2⟩
        have p2 := (P.out.below b2).cell 1 _ rfl
        have H2 := Lib.hid (H1.out.below b2)
        clear p1
        go_wp2_with fail
        refine (CS.out _ H2.out).mono ?_
        rintro e w3 ⟨rfl, b3⟩
        go_wp2_with fail
        go_ret2
        exact ⟨by rw [HRR.out]; rfl, bup (bup (bup (bnew _ _) b1) b2) b3⟩
      · have HRR : Hid (R = ((n : Int), 0)) := Lib.hid (by rw [HV2, if_neg]; rintro (h | h); omega; omega)
        clear HV2
        go_enter Try.func25, Try.ntmps25
        go_wp2_with fail
        refine (CG.out _ (H.out.alloc _)).mono ?_
        rintro e w1 ⟨rfl, b1⟩
        have P := ((Has.new w _).below b1)
        have p1 := P.cell 1 _ rfl
        replace P := Lib.hid P
        have H1 := Lib.hid ((H.out.alloc _).below b1)
        go_wp2_with fail
        refine (CI.out _ H1.out).mono ?_
        rintro e w2 ⟨rfl, b2⟩
        have p2 := (P.out.below b2).cell 1 _ rfl
        have H2 := Lib.hid (H1.out.below b2)
        clear p1
        go_wp2_with fail
        refine (CS.out _ H2.out).mono ?_
        rintro e w3 ⟨rfl, b3⟩
        go_wp2_with fail
        go_ret2
        exact ⟨by rw [HRR.out]; rfl, bup (bup (bup (bnew _ _) b1) b2) b3⟩
set_option maxRecDepth 100000 in
set_option maxHeartbeats 2000000 in
/-- Whether an image is more than is asked. -/
theorem great_any (lsn : Int) (A : Option Addr) (n c : Nat) (l : List Sl) (w : World) (h : IsSlots w A n c l) :
    Calls Try.prog 13 #[.agg #[.int .i64 lsn, .slice A n c]] w fun r w' => r = .returned (.bool (slGreat l)) ∧ Below w.heap.size w w' := by
  have hcap := h.cap
  have hmost := h.most
  have hlen := h.len
  have H := Lib.hid h
  obtain ⟨G, hG⟩ : ∃ G, slGreat l = G := ⟨_, rfl⟩
  rw [hG]
  have HG := Lib.hid hG
  clear hG h
  by_cases hbig : 100 < n
  · have HR : Hid (G = true) := Lib.hid (by rw [← HG.out]; simp [slGreat]; omega)
    go_enter Try.func13, Try.ntmps13
    go_wp2_with fail
    go_ret
    exact ⟨by rw [HR.out]; rfl, bnew _ _⟩
  · go_enter Try.func13, Try.ntmps13
    go_wp2_with fail
    generalize hw1 : World.alloc _ _ = w1
    have K : Hid (Has w1 w.heap.size (.cells #[.int .i64 lsn, .slice A n c] 24)) := Lib.hid (by rw [← hw1]; exact Has.new _ _)
    have B : Hid (Below w.heap.size w w1) := Lib.hid (by rw [← hw1]; exact bnew _ _)
    have H1 := Lib.hid (H.out.below B.out)
    clear hw1
    have k1 := K.out.cell 1 _ rfl
    go_loop [3] (fun i => ∃ k : Nat, k ≤ n ∧ i = .int .i64 k ∧ Hid ((l.take k).any (fun x => decide (4096 < x.d.size)) = false)) (fun i => n - (intOf i).toNat)
    case atStart => exact ⟨0, by omega, rfl, Lib.hid rfl⟩
    case round =>
      obtain ⟨k, hk, rfl, Hn⟩ := hrel
      by_cases hlt : k < n
      · obtain ⟨b, off, x, rfl, hx, hbl, h1, h2, hs⟩ := H1.out.at hlt
        by_cases hz : 4096 < x.d.size
        · have HR : Hid (G = true) := Lib.hid (by
            rw [← HG.out]
            have : l.any (fun x => decide (4096 < x.d.size)) = true := List.any_eq_true.2 ⟨x, List.mem_of_getElem? hx, by simpa using hz⟩
            simp only [slGreat, this, Bool.or_true])
          clear hx
          go_wp2_with fail
          go_ret
          exact ⟨by rw [HR.out]; rfl, B.out⟩
        · have HX := Lib.hid (any_take_snoc hx Hn.out (by simpa using hz))
          clear hx
          go_wp2_with fail
          go_round
          case rel => exact ⟨k + 1, by omega, by go_num, HX⟩
          case measure => simp [intOf]; omega
      · have HR : Hid (G = false) := Lib.hid (by
          have hn := Hn.out
          rw [List.take_of_length_le (by omega)] at hn
          rw [← HG.out, slGreat, hn]
          simp; omega)
        go_wp2_with fail
        go_ret
        exact ⟨by rw [HR.out]; rfl, B.out⟩
end Go.Proofs.Ytklmoigpalhlmaa
