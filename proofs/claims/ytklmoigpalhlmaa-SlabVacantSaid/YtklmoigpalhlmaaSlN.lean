/-
  The reference's Vacant.
-/
import Derived.Test.YtklmoigpalhlmaaSlM
import Derived.Test.YtklmoigpalhlmaaSlLaw0
namespace Go.Proofs.Ytklmoigpalhlmaa
open Go.RowKit
set_option linter.unusedVariables false
set_option linter.unusedSimpArgs false

theorem slOther_full (k : Nat) : ∀ (l : List Sl) (i : Nat), (∀ j x, l[j]? = some x → i + j = k → x.d.size = 0) → slOther k i l + l.length = slSum l
  | [], _, _ => rfl
  | a :: l, i, h => by
    have ih := slOther_full k l (i + 1) (fun j x hx e => h (j + 1) x (by simpa using hx) (by omega))
    have e : slSum (a :: l) = (1 + a.d.size) + slSum l := rfl
    have h0 := h 0 a rfl
    simp only [slOther, List.length_cons]
    rw [e]
    split
    · have := h0 (by omega); omega
    · omega
theorem vac_put {lsn : Int} {l : List Sl} (h : slGood lsn l = true) {s n : Nat} (hs : s = slVac l) (hs2 : s < 32) (hn : n ≤ 200) {d : ByteArray} (hd : d.size = n) :
    putRes lsn l s ⟨true, d⟩ = if 240 < (slSize l : Int) + ((n : Int) + if slVac l = l.length then 1 else 0) then (0, [], 22) else (lsn, putL l s ⟨true, d⟩, 0) := by
  have hodd : (Sl.mk true d).odd = false := by simp [Sl.odd]; omega
  rw [putRes_go h hs2 hodd]
  obtain ⟨h1, h2, h3, h4, h5⟩ := (slGood_iff lsn l).1 h
  have hsz := putL_size h4 s (x := ⟨true, d⟩) rfl
  have hf := slOther_full s l 0 (fun j x hx e => by
    have hj : j < l.length := (List.getElem?_eq_some_iff.1 hx).1
    have hlt : slVac l < l.length := by omega
    have hp : Sl.free (l[slVac l]'hlt) = true := List.findIdx_getElem
    have hxx : l[slVac l]'hlt = x := by
      have : l[slVac l]? = some x := by rw [← hs, ← e, Nat.zero_add]; exact hx
      exact (List.getElem?_eq_some_iff.1 this).2
    rw [hxx] at hp
    have ho : x.odd = false := by have := List.any_eq_false.1 h3 x (List.mem_of_getElem? hx); simpa using this
    have := free_none ho (by simpa [Sl.free] using hp)
    rw [this]; rfl)
  have hle : slVac l ≤ l.length := List.findIdx_le_length
  simp only [hd] at hsz
  unfold slSize at *
  by_cases e : slVac l = l.length
  · rw [if_pos e]
    by_cases e2 : 240 < 9 + slSum (putL l s ⟨true, d⟩)
    · rw [if_pos e2, if_pos (by omega)]
    · rw [if_neg e2, if_neg (by omega)]
  · rw [if_neg e]
    by_cases e2 : 240 < 9 + slSum (putL l s ⟨true, d⟩)
    · rw [if_pos e2, if_pos (by omega)]
    · rw [if_neg e2, if_neg (by omega)]
theorem vac_step {l : List Sl} {k : Nat} {x : Sl} (hx : l[k]? = some x) (h : (l.take k).any Sl.free = false) : (x.u = true → (l.take (k + 1)).any Sl.free = false) ∧ (x.u = false → slVac l = k) := by
  refine ⟨fun hu => any_take_snoc hx h (by simp [Sl.free, hu]), fun hu => ?_⟩
  have h1 := slIdx_here hx h (show Sl.free x = true by simp [Sl.free, hu])
  have h2 := (slVac_lt (l := l) (List.any_eq_true.2 ⟨x, List.mem_of_getElem? hx, by simp [Sl.free, hu]⟩)).2
  omega
set_option maxRecDepth 100000 in
set_option maxHeartbeats 8000000 in
theorem rvac_any (lsn : Int) (A : Option Addr) (n c : Nat) (l : List Sl) (k : Int) (w : World) (h : IsSlots w A n c l) :
    Calls Try.prog 26 #[.agg #[.int .i64 lsn, .slice A n c], .int .i64 k] w fun r w' => r = .returned (.tuple #[.int .i64 (vacRes lsn l k).1, .int .i64 (vacRes lsn l k).2]) ∧ Below w.heap.size w w' := by
  have CG := Lib.hid (fun w h => rgood_any lsn A n c l w h)
  have hlen := h.len
  have hcap := h.cap
  have hmost := h.most
  have H := Lib.hid h
  clear h
  by_cases hq : slGood lsn l = false ∨ k < 0
  · have HR : Hid (vacRes lsn l k = (0, 1)) := Lib.hid (by unfold vacRes; rw [if_pos hq])
    have hqq : slGood lsn l = false ∨ (slGood lsn l = true ∧ k < 0) := by
      cases hg : slGood lsn l with
      | false => exact .inl rfl
      | true => rw [hg] at hq; exact .inr ⟨rfl, by rcases hq with h | h; cases h; exact h⟩
    obtain ⟨g, hg⟩ : ∃ g, slGood lsn l = g := ⟨_, rfl⟩
    rw [hg] at CG hqq
    clear hq hg hlen
    rcases hqq with rfl | ⟨rfl, hk⟩ <;>
    · go_enter Try.func26, Try.ntmps26
      go_wp2_with fail
      refine (CG.out _ (H.out.alloc _)).mono ?_
      rintro e w1 ⟨rfl, b1⟩
      go_wp2_with fail
      go_ret2
      exact ⟨by rw [HR.out]; rfl, bup (bnew _ _) b1⟩
  · have hg : slGood lsn l = true := by
      cases hg : slGood lsn l with
      | false => exact absurd (.inl hg) hq
      | true => rfl
    have hk : ¬ k < 0 := fun e => hq (.inr e)
    rw [hg] at CG
    by_cases hk2 : 200 < k
    · have HR : Hid (vacRes lsn l k = (0, 5)) := Lib.hid (by unfold vacRes; rw [if_neg hq, if_pos hk2])
      clear hq hg hlen
      go_enter Try.func26, Try.ntmps26
      go_wp2_with fail
      refine (CG.out _ (H.out.alloc _)).mono ?_
      rintro e w1 ⟨rfl, b1⟩
      go_wp2_with fail
      go_ret2
      exact ⟨by rw [HR.out]; rfl, bup (bnew _ _) b1⟩
    · have HR : Hid (vacRes lsn l k = if 32 ≤ slVac l ∨ 240 < (slSize l : Int) + (k + if slVac l = l.length then 1 else 0) then (0, 22) else ((slVac l : Int), 0)) := Lib.hid (by unfold vacRes; rw [if_neg hq, if_neg hk2])
      obtain ⟨m, rfl⟩ : ∃ m : Nat, k = m := ⟨k.toNat, by omega⟩
      have hm : m ≤ 200 := by omega
      have Hg := Lib.hid hg
      have Hlen := Lib.hid hlen
      have hn32 : n ≤ 32 := by have := ((slGood_iff lsn l).1 hg).2.1; omega
      clear hq hg hlen hk hk2
      go_enter Try.func26, Try.ntmps26
      go_wp2_with fail
      refine (CG.out _ (H.out.alloc _)).mono ?_
      rintro e w1 ⟨rfl, b1⟩
      have P := Lib.hid ((Has.new w _).below b1)
      have B := Lib.hid (bup (bnew w _) b1)
      have H1 := Lib.hid ((H.out.alloc _).below b1)
      clear b1
      have p0 := P.out.cell 0 _ rfl
      have p1 := P.out.cell 1 _ rfl
      go_wp2_with fail
      go_loop [6] (fun i => ∃ j : Nat, j ≤ n ∧ i = .int .i64 j ∧ Hid ((l.take j).any Sl.free = false)) (fun i => n - (intOf i).toNat)
      case atStart => exact ⟨0, by omega, rfl, Lib.hid rfl⟩
      case round =>
        obtain ⟨j, hj, rfl, Hj⟩ := hrel
        have stop : (j < n ∧ ∃ b off, A = some ⟨b, off, none⟩ ∧ w1.cell? ⟨b, off + j * 2, none⟩ = some (.bool true) ∧ (l.take (j + 1)).any Sl.free = false) ∨ (slVac l = j ∧ (j = n ∨ (j < n ∧ ∃ b off, A = some ⟨b, off, none⟩ ∧ w1.cell? ⟨b, off + j * 2, none⟩ = some (.bool false)))) := by
          by_cases hlt : j < n
          · obtain ⟨b, off, x, rfl, hx, hbl, h1, h2, hs⟩ := H1.out.at hlt
            obtain ⟨s1, s2⟩ := vac_step hx Hj.out
            cases hu : x.u with
            | true => rw [hu] at h1; exact .inl ⟨hlt, b, off, rfl, h1, s1 hu⟩
            | false => rw [hu] at h1; exact .inr ⟨s2 hu, .inr ⟨hlt, b, off, rfl, h1⟩⟩
          · have hkn : l.take j = l := List.take_of_length_le (by have := Hlen.out; omega)
            have hjj := Hj.out
            rw [hkn] at hjj
            refine .inr ⟨?_, .inl (by omega)⟩
            rw [(slVac_end hjj).1, Hlen.out]; omega
        rcases stop with ⟨hlt, b, off, rfl, c0, hs⟩ | ⟨hv, hs⟩
        · have Hs := Lib.hid hs
          clear hs
          go_wp2_with fail
          go_round
          case rel => exact ⟨j + 1, by omega, by go_num, Hs⟩
          case measure => simp [intOf]; omega
        · have Hv := Lib.hid hv
          clear hv Hj
          rcases hs with rfl | ⟨hlt, b, off, rfl, c0⟩
          · by_cases h31 : 31 < j
            · have HR2 : Hid (vacRes lsn l m = (0, 22)) := Lib.hid (by rw [HR.out, if_pos (.inl (by have := Hv.out; omega))])
              go_wp2_with fail
              go_ret2
              exact ⟨by rw [HR2.out]; rfl, B.out⟩
            · have hvp := vac_put Hg.out Hv.out.symm (by omega) hm (d := bs (zeros m)) (by rw [bs_size]; simp [zeros])
              have CP := fun w h => rput_any lsn A j c l (j : Nat) ⟨true, bs (zeros m)⟩ w h (by rw [bs_size]; simp [zeros]; omega)
              rw [hvp] at CP
              have hE : ∃ E : Int, (if 240 < (slSize l : Int) + ((m : Int) + if slVac l = l.length then 1 else 0) then ((0 : Int), ([] : List Sl), (22 : Int)) else (lsn, putL l j ⟨true, bs (zeros m)⟩, 0)).2.2 = E ∧ ((E != 0) = true ∧ vacRes lsn l m = (0, E) ∨ (E != 0) = false ∧ vacRes lsn l m = (((j : Nat) : Int), 0)) := by
                rw [HR.out]
                by_cases hb : 240 < (slSize l : Int) + ((m : Int) + if slVac l = l.length then 1 else 0)
                · rw [if_pos hb, if_pos (.inr hb)]
                  exact ⟨22, rfl, .inl ⟨rfl, rfl⟩⟩
                · rw [if_neg hb, if_neg (by rintro (h | h); · have := Hv.out; omega
                                            · exact hb h), Hv.out]
                  exact ⟨0, rfl, .inr ⟨rfl, rfl⟩⟩
              obtain ⟨E, hE1, hE2⟩ := hE
              obtain ⟨RR, hRR⟩ : ∃ RR, (if 240 < (slSize l : Int) + ((m : Int) + if slVac l = l.length then 1 else 0) then ((0 : Int), ([] : List Sl), (22 : Int)) else (lsn, putL l j ⟨true, bs (zeros m)⟩, 0)) = RR := ⟨_, rfl⟩
              rw [hRR] at CP hE1
              obtain ⟨r1, r2, r3⟩ := RR
              simp only at hE1
              subst hE1
              have hmk := fun w => makeBytes m (by omega) m (Nat.le_refl _) (by omega) w
              obtain ⟨F0, hF0⟩ : ∃ F, (List.replicate m (Value.int .u8 0)).toArray = F := ⟨_, rfl⟩
              rw [hF0] at hmk
              have hct := fun w g (h : Has w g (.cells F0 5)) => zeros_text (m := m) (by rw [hF0]; exact h)
              obtain ⟨S, hS⟩ : ∃ S, bs (zeros m) = S := ⟨_, rfl⟩
              rw [hS] at CP hct
              replace CP := Lib.hid CP
              replace hct := Lib.hid hct
              have Hmk := Lib.hid hmk
              clear hvp hRR hF0 hS hmk
              have HE2 := Lib.hid hE2
              clear hE2
              have hhw : w.heap.size < w1.heap.size := P.out.lt
              go_upto_region 10 with (fail)
              go_cut [7, 8] from 35 to 45 (fun v7 v8 wx => v8 = .int .i64 r3 ∧ Hid (Below w.heap.size w wx))
              case first =>
                have hmk := Hmk.out
                have k1 : ∀ w : World, (convert 36 9 (.slice (some ⟨w.heap.size, 0, none⟩) m m)).run Try.prog (w.alloc (.cells F0 5)).drew = .ok (.string S) (w.alloc (.cells F0 5)).drew := fun w => hct.out _ _ (Has.new w _).drew
                have k2 : ∀ (w : World) (o : Obj), (convert 36 9 (.slice (some ⟨w.heap.size, 0, none⟩) m m)).run Try.prog ((w.alloc (.cells F0 5)).alloc o).drew = .ok (.string S) ((w.alloc (.cells F0 5)).alloc o).drew := fun w o => hct.out _ _ ((Has.new w _).alloc o).drew
                have k3 : ∀ (w : World) (o : Obj), (convert 36 9 (.slice (some ⟨w.heap.size + 1, 0, none⟩) m m)).run Try.prog ((w.alloc o).alloc (.cells F0 5)).drew = .ok (.string S) ((w.alloc o).alloc (.cells F0 5)).drew := fun w o => hct.out _ _ (Has.new1 w o _).drew
                go_region_law ((go_simp; go_at_call 23; refine (CP.out _ (by repeat (first | exact H1.out | refine IsSlots.drew ?_ | refine IsSlots.alloc ?_ _))).mono ?_; rintro e w5 ⟨A5, n5, c5, rfl, I5, b5⟩; obtain ⟨hc5, hf5⟩ := bcell b5; have hz5 := b5.size))
                all_goals
                  clear hc5 hf5 hz5 hmk k1 k2 k3 p0 p1
                  go_wp2_with fail
                  go_meet
                  refine ⟨rfl, Lib.hid ?_⟩
                  first
                  | exact bup B.out (close_out (w2 := w1) (by repeat (first | exact Below.refl _ _ | refine Below.drew ?_ | refine bup ?_ (bnew _ _))) b5 I5).2.2.out
                  | exact bup B.out (close_in (w2 := w1) (by repeat (first | exact Below.refl _ _ | refine Below.drew ?_ | refine bup ?_ (bnew _ _))) (by simp) (by repeat (first | exact Has.new _ _ | exact Has.new1 _ _ _ | refine Has.drew ?_ | refine Has.alloc ?_ _)) b5 I5).2.2.out
              case rest =>
              obtain ⟨rfl, Bx⟩ := hcut
              rcases HE2.out with ⟨he1, he2⟩ | ⟨he1, he2⟩ <;>
              · have HR2 := Lib.hid he2
                clear he2 HE2
                go_wp2_with fail
                go_ret2
                exact ⟨by rw [HR2.out]; rfl, Bx.out⟩
          · have h31 : ¬ 31 < j := by omega
            have hvp := vac_put Hg.out Hv.out.symm (by omega) hm (d := bs (zeros m)) (by rw [bs_size]; simp [zeros])
            have CP := fun w h => rput_any lsn (some ⟨b, off, none⟩) n c l (j : Nat) ⟨true, bs (zeros m)⟩ w h (by rw [bs_size]; simp [zeros]; omega)
            rw [hvp] at CP
            have hE : ∃ E : Int, (if 240 < (slSize l : Int) + ((m : Int) + if slVac l = l.length then 1 else 0) then ((0 : Int), ([] : List Sl), (22 : Int)) else (lsn, putL l j ⟨true, bs (zeros m)⟩, 0)).2.2 = E ∧ ((E != 0) = true ∧ vacRes lsn l m = (0, E) ∨ (E != 0) = false ∧ vacRes lsn l m = (((j : Nat) : Int), 0)) := by
              rw [HR.out]
              by_cases hb : 240 < (slSize l : Int) + ((m : Int) + if slVac l = l.length then 1 else 0)
              · rw [if_pos hb, if_pos (.inr hb)]
                exact ⟨22, rfl, .inl ⟨rfl, rfl⟩⟩
              · rw [if_neg hb, if_neg (by rintro (h | h); · have := Hv.out; omega
                                          · exact hb h), Hv.out]
                exact ⟨0, rfl, .inr ⟨rfl, rfl⟩⟩
            obtain ⟨E, hE1, hE2⟩ := hE
            obtain ⟨RR, hRR⟩ : ∃ RR, (if 240 < (slSize l : Int) + ((m : Int) + if slVac l = l.length then 1 else 0) then ((0 : Int), ([] : List Sl), (22 : Int)) else (lsn, putL l j ⟨true, bs (zeros m)⟩, 0)) = RR := ⟨_, rfl⟩
            rw [hRR] at CP hE1
            obtain ⟨r1, r2, r3⟩ := RR
            simp only at hE1
            subst hE1
            have hmk := fun w => makeBytes m (by omega) m (Nat.le_refl _) (by omega) w
            obtain ⟨F0, hF0⟩ : ∃ F, (List.replicate m (Value.int .u8 0)).toArray = F := ⟨_, rfl⟩
            rw [hF0] at hmk
            have hct := fun w g (h : Has w g (.cells F0 5)) => zeros_text (m := m) (by rw [hF0]; exact h)
            obtain ⟨S, hS⟩ : ∃ S, bs (zeros m) = S := ⟨_, rfl⟩
            rw [hS] at CP hct
            replace CP := Lib.hid CP
            replace hct := Lib.hid hct
            have Hmk := Lib.hid hmk
            clear hvp hRR hF0 hS hmk
            have HE2 := Lib.hid hE2
            clear hE2
            have hhw : w.heap.size < w1.heap.size := P.out.lt
            go_upto_region 10 with (fail)
            go_cut [7, 8] from 35 to 45 (fun v7 v8 wx => v8 = .int .i64 r3 ∧ Hid (Below w.heap.size w wx))
            case first =>
              have hmk := Hmk.out
              have k1 : ∀ w : World, (convert 36 9 (.slice (some ⟨w.heap.size, 0, none⟩) m m)).run Try.prog (w.alloc (.cells F0 5)).drew = .ok (.string S) (w.alloc (.cells F0 5)).drew := fun w => hct.out _ _ (Has.new w _).drew
              have k2 : ∀ (w : World) (o : Obj), (convert 36 9 (.slice (some ⟨w.heap.size, 0, none⟩) m m)).run Try.prog ((w.alloc (.cells F0 5)).alloc o).drew = .ok (.string S) ((w.alloc (.cells F0 5)).alloc o).drew := fun w o => hct.out _ _ ((Has.new w _).alloc o).drew
              have k3 : ∀ (w : World) (o : Obj), (convert 36 9 (.slice (some ⟨w.heap.size + 1, 0, none⟩) m m)).run Try.prog ((w.alloc o).alloc (.cells F0 5)).drew = .ok (.string S) ((w.alloc o).alloc (.cells F0 5)).drew := fun w o => hct.out _ _ (Has.new1 w o _).drew
              go_region_law ((go_simp; go_at_call 23; refine (CP.out _ (by repeat (first | exact H1.out | refine IsSlots.drew ?_ | refine IsSlots.alloc ?_ _))).mono ?_; rintro e w5 ⟨A5, n5, c5, rfl, I5, b5⟩; obtain ⟨hc5, hf5⟩ := bcell b5; have hz5 := b5.size))
              all_goals
                clear hc5 hf5 hz5 hmk k1 k2 k3 p0 p1
                go_wp2_with fail
                go_meet
                refine ⟨rfl, Lib.hid ?_⟩
                first
                | exact bup B.out (close_out (w2 := w1) (by repeat (first | exact Below.refl _ _ | refine Below.drew ?_ | refine bup ?_ (bnew _ _))) b5 I5).2.2.out
                | exact bup B.out (close_in (w2 := w1) (by repeat (first | exact Below.refl _ _ | refine Below.drew ?_ | refine bup ?_ (bnew _ _))) (by simp) (by repeat (first | exact Has.new _ _ | exact Has.new1 _ _ _ | refine Has.drew ?_ | refine Has.alloc ?_ _)) b5 I5).2.2.out
            case rest =>
            obtain ⟨rfl, Bx⟩ := hcut
            rcases HE2.out with ⟨he1, he2⟩ | ⟨he1, he2⟩ <;>
            · have HR2 := Lib.hid he2
              clear he2 HE2
              go_wp2_with fail
              go_ret2
              exact ⟨by rw [HR2.out]; rfl, Bx.out⟩
end Go.Proofs.Ytklmoigpalhlmaa
