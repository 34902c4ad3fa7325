/-
  The walk of a statement of layer 3: a row of puts is a plain list.
-/
import Derived.Test.YtklmoigpalhlmaaSlLaw2
import Derived.Test.YtklmoigpalhlmaaSlLaw8F
import Derived.Deep.DeepCutAuto
namespace Go.Proofs.Ytklmoigpalhlmaa
open Go.RowKit Go.Sort
set_option linter.unusedVariables false
set_option linter.unusedSimpArgs false
attribute [local go_sem ↓] Go.wp_at_zero Go.wp_at_succ

theorem mod32_of (x : Int) : ∃ a : Nat, a < 32 ∧ wrap64 ((IntKind.u64.wrap x).tmod 32) = a := by
  have h0 : 0 ≤ IntKind.u64.wrap x := by rw [IntKind.wrap_u64]; omega
  rw [Int.tmod_eq_emod_of_nonneg h0]
  refine ⟨((IntKind.u64.wrap x) % 32).toNat, by omega, ?_⟩
  rw [IntWalk.wrap64_in _ ⟨by omega, by omega⟩]
  omega
/-- Whether what stands at a place is used. -/
def slTop (T : List Sl) (i : Nat) : Bool := (T.getD i Sl.none).u
theorem map_start : ∀ j, j < 32 → (List.replicate 32 Sl.none).getD j Sl.none = ([] : List Sl).getD j Sl.none := fun j hj => by
  rw [List.getD_eq_getElem?_getD, List.getElem?_replicate, if_pos hj]
  rfl
/-- What ends an image is its last used slot. -/
theorem map_last {T : List Sl} {m : Nat} (hg : slGood 3 T = true) (h1 : ∀ i, m ≤ i → i < 32 → slTop T i = false) (h2 : m = 0 ∨ slTop T (m - 1) = true) : T.length = m := by
  unfold slTop at h1 h2
  obtain ⟨_, hl, _, hla, _⟩ := (slGood_iff 3 T).1 hg
  rcases Nat.eq_zero_or_pos T.length with h0 | h0
  · rcases h2 with h2 | h2
    · omega
    · rw [List.getD_eq_getElem?_getD, List.getElem?_eq_none (by omega)] at h2
      cases h2
  · have hx : T[T.length - 1]? = some (T[T.length - 1]'(by omega)) := List.getElem?_eq_getElem _
    have hu := last_here (n := T.length - 1) (by omega) hx
    rw [hla] at hu
    have hlt : T.length - 1 < m := by
      rcases Nat.lt_or_ge (T.length - 1) m with h | h
      · exact h
      · have := h1 _ h (by omega)
        rw [List.getD_eq_getElem?_getD, hx] at this
        simp only [Option.getD_some] at this
        rw [← hu] at this; cases this
    rcases h2 with h2 | h2
    · omega
    · rcases Nat.lt_or_ge (m - 1) T.length with h | h
      · omega
      · rw [List.getD_eq_getElem?_getD, List.getElem?_eq_none h] at h2
        cases h2
set_option maxRecDepth 100000 in
set_option maxHeartbeats 4000000 in
theorem SlabMap_walk (A : Option Addr) (n c : Nat) (l : List Plc) (w : World) (I : IsRow 3 Plc.row Plc.ok w A n c l) :
    Calls Try.prog 8 #[.slice A n c] w fun e w' => e = .returned (.bool true) ∧ Below w.heap.size w w' := by
  have CA := Lib.hid (fun w => slabAwake_any w)
  have H := Lib.hid I
  have hcap := I.cap
  have hmost := I.most
  clear I
  go_enter Try.func8, Try.ntmps8
  go_wp2_with fail
  refine (CA.out _).mono ?_
  rintro e w0 ⟨rfl, b0⟩
  have B0 := Lib.hid b0
  have H0 := Lib.hid (H.out.below b0)
  clear b0 H CA
  have E0 : (flat (List.replicate 32 Sl.none)).toArray = #[.bool false, .string ⟨#[]⟩, .bool false, .string ⟨#[]⟩, .bool false, .string ⟨#[]⟩, .bool false, .string ⟨#[]⟩, .bool false, .string ⟨#[]⟩, .bool false, .string ⟨#[]⟩, .bool false, .string ⟨#[]⟩, .bool false, .string ⟨#[]⟩, .bool false, .string ⟨#[]⟩, .bool false, .string ⟨#[]⟩, .bool false, .string ⟨#[]⟩, .bool false, .string ⟨#[]⟩, .bool false, .string ⟨#[]⟩, .bool false, .string ⟨#[]⟩, .bool false, .string ⟨#[]⟩, .bool false, .string ⟨#[]⟩, .bool false, .string ⟨#[]⟩, .bool false, .string ⟨#[]⟩, .bool false, .string ⟨#[]⟩, .bool false, .string ⟨#[]⟩, .bool false, .string ⟨#[]⟩, .bool false, .string ⟨#[]⟩, .bool false, .string ⟨#[]⟩, .bool false, .string ⟨#[]⟩, .bool false, .string ⟨#[]⟩, .bool false, .string ⟨#[]⟩, .bool false, .string ⟨#[]⟩, .bool false, .string ⟨#[]⟩, .bool false, .string ⟨#[]⟩, .bool false, .string ⟨#[]⟩, .bool false, .string ⟨#[]⟩, .bool false, .string ⟨#[]⟩] := by kernel_rfl
  have E0' := Lib.hid E0
  clear E0
  go_upto_region 4 with (fail)
  have PP := Lib.hid (Has.new w0 (.cells #[.int .i64 3, .slice none 0 0] 24))
  have BP := Lib.hid (bnew w0 (.cells #[.int .i64 3, .slice none 0 0] 24))
  have hsz : (w0.alloc (.cells #[.int .i64 3, .slice none 0 0] 24)).heap.size = w0.heap.size + 1 := by simp
  have Hsz := Lib.hid hsz
  clear hsz
  generalize hwp : World.alloc w0 _ = wp
  rw [hwp] at PP BP Hsz
  clear hwp
  go_upto_region 5 with ((with_reducible refine at_store rfl ?_); refine wpList_put_row rfl _ _ _ rfl rfl wp.heap.size _ rfl rfl _ _ (Has.new _ _) (by kernel_rfl) rfl (by kernel_rfl) ?_; intro w1 L0 BL0)
  have L1 : Hid (Has w1 (w0.heap.size + 1) (.cells (flat (List.replicate 32 Sl.none)).toArray 45)) := Lib.hid (by rw [E0'.out, ← Hsz.out]; exact L0)
  have P1 := Lib.hid ((PP.out.alloc (.cells #[.bool false, .string ⟨#[]⟩, .bool false, .string ⟨#[]⟩, .bool false, .string ⟨#[]⟩, .bool false, .string ⟨#[]⟩, .bool false, .string ⟨#[]⟩, .bool false, .string ⟨#[]⟩, .bool false, .string ⟨#[]⟩, .bool false, .string ⟨#[]⟩, .bool false, .string ⟨#[]⟩, .bool false, .string ⟨#[]⟩, .bool false, .string ⟨#[]⟩, .bool false, .string ⟨#[]⟩, .bool false, .string ⟨#[]⟩, .bool false, .string ⟨#[]⟩, .bool false, .string ⟨#[]⟩, .bool false, .string ⟨#[]⟩, .bool false, .string ⟨#[]⟩, .bool false, .string ⟨#[]⟩, .bool false, .string ⟨#[]⟩, .bool false, .string ⟨#[]⟩, .bool false, .string ⟨#[]⟩, .bool false, .string ⟨#[]⟩, .bool false, .string ⟨#[]⟩, .bool false, .string ⟨#[]⟩, .bool false, .string ⟨#[]⟩, .bool false, .string ⟨#[]⟩, .bool false, .string ⟨#[]⟩, .bool false, .string ⟨#[]⟩, .bool false, .string ⟨#[]⟩, .bool false, .string ⟨#[]⟩, .bool false, .string ⟨#[]⟩, .bool false, .string ⟨#[]⟩] 45)).but BL0 (by rw [Hsz.out]; omega))
  have B1 : Hid (Below w0.heap.size w0 w1) := Lib.hid ((bup BP.out (bnew wp _)).trans (BL0.below (by rw [Hsz.out]; omega) (bup BP.out (bnew wp _)).size))
  rw [Hsz.out]
  clear L0 BL0 E0' PP BP
  have GG : Hid (slGood 3 [] = true) := Lib.hid (by decide +kernel)
  go_wp2_with fail
  go_loopw [5] (fun i wr => ∃ (k : Nat) (T L : List Sl) (A1 : Option Addr) (n1 c1 : Nat), k ≤ n ∧ k ≤ 60 ∧ i = .int .i64 k ∧ Hid (Has wr w0.heap.size (.cells #[.int .i64 3, .slice A1 n1 c1] 24)) ∧ Hid (Has wr (w0.heap.size + 1) (.cells (flat L).toArray 45)) ∧ Hid (IsSlots wr A1 n1 c1 T) ∧ Hid (∀ ad, A1 = some ad → w0.heap.size + 2 ≤ ad.block) ∧ Hid (slGood 3 T = true) ∧ Hid (L.length = 32) ∧ Hid (∀ j, j < 32 → L.getD j Sl.none = T.getD j Sl.none) ∧ Hid (Below w0.heap.size w0 wr)) (fun i _ => n - (intOf i).toNat)
  case atStart => exact ⟨0, [], List.replicate 32 Sl.none, none, 0, 0, by omega, by omega, rfl, P1, L1, Lib.hid (IsSlots.nil _), Lib.hid (fun ad e => by cases e), GG, Lib.hid List.length_replicate, Lib.hid map_start, B1⟩
  case round =>
    obtain ⟨k, T, L, A1, n1, c1, hk, hk2, rfl, HP, HL, HI, HF, HG, HLn, HJ, HB⟩ := hrel
    clear P1 L1 B1 GG
    have hc1 := HI.out.cap
    have hm1 := HI.out.most
    by_cases hlt : k < n ∧ k < 60
    · obtain ⟨hlt, hlt2⟩ := hlt
      obtain ⟨b, off, x, rfl, hx, hok, hX⟩ := places_at H0.out hlt
      have hX0 := hX.below HB.out
      have hbl : b < w0.heap.size := block_lt_of_cell hX.k
      have HX := Lib.hid (fun (w' : World) (b : Below w0.heap.size w0 w') => hX.below b)
      obtain ⟨s, u, d⟩ := x
      have hd : d.size ≤ 140737488351232 := hok.2
      have dk := hX0.k
      have du := hX0.u
      have dd := hX0.d
      simp only at dk du dd
      have hbr : b < wr.heap.size := block_lt_of_cell dk
      obtain ⟨a, ha, hae⟩ := mod32_of s
      clear hX hx hX0 hok
      by_cases hbig : 1024 < d.size
      · clear hae
        go_wp2_with fail
        go_ret
        exact ⟨rfl, B0.out.trans (HB.out.mono B0.out.size)⟩
      · have hbig' : d.size ≤ 1024 := by omega
        clear hbig
        have CP := fun w h => pput_anyF 3 A1 n1 c1 T (a : Int) ⟨u, d⟩ w h hd
        have hok : (putRes 3 T a ⟨u, d⟩).2.2 = 0 → _ := putRes_ok (lsn := 3) (l := T) (k := a) (x := ⟨u, d⟩)
        obtain ⟨R, hR⟩ : ∃ R, putRes 3 T a ⟨u, d⟩ = R := ⟨_, rfl⟩
        rw [hR] at CP hok
        obtain ⟨r0, T', er⟩ := R
        simp only at hok CP
        have CPH := Lib.hid CP
        have Hok := Lib.hid hok
        clear CP hok hR
        have p0 := HP.out.cell 0 _ rfl
        have p1 := HP.out.cell 1 _ rfl
        have hpl := HP.out.lt
        go_upto_region 11 with (fail)
        rw [hae]
        clear dk hae
        have HK : Hid (∀ w', Below wr.heap.size wr w' → (Below wr.heap.size wr w' ∧ w'.cell? ⟨w0.heap.size, 0, none⟩ = some (.int .i64 3) ∧ w'.cell? ⟨w0.heap.size, 1, none⟩ = some (.slice A1 n1 c1) ∧ w'.cell? ⟨b, off + k * 3 + 1, none⟩ = some (.bool u) ∧ w'.cell? ⟨b, off + k * 3 + 2, none⟩ = some (.string d))) := Lib.hid (fun w' h =>
          ⟨h, (h.cell (p := ⟨w0.heap.size, 0, none⟩) hpl).trans p0, (h.cell (p := ⟨w0.heap.size, 1, none⟩) hpl).trans p1, (h.cell (p := ⟨b, off + k * 3 + 1, none⟩) hbr).trans du, (h.cell (p := ⟨b, off + k * 3 + 2, none⟩) hbr).trans dd⟩)
        have DBa : Hid (Below wr.heap.size wr wr.drew) := Lib.hid ((Below.refl _ _).drew)
        have DBb : Hid (Below wr.heap.size wr (wr.alloc (.cells #[.int .i64 0, .slice none 0 0] 24)).drew) := Lib.hid ((bnew wr _).drew)
        have KB : Hid (Has (wr.alloc (.cells #[.int .i64 0, .slice none 0 0] 24)).drew wr.heap.size (.cells #[.int .i64 0, .slice none 0 0] 24)) := Lib.hid ((Has.new wr _).drew)
        go_cut [7, 8] (fun v7 v8 wx => ∃ gq A' n' c', v7 = .pointer (some ⟨gq, 0, none⟩) ∧ v8 = .int .i64 er ∧ Hid (Has wx gq (.cells #[.int .i64 r0, .slice A' n' c'] 24)) ∧ Hid (IsSlots wx A' n' c' T') ∧ Hid (er = 0 → ∀ ad, A' = some ad → wr.heap.size ≤ ad.block) ∧ Hid (wr.heap.size ≤ gq) ∧ Hid (Below wr.heap.size wr wx))
        case first =>
          as_aux_lemma =>
            clear p0 p1 du dd
            go_region_held3 (fun w' => Below wr.heap.size wr w' ∧ w'.cell? ⟨w0.heap.size, 0, none⟩ = some (.int .i64 3) ∧ w'.cell? ⟨w0.heap.size, 1, none⟩ = some (.slice A1 n1 c1) ∧ w'.cell? ⟨b, off + k * 3 + 1, none⟩ = some (.bool u) ∧ w'.cell? ⟨b, off + k * 3 + 2, none⟩ = some (.string d)) ((refine HK.out _ ?_; first | with_reducible exact DBa.out | with_reducible exact DBb.out | with_reducible exact s6 | with_reducible exact bup s6 (bnew _ _) | exact Below.setCell (Below.setCell s6 (Nat.le_refl _) _) (Nat.le_refl _) _))
              (first
              | (go_at_call 20; ((with_reducible refine (CPH.out _ (HI.out.below DBa.out)).mono ?_)); rintro e w6 ⟨A6, n6, c6, rfl, I6, b6, f6⟩; have s6 : Below wr.heap.size wr w6 := bup DBa.out b6; have z6 := b6.size; have F6 : er = 0 → ∀ ad, A6 = some ad → wr.heap.size ≤ ad.block := f6; clear f6)
              | (go_at_call 20; ((with_reducible refine (CPH.out _ (HI.out.below DBb.out)).mono ?_)); rintro e w6 ⟨A6, n6, c6, rfl, I6, b6, f6⟩; have s6 : Below wr.heap.size wr w6 := bup DBb.out b6; have k6 := KB.out.below b6; have F6 : er = 0 → ∀ ad, A6 = some ad → wr.heap.size ≤ ad.block := fun h ad e => Nat.le_trans DBb.out.size (f6 h ad e); clear f6; have ka := k6.cell 0 _ rfl; have kb := k6.cell 1 _ rfl; have kf := k6.free 0; have kg := k6.free 1))
            all_goals
              go_wp2_with fail
              go_meet
              first
              | (have _z := k6; clear _z; have q := close_set (r := r0) s6 (Nat.le_refl _) k6 I6; exact ⟨_, _, _, _, rfl, rfl, q.1, q.2.1, Lib.hid F6, Lib.hid (Nat.le_refl _), q.2.2⟩)
              | (have q := close_new (r := r0) s6 I6; exact ⟨_, _, _, _, rfl, rfl, q.1, q.2.1, Lib.hid F6, Lib.hid (by have := s6.size; omega), q.2.2⟩)
        case rest =>
        obtain ⟨gq, A7, n7, c7, rfl, rfl, HQ, I7, F7, G7, B7⟩ := hcut
        clear p0 p1 du dd DBa DBb KB HK
        have hgq := G7.out
        have P7 := Lib.hid (HP.out.below B7.out)
        have L7 := Lib.hid (HL.out.below B7.out)
        have BB := Lib.hid (HB.out.trans (B7.out.mono HB.out.size))
        by_cases he : er = 0
        · as_aux_lemma =>
            obtain ⟨hg1, _, _, hodd, hsz, heq⟩ := Hok.out he
            simp only [Prod.mk.injEq] at heq
            obtain ⟨hr, hT, _⟩ := heq
            rw [Int.toNat_natCast] at hT hsz
            subst hr he
            have HT' : Hid (T' = putL T a ⟨u, d⟩) := Lib.hid hT
            have HG' : Hid (slGood 3 T' = true) := Lib.hid (by rw [hT]; exact putL_good hg1 ha hodd hsz)
            have HJ' : Hid (∀ j, j < 32 → (L.set a ⟨u, d⟩).getD j Sl.none = T'.getD j Sl.none) := Lib.hid (fun j hj => by
              obtain ⟨_, _, ho3, _, _⟩ := (slGood_iff 3 T).1 hg1
              rw [hT, putL_getD ho3 a j hodd, List.getD_eq_getElem?_getD, List.getElem?_set]
              by_cases e : j = a
              · subst e
                rw [if_pos rfl, if_pos (by rw [HLn.out]; omega), if_pos rfl]; rfl
              · rw [if_neg (fun h => e h.symm), if_neg e, ← List.getD_eq_getElem?_getD]
                exact HJ.out j hj)
            have hx7 := HX.out _ BB.out
            clear hg1 hodd hsz hT Hok
            have q0 := HQ.out.cell 0 _ rfl
            have q1 := HQ.out.cell 1 _ rfl
            have p0 := P7.out.cell 0 _ rfl
            have p1 := P7.out.cell 1 _ rfl
            have pf0 := P7.out.free 0
            have pf1 := P7.out.free 1
            have hpq : gq ≠ w0.heap.size := by omega
            go_upto_region 14 with (fail)
            have bb8 := (But.set w0.heap.size 0 wc (.int .i64 3)).trans (But.set w0.heap.size 1 (wc.setCell ⟨w0.heap.size, 0, none⟩ (.int .i64 3)) (.slice A7 n7 c7))
            have P8 := Lib.hid ((P7.out.set 0 (.int .i64 3)).set 1 (.slice A7 n7 c7))
            have L8 := Lib.hid (L7.out.but bb8 (by omega))
            have I8 := Lib.hid (I7.out.apart P7.out bb8)
            have B8 := Lib.hid (BB.out.trans (bb8.below (Nat.le_refl _) BB.out.size))
            have hx8 := HX.out _ B8.out
            generalize hw8 : World.setCell _ _ _ = w8
            rw [hw8] at P8 L8 I8 B8 hx8
            clear hw8 q0 q1 p0 p1 pf0 pf1 bb8 P7 L7 I7 hx7
            have du := hx8.u
            have dd := hx8.d
            simp only at du dd
            obtain ⟨y, hy⟩ : ∃ y, L[a]? = some y := ⟨_, List.getElem?_eq_getElem (by rw [HLn.out]; exact ha)⟩
            have hfl := flat_get L a y hy
            have l0 := L8.out.cell (a * 2) _ (by simpa using hfl.1)
            have l1 := L8.out.cell (a * 2 + 1) _ (by simpa using hfl.2)
            have lf0 := L8.out.free (a * 2)
            have lf1 := L8.out.free (a * 2 + 1)
            clear hy hfl hx8
            have hai : (a : Int) < 32 := by omega
            go_wp2_with fail
            have bb9 := (But.set (w0.heap.size + 1) (a * 2) w8 (.bool u)).trans (But.set (w0.heap.size + 1) (a * 2 + 1) (w8.setCell ⟨w0.heap.size + 1, a * 2, none⟩ (.bool u)) (.string d))
            have L9 := Lib.hid (Has.set2 L8.out (flat_set L a ⟨u, d⟩))
            have P9 := Lib.hid (P8.out.but bb9 (by omega))
            have I9 := Lib.hid (I8.out.but bb9 (fun g o e => by have := F7.out rfl _ e; have h2 : wr.heap.size ≤ g := this; have := HL.out.lt; omega))
            have B9 := Lib.hid (B8.out.trans (bb9.below (by omega) B8.out.size))
            have F9 : Hid (∀ ad, A7 = some ad → w0.heap.size + 2 ≤ ad.block) := Lib.hid (fun ad e => by have := F7.out rfl _ e; have := HL.out.lt; omega)
            go_roundw
            case rel => exact ⟨k + 1, T', L.set a ⟨u, d⟩, A7, n7, c7, by omega, by omega, by go_num, P9, L9, I9, F9, HG', Lib.hid (by rw [List.length_set]; exact HLn.out), HJ', B9⟩
            case measure => simp [intOf]; omega
        · as_aux_lemma =>
            have he' : (er != 0) = true := by simpa using he
            have I7' := Lib.hid (HI.out.below B7.out)
            clear he
            go_wp2_with fail
            go_roundw
            case rel => exact ⟨k + 1, T, L, A1, n1, c1, by omega, by omega, by go_num, P7, L7, I7', HF, HG, HLn, HJ, BB⟩
            case measure => simp [intOf]; omega
    · as_aux_lemma =>
        clear HF
        have CT := Lib.hid (fun k w h => pat_any 3 A1 n1 c1 T k w h)
        have hn1 : n1 ≤ 32 := by have := ((slGood_iff 3 T).1 HG.out).2.1; have := HI.out.len; omega
        obtain ⟨wo, hwo⟩ : ∃ wo : World, wo = wr := ⟨_, rfl⟩
        rw [← hwo] at HP HL HI HB ⊢
        clear hwo
        rcases (show n ≤ k ∨ (k < n ∧ 60 ≤ k) by omega) with hx | ⟨hx, hx2⟩
        all_goals
          go_wp2_with fail
          go_loopw [9, 10] (fun mv iv wr => ∃ j m : Nat, j ≤ 32 ∧ m ≤ j ∧ iv = .int .i64 j ∧ mv = .int .i64 m ∧ Hid (∀ i, m ≤ i → i < j → slTop T i = false) ∧ Hid (m = 0 ∨ slTop T (m - 1) = true) ∧ Hid (Below wo.heap.size wo wr)) (fun _ iv _ => 32 - (intOf iv).toNat)
          case atStart => exact ⟨0, 0, by omega, by omega, rfl, rfl, Lib.hid (fun i h1 h2 => by omega), Lib.hid (.inl rfl), Lib.hid (Below.refl _ _)⟩
          case round =>
            obtain ⟨j, m, hj, hm, rfl, rfl, HM1, HM2, Hb⟩ := hrel
            have P5 := Lib.hid (HP.out.below Hb.out)
            have L5 := Lib.hid (HL.out.below Hb.out)
            have I5 := Lib.hid (HI.out.below Hb.out)
            have p0 := P5.out.cell 0 _ rfl
            have p1 := P5.out.cell 1 _ rfl
            by_cases hlt2 : j < 32
            · obtain ⟨y, hy⟩ : ∃ y, L[j]? = some y := ⟨_, List.getElem?_eq_getElem (by rw [HLn.out]; exact hlt2)⟩
              have hyT : T.getD j Sl.none = y := by rw [← HJ.out j hlt2, List.getD_eq_getElem?_getD, hy]; rfl
              have hz : slAt 3 T (j : Int) = y := by rw [slAt_getD HG.out]; exact hyT
              have hfl := flat_get L j y hy
              have C1 := fun w h => CT.out (j : Int) w h
              rw [hz] at C1
              have l0 := L5.out.cell (j * 2) _ (by simpa using hfl.1)
              have l1 := L5.out.cell (j * 2 + 1) _ (by simpa using hfl.2)
              have HyT := Lib.hid hyT
              have hji : (j : Int) < 32 := by omega
              clear hz hyT hfl hy
              go_upto_region 19 with (fail)
              have p0 := cell_regrown p0
              have p1 := cell_regrown p1
              have l0 := cell_regrown l0
              have l1 := cell_regrown l1
              have c1 := fun d os => Calls.regrown_of (C1 (grow (redrawn wr d) os) (I5.out.below (below_regrown _ _ _)))
              have CE := fun w => slNeqBin y y w
              rw [(slEq_iff y y).2 rfl] at CE
              refine wp_region_quiet_below (by kernel_rfl) (by kernel_rfl) ?_
              repeat (quiet_step (with_reducible exact c1 _ _))
              refine wpQuiet_nil ?_
              intro _ hw7
              obtain ⟨⟨dq, osq⟩, hw8⟩ := hw7
              subst hw8
              obtain ⟨yu, yd⟩ := y
              have l0 := l0 dq osq
              simp only at l0
              have Bq := Lib.hid (bup Hb.out (below_regrown wr dq osq))
              cases yu with
              | true =>
                go_wp2_with fail
                go_roundw
                case rel => exact ⟨j + 1, j + 1, by omega, by omega, by go_num, by go_num, Lib.hid (fun i h1 h2 => by omega), Lib.hid (.inr (by unfold slTop; rw [show j + 1 - 1 = j by omega, HyT.out])), Bq⟩
                case measure => simp [intOf]; omega
              | false =>
                go_wp2_with fail
                go_roundw
                case rel => exact ⟨j + 1, m, by omega, by omega, by go_num, rfl, Lib.hid (fun i h1 h2 => by
                  rcases Nat.lt_or_ge i j with h | h
                  · exact HM1.out i h1 h
                  · obtain rfl : i = j := by omega
                    unfold slTop; rw [HyT.out]), HM2, Bq⟩
                case measure => simp [intOf]; omega
            · obtain rfl : j = 32 := by omega
              have hn1m : ((n1 : Int) == (m : Int)) = true := by
                have := map_last HG.out HM1.out HM2.out
                have := HI.out.len
                simp; omega
              go_wp2_with fail
              go_ret
              exact ⟨rfl, B0.out.trans ((HB.out.trans (Hb.out.mono HB.out.size)).mono B0.out.size)⟩
end Go.Proofs.Ytklmoigpalhlmaa
