/-
  The walk of a statement of layer 12: how many texts an end takes.
-/
import Derived.Test.YtgabonacpoimfaaCoAwake
import Derived.Test.YtgabonacpoimfaaInts
import Derived.OpenShut
namespace Go.Proofs.Ytgabonacpoimfaa
open Go.RowKit Go.Sort
set_option linter.unusedVariables false
set_option linter.unusedSimpArgs false

theorem mod33_of (x : Int) : ∃ a : Nat, a < 33 ∧ wrap64 ((IntKind.u64.wrap x).tmod 33) = a := by
  have h0 : 0 ≤ IntKind.u64.wrap x := by rw [IntKind.wrap_u64]; omega
  rw [Int.tmod_eq_emod_of_nonneg h0]
  refine ⟨((IntKind.u64.wrap x) % 33).toNat, by omega, ?_⟩
  rw [IntWalk.wrap64_in _ ⟨by omega, by omega⟩]
  omega
def tX : ByteArray := ⟨#[120]⟩
/-- An end that was given s texts, of which g are acknowledged. -/
def eS (s g : Nat) : En := ⟨1, List.replicate (s - g) tX, s, 0, [], false, 0⟩
theorem eS_new : En.new 1 = eS 0 0 := rfl
theorem eS_len (s g : Nat) : (eS s g).op.length = s - g := by simp [eS]
theorem eS_send {s g : Nat} (h : g ≤ s) (hd : s - g < 32) : sendE (eS s g) ⟨#[120]⟩ = (eS (s + 1) g, 0) := by
  unfold sendE
  rw [if_neg (by decide), if_neg (by rw [eS_len]; omega)]
  have : List.replicate (s - g) tX ++ [tX] = List.replicate (s + 1 - g) tX := by
    rw [show s + 1 - g = (s - g) + 1 by omega, List.replicate_succ']
  show ((⟨1, List.replicate (s - g) tX ++ [tX], s + 1, 0, [], false, 0⟩ : En), (0 : Int)) = _
  rw [this]; rfl
theorem eS_full {s g : Nat} (hd : 32 ≤ s - g) : sendE (eS s g) ⟨#[120]⟩ = (eS s g, 11) := by
  unfold sendE
  rw [if_neg (by decide), if_pos (by rw [eS_len]; omega)]
theorem eS_take {s g m : Nat} (hd : s - g = 32) (hm : m < 33) : takeE (eS s g) ⟨0, false, 1, 0, ((g + m : Nat) : Int), ⟨#[]⟩⟩ = (eS s (g + m), [], 0) := by
  have hr : rightE (eS s g) ⟨0, false, 1, 0, ((g + m : Nat) : Int), ⟨#[]⟩⟩ = 0 := by
    unfold rightE
    rw [if_neg (by simp [eS]), if_neg ?_, if_neg (by simp [ByteArray.size])]
    simp only [eS]
    rintro ((h | h | h | h) | h)
    · omega
    · omega
    · omega
    · simp at h
    · have := h.2; simp [ByteArray.size] at this
  unfold takeE
  rw [if_neg (by rw [hr]; simp), if_pos rfl]
  have : ackE (eS s g) ⟨0, false, 1, 0, ((g + m : Nat) : Int), ⟨#[]⟩⟩ = List.replicate (s - (g + m)) tX := by
    unfold ackE
    rw [eS_len]
    simp only [eS, Int.toNat_natCast]
    rw [List.drop_replicate]
    congr 1
    omega
  rw [this]; rfl
theorem eS_out (s g : Nat) : outE (eS s g) = eS s g ∧ (outG (eS s g)).length = s - g := by
  refine ⟨rfl, ?_⟩
  unfold outG
  split
  · rw [gramsF_len, eS_len]
  · rename_i h
    rw [eS_len] at h
    simp [eS]; omega
theorem eS_ok {s g : Nat} (h : s - g ≤ 32) : (eS s g).ok := ⟨by rw [eS_len]; show s - g ≤ s; omega, by rw [eS_len]; exact h, (fun x hx => by cases hx), Nat.le_refl _⟩
set_option maxRecDepth 100000 in
set_option maxHeartbeats 4000000 in
theorem CordFull_core (a : Option Addr) (len cap : Nat) (zs : List Int) (w : World) (hin : IsInts w a len cap zs) (hlen : len ≤ 9223372036854775807) :
    Calls Try.prog 7 #[.slice a len cap] w fun e w' => e = .returned (.bool true) ∧ Below w.heap.size w w' := by
  have HI := Lib.hid (fun h => hin.cells h)
  have CA := Lib.hid (fun w => cordAwake_any w)
  clear hin
  go_enter Try.func7, Try.ntmps7
  go_wp2_with fail
  refine (CA.out _).mono ?_
  rintro e w0 ⟨rfl, b0⟩
  have B0 := Lib.hid b0
  clear b0
  go_wp2_with fail
  (with_reducible refine (cnew_any 1 _ (by decide) (by decide)).mono ?_)
  rintro e w1 ⟨rfl, hw1⟩
  obtain ⟨p, hp⟩ : ∃ p, w0.heap.size + 1 = p := ⟨_, rfl⟩
  obtain ⟨F, hF⟩ : ∃ F : Nat → Prop, F = fun k => k < w0.heap.size := ⟨_, rfl⟩
  rw [hp]
  have H1 : Hid (Held F (Star (EndR p (eS 0 0)) Emp) w1) := Lib.hid (by rw [← hp, ← hw1, ← eS_new]; exact (Held.emp (F := F) (fun k hk => by rw [hF] at hk; exact hk)).newEnd Emp.good 1)
  have B1 : Hid (Below w0.heap.size w0 w1) := Lib.hid (by rw [← hw1]; exact cordWorld_below w0 1)
  have HFB : Hid (∀ k, k < w0.heap.size → F k) := Lib.hid (fun k hk => by rw [hF]; exact hk)
  clear hw1 hp hF CA
  go_wp2_with fail
  go_loopw [4, 5, 6] (fun s g i wr => ∃ sn gn k : Nat, k ≤ len ∧ k ≤ 20 ∧ s = .int .i64 sn ∧ g = .int .i64 gn ∧ i = .int .i64 k ∧ gn ≤ sn ∧ sn ≤ gn + 32 ∧ sn ≤ 40 * k ∧ Hid (Held F (Star (EndR p (eS sn gn)) Emp) wr) ∧ Hid (Below w0.heap.size w0 wr)) (fun _ _ i _ => len - (intOf i).toNat)
  case atStart => exact ⟨0, 0, 0, by omega, by omega, rfl, rfl, rfl, by omega, by omega, by omega, H1, B1⟩
  case round =>
    obtain ⟨sn, gn, k, hk, hk2, rfl, rfl, rfl, hgs, hsg, hs40, HS, HB⟩ := hrel
    clear H1 B1
    by_cases hlt : k < len ∧ k < 20
    · obtain ⟨hlt, hlt2⟩ := hlt
      obtain ⟨b, off, rfl, hbl, hlz, hcell, hwf⟩ := HI.out (by omega)
      have HC : Hid (∀ w', Below w0.heap.size w0 w' → w'.cell? ⟨b, off + k, none⟩ = some (.int .i64 (zs.getD k 0))) := Lib.hid (fun w' bb => ((B0.out.trans (bb.mono B0.out.size)).cell (p := ⟨b, off + k, none⟩) hbl).trans (hcell k hlt))
      obtain ⟨z, hze⟩ : ∃ z, z = zs.getD k 0 := ⟨_, rfl⟩
      rw [← hze] at HC
      clear hcell hwf hbl hlz hze
      have hk20 : (k : Int) < 20 := by omega
      have hkl : (k : Int) < (len : Int) := by omega
      go_wp2_with fail
      clear HI
      have hkb : k < 20 := hlt2
      go_loopw [4, 7] (fun s j wq => ∃ tn jn : Nat, jn ≤ 40 ∧ s = .int .i64 tn ∧ j = .int .i64 jn ∧ gn ≤ tn ∧ tn ≤ gn + 32 ∧ tn ≤ sn + jn ∧ (jn ≤ tn - gn ∨ tn - gn = 32) ∧ Hid (Held F (Star (EndR p (eS tn gn)) Emp) wq) ∧ Hid (Below w0.heap.size w0 wq)) (fun _ j _ => 40 - (intOf j).toNat)
      case atStart => exact ⟨sn, 0, by omega, rfl, rfl, by omega, by omega, by omega, by omega, HS, HB⟩
      case round =>
        obtain ⟨tn, jn, hj, rfl, rfl, hgt, htg, hts, hjt, HT, HU⟩ := hrel
        clear HS HB
        by_cases hj40 : jn < 40
        · by_cases hd : tn - gn < 32
          · have CP := sendH (F := F) Emp.good p (eS tn gn) ⟨#[120]⟩
            rw [eS_send hgt hd] at CP
            have CS := Lib.hid (fun w h => CP w (show tn ≤ 1000000 by omega) (by rw [eS_len]; omega) h)
            clear CP
            have hdi : (tn : Int) - (gn : Int) < 32 := by omega
            have HT' := Lib.hid HT.out
            go_wp2_with fail
            refine (CS.out _ HT'.out).mono ?_
            rintro e wx ⟨rfl, hH, kk⟩
            have HX := Lib.hid hH
            have BX := Lib.hid (HU.out.trans (kk.belowB HFB.out HU.out.size))
            clear hH kk CS HT' HT HU
            go_wp2_with fail
            go_roundw
            case rel =>
              exact ⟨tn + 1, jn + 1, by omega, by go_num, by go_num, by omega, by omega, by omega, by omega, HX, BX⟩
            case measure => simp [intOf]; omega
          · have hd' : 32 ≤ tn - gn := by omega
            have CP := sendH (F := F) Emp.good p (eS tn gn) ⟨#[120]⟩
            rw [eS_full hd'] at CP
            have CS := Lib.hid (fun w h => CP w (show tn ≤ 1000000 by omega) (by rw [eS_len]; omega) h)
            clear CP
            have hdi : ¬ (tn : Int) - (gn : Int) < 32 := by omega
            have HT' := Lib.hid HT.out
            go_wp2_with fail
            refine (CS.out _ HT'.out).mono ?_
            rintro e wx ⟨rfl, hH, kk⟩
            have HX := Lib.hid hH
            have BX := Lib.hid (HU.out.trans (kk.belowB HFB.out HU.out.size))
            clear hH kk CS HT' HT HU
            go_wp2_with fail
            go_roundw
            case rel =>
              exact ⟨tn, jn + 1, by omega, rfl, by go_num, by omega, by omega, by omega, by omega, HX, BX⟩
            case measure => simp [intOf]; omega
        · have hj2 : jn = 40 := by omega
          subst hj2
          have hd : tn - gn = 32 := by omega
          obtain ⟨m, hm, hme⟩ := mod33_of z
          have hc := HC.out _ HU.out
          clear hj40 hj hjt HC
          go_wp2_with fail
          have CP := takeH Emp.good p (eS tn gn) ⟨0, false, 1, 0, ((gn + m : Nat) : Int), ⟨#[]⟩⟩ wr (eS_ok (by omega)) (show tn ≤ 1000000 by omega) (show (0 : Nat) ≤ 1000000 by omega) HT.out
          rw [eS_take hd hm] at CP
          simp only [Gr.val, Int.natCast_add] at CP
          refine CP.mono ?_
          clear CP
          rintro e wx ⟨Ax, cx, rfl, _, _, hH, kk⟩
          have HX := Lib.hid (hH.less (G := F) (fun j h => .inl h))
          have BX := Lib.hid (HU.out.trans (kk.belowB HFB.out HU.out.size))
          clear hH kk HT HU hc
          obtain ⟨q, hq⟩ : ∃ q, tn - (gn + m) = q := ⟨_, rfl⟩
          have hqi : (tn : Int) - ((gn : Int) + (m : Int)) = (q : Int) := by omega
          go_wp2_with fail
          have CP := openH p (eS tn (gn + m)) wx HX.out
          rw [eS_len, hq] at CP
          refine CP.mono ?_
          clear CP
          rintro e wy ⟨rfl, rfl⟩
          go_wp2_with fail
          have CP := outH Emp.good p (eS tn (gn + m)) wx (by rw [eS_len]; show tn - (gn + m) ≤ tn; omega) (show tn ≤ 1000000 by omega) HX.out
          rw [(eS_out tn (gn + m)).1, (eS_out tn (gn + m)).2, hq] at CP
          refine CP.mono ?_
          clear CP
          rintro e wy ⟨Ay, cy, rfl, _, _, hH, kk⟩
          have HY := Lib.hid (hH.less (G := F) (fun j h => .inl h))
          have BY := Lib.hid (BX.out.trans (kk.belowB HFB.out BX.out.size))
          clear hH kk HX BX
          go_wp2_with fail
          go_roundw
          case rel =>
            exact ⟨tn, gn + m, k + 1, by omega, by omega, rfl, by go_num, by go_num, by omega, by omega, by omega, HY, BY⟩
          case measure => simp [intOf]; omega
    · clear HI
      by_cases h1 : k < len
      · have h2 : k = 20 := by omega
        subst h2
        clear hlt
        go_wp2_with fail
        go_ret
        exact ⟨rfl, B0.out.trans (HB.out.mono B0.out.size)⟩
      · have h2 : k = len := by omega
        subst h2
        clear hlt h1
        go_wp2_with fail
        go_ret
        exact ⟨rfl, B0.out.trans (HB.out.mono B0.out.size)⟩
theorem CordFull_walk (a : Option Addr) (len cap : Nat) (zs : List Int) {W : World} (hin : IsInts W a len cap zs) (w : World) (hw : W = w := by rfl) :
    Calls Try.prog 7 #[.slice a len cap] w fun e w' => e = .returned (.bool true) ∧ Below w.heap.size w w' := by
  subst hw
  refine CordFull_core a len cap zs W hin ?_
  rcases hin with ⟨_, h, _⟩ | ⟨_, _, h1, h2, _⟩
  · omega
  · unfold maxLen at h2; omega
end Go.Proofs.Ytgabonacpoimfaa
