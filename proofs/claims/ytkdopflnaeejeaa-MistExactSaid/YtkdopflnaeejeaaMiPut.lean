/-
  A net that is new; a datagram that is put.
-/
import Derived.Test.YtkdopflnaeejeaaMiCount
import Derived.Test.YtkdopflnaeejeaaGrow2
import Derived.Deep.RegionLaw
import Derived.Deep.CutRange
import Derived.Laws.Rows
namespace Go.Proofs.Ytkdopflnaeejeaa
open Go.RowKit
set_option linter.unusedVariables false
set_option linter.unusedSimpArgs false

set_option maxRecDepth 100000 in
theorem new_any (w : World) :
    Calls Try.prog 8 #[] w fun e w' => e = .returned (.pointer (some ⟨w.heap.size, 0, none⟩)) ∧ w.alloc (.cells #[.slice none 0 0] 53) = w' := by
  go_enter Try.func8, Try.ntmps8
  go_wp2
  go_ret
  exact ⟨rfl, rfl⟩
theorem RowG.snoc {base : Nat} {w : World} {v : Value} {q : List Gr} {x : Gr} (h : w.ownsRow base 27 6 v (q.length + 1) (flatG q ++ x.row.toList)) : RowG base w v (q ++ [x]) := by
  unfold RowG
  rw [List.length_append, flatG_append]
  simpa [flatG] using h
/-- The net behind an append to its own slice. -/
theorem net_more {t : TypeId} {p : Nat} {r : Option Nat} {q : List Gr} {x : Gr} {w w1 w2 : World} {A : Option Addr} {cap : Nat} {v : Value} (hN : NetAt t w p r q) (hv : (Value.slice A q.length cap).ownBlock = r) (hb : Below w.heap.size w w1)
    (hrow : w2.ownsRow 0 27 6 v (q.length + 1) (flatG q ++ x.row.toList)) (hg : w1.grownBy w2 (Value.slice A q.length cap).ownBlock) (hfr : ∀ g, v.ownBlock = some g → r = some g ∨ w.heap.size ≤ g) :
    NetOut t p r (q ++ [x]) w (w2.setCell ⟨p, 0, none⟩ v) := by
  obtain ⟨⟨v0, hp, hr0, hv0⟩, hn⟩ := hN
  rw [hv] at hg
  have hp1 := hp.below hb
  have hp2 : Has w2 p (.cells #[v0] t) := hp1.held (S := fun k => r = some k) (Kept.grown hg (fun g e => e)) (fun e => hn e)
  have R2 : RowG 0 w2 v (q ++ [x]) := RowG.snoc hrow
  have hne : v.ownBlock ≠ some p := by
    intro e
    rcases hfr p e with h | h
    · exact hn h
    · have := hp.lt; omega
  refine ⟨v.ownBlock, ⟨⟨v, hp2.set 0 v, R2.held (S := fun k => k = p) (Kept.but (But.set p 0 w2 v) rfl) (fun g e h => hne (by rw [e, h])), rfl⟩, hne⟩, ?_, hfr⟩
  exact ((Kept.of hb).trans (Kept.grown hg (fun g e => .inr e))).trans (Kept.but (But.set p 0 w2 v) (.inl rfl))
set_option maxRecDepth 100000 in
set_option maxHeartbeats 2000000 in
theorem put_some (p : Nat) (r : Option Nat) (q : List Gr) (x : Gr) (w : World) (hN : NetAt 53 w p r q) (hq : q.length ≤ 1000000) :
    Calls Try.prog 9 #[.pointer (some ⟨p, 0, none⟩), x.val] w fun e w' => e = .returned (.int .i64 (putG q x).2) ∧ NetOut 53 p r (putG q x).1 w w' := by
  obtain ⟨c, u, ep, sq, ak, bd⟩ := x
  have CN := fun w h => count_some 53 p r c u q w h
  obtain ⟨R, hR⟩ : ∃ R, putG q ⟨c, u, ep, sq, ak, bd⟩ = R := ⟨_, rfl⟩
  have hR' := hR
  unfold putG at hR'
  simp only at hR'
  rw [hR]
  obtain ⟨A, cap, hp, hrow, hv, hle, hcap, _⟩ := hN.open
  obtain ⟨m, hm⟩ : ∃ m, cnt c u q = m := ⟨_, rfl⟩
  rw [hm] at CN hR'
  have CN' := Lib.hid CN
  have HN := Lib.hid hN
  have hpl := hp.lt
  clear CN hm hR hN
  simp only [Gr.val]
  by_cases hc : c < 1 ∨ 8 < c
  · rw [if_pos hc] at hR'
    subst hR'
    by_cases h1 : c < 1
    · go_enter Try.func9, Try.ntmps9
      go_wp2_with fail
      go_ret
      exact ⟨rfl, NetOut.same HN.out (bnew w _)⟩
    · have h8 : 8 < c := by omega
      go_enter Try.func9, Try.ntmps9
      go_wp2_with fail
      go_ret
      exact ⟨rfl, NetOut.same HN.out (bnew w _)⟩
  · rw [if_neg hc] at hR'
    have h1 : 1 ≤ c := by omega
    have h8 : c ≤ 8 := by omega
    clear hc
    by_cases h64 : 64 ≤ m
    · rw [if_pos h64] at hR'
      subst hR'
      go_enter Try.func9, Try.ntmps9
      go_wp2_with fail
      refine (CN'.out _ (HN.out.below (bnew w _))).mono ?_
      rintro e w1 ⟨rfl, b1⟩
      go_wp2_with fail
      go_ret
      exact ⟨rfl, NetOut.same HN.out (bup (bnew w _) b1)⟩
    · rw [if_neg h64] at hR'
      subst hR'
      have h64' : m < 64 := by omega
      clear h64
      go_enter Try.func9, Try.ntmps9
      go_wp2_with fail
      refine (CN'.out _ (HN.out.below (bnew w _))).mono ?_
      rintro e w1 ⟨rfl, b1⟩
      have X1 := (Has.new w (.cells #[.int .i64 c, .bool u, .int .i64 ep, .int .i64 sq, .int .i64 ak, .string bd] 27)).below b1
      have x0 := X1.cell 0 _ rfl
      have x1 := X1.cell 1 _ rfl
      have x2 := X1.cell 2 _ rfl
      have x3 := X1.cell 3 _ rfl
      have x4 := X1.cell 4 _ rfl
      have x5 := X1.cell 5 _ rfl
      have B1 := Lib.hid (bup (bnew w (.cells #[.int .i64 c, .bool u, .int .i64 ep, .int .i64 sq, .int .i64 ak, .string bd] 27)) b1)
      have p0 := (hp.below B1.out).cell 0 _ rfl
      have pf := (hp.below B1.out).free 0
      have hpl1 : p < w1.heap.size := (hp.below B1.out).lt
      clear b1 X1
      go_upto_region 7 with (fail)
      have HB2 : Below w.heap.size w (w1.alloc (.cells #[.int .i64 c, .bool u, .int .i64 ep, .int .i64 sq, .int .i64 ak, .string bd] 27)).drew := (bup B1.out (bnew w1 _)).drew
      have HRow := Lib.hid (hrow.held (S := fun _ => False) (Kept.of HB2) (fun _ _ e => e))
      have HNew := Lib.hid (news_one (w := w1) (cs := #[.int .i64 c, .bool u, .int .i64 ep, .int .i64 sq, .int .i64 ak, .string bd]) (te := 27))
      have HPK : Hid (∀ w6, World.grownBy (w1.alloc (.cells #[.int .i64 c, .bool u, .int .i64 ep, .int .i64 sq, .int .i64 ak, .string bd] 27)).drew w6 (Value.slice A q.length cap).ownBlock → Has w6 p (.cells #[.slice A q.length cap] 53)) := Lib.hid (fun w6 g => (hp.below HB2).held (S := fun k => r = some k) (Kept.grown g (fun j e => by rw [← hv]; exact e)) (fun e => HN.out.ne e))
      have HB := Lib.hid HB2
      have HV := Lib.hid hv
      clear HB2 hrow hv
      go_region_law ((refine step_grow_own (w := (w1.alloc (.cells #[.int .i64 c, .bool u, .int .i64 ep, .int .i64 sq, .int .i64 ak, .string bd] 27)).drew) gramElem (by rfl) (.tmp 29) (.tmp 31) (by rfl) (.slice A q.length cap) q.length (flatG q) (by rfl) HRow.out (some ⟨w1.heap.size, 0, none⟩) 1 1 [.int .i64 c, .bool u, .int .i64 ep, .int .i64 sq, .int .i64 ak, .string bd] (by rfl) rfl (.inr ⟨_, rfl, HNew.out⟩) (by simp [Value.oneCell']) (by omega) (by omega) ?_; intro v6 w6 R6 g6 f6; have P6 := HPK.out w6 g6; have p61 := P6.cell 0 _ rfl; have pf1 := P6.free 0; obtain ⟨A6, cap6, rfl, h61, h62⟩ := ownsRow_form R6; have R6' := Lib.hid R6; have g6' := Lib.hid g6; have f6' := Lib.hid f6; clear R6 g6 f6 P6))
      all_goals
        go_wp2_with fail
        go_ret
        exact ⟨rfl, net_more (x := ⟨c, u, ep, sq, ak, bd⟩) HN.out HV.out HB.out R6'.out g6'.out (fun g e => by
          rcases f6'.out g e with h | h
          · exact .inl (HV.out ▸ h)
          · exact .inr (by have := HB.out.size; omega))⟩
set_option maxRecDepth 100000 in
set_option maxHeartbeats 2000000 in
theorem put_nil (x : Gr) (w : World) :
    Calls Try.prog 9 #[.pointer none, x.val] w fun e w' => e = .returned (.int .i64 2) ∧ Below w.heap.size w w' := by
  obtain ⟨c, u, ep, sq, ak, bd⟩ := x
  simp only [Gr.val]
  go_enter Try.func9, Try.ntmps9
  go_wp2_with fail
  go_ret
  exact ⟨rfl, bnew w _⟩
end Go.Proofs.Ytkdopflnaeejeaa
