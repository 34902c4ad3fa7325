/-
  The places of a way's datagrams, gone over; how many these are, and where one stands.
-/
import Derived.Test.YtkdopflnaeejeaaMiMem
import Derived.RangeFuncNested
import Derived.RangeFuncBound
import Derived.RangeFuncCalls
import Derived.RangeFuncLeaves
import Derived.Shelf.Abstract
import Derived.Shelf.RegionOpen
import Derived.WalkKit
import Derived.OwnWalkIn
import Derived.TacticsInMore
import Derived.LoopNIn
import Derived.LoopIn
namespace Go.Proofs.Ytkdopflnaeejeaa
open Go.RowKit Go.Shelf
set_option linter.unusedVariables false
set_option linter.unusedSimpArgs false
attribute [local go_sem] Oper.semAt_some

/-- The three boxes of a way. -/
def wayBox (b : Nat) : Array Value := #[.pointer (some ⟨b, 0, none⟩), .pointer (some ⟨b + 1, 0, none⟩), .pointer (some ⟨b + 2, 0, none⟩)]
set_option maxRecDepth 100000 in
theorem way_any (a : Option Addr) (c : Int) (u : Bool) (w : World) :
    Calls Try.prog 25 #[.pointer a, .int .i64 c, .bool u] w fun e w' => e = .returned (.func (.func 34) #[] #[.pointer (some ⟨w.heap.size, 0, none⟩), .pointer (some ⟨w.heap.size + 1, 0, none⟩), .pointer (some ⟨w.heap.size + 1 + 1, 0, none⟩)]) ∧
      ((w.alloc (.cells #[.pointer a] 24)).alloc (.cells #[.int .i64 c] 3)).alloc (.cells #[.bool u] 4) = w' := by
  go_enter Try.func25, Try.ntmps25
  go_wp2
  go_ret
  exact ⟨rfl, rfl⟩
set_option maxRecDepth 100000 in
set_option maxHeartbeats 2000000 in
/-- The places of a way, for whatever loop body keeps what lay below. -/
theorem way1_in (F : Fence) (n : Nat) (hf : F.fn 34) (hro : F.round = none) (hn : 1 ≤ n) (l Bn Bc Bu p : Nat) (S : Nat → Prop) (A : Option Addr) (cap : Nat) (c : Int) (u : Bool) (q : List Gr) (hcap : q.length ≤ 9223372036854775807) (J Jx : List Nat → World → Prop) (W : World) (hJa : AbidesFrom W.heap.size J)
    (hY : ∀ pre (x : Nat) W, J pre W → pre.length < q.length → YieldAt F (n - 1) Try.prog l #[.int .i64 (x : Int)] W fun e W' =>
      (e = .returned (.bool true) ∧ J (pre ++ [x]) W' ∧ Kept S W W') ∨ (e = .returned (.bool false) ∧ Jx (pre ++ [x]) W'))
    (h0 : J [] W) (hBn : W.cell? ⟨Bn, 0, none⟩ = some (.pointer (some ⟨p, 0, none⟩))) (hBc : W.cell? ⟨Bc, 0, none⟩ = some (.int .i64 c)) (hBu : W.cell? ⟨Bu, 0, none⟩ = some (.bool u)) (hp : W.cell? ⟨p, 0, none⟩ = some (.slice A q.length cap))
    (hc : ¬ S Bc) (hu : ¬ S Bu) (hq : ∀ i x, q[i]? = some x → ∃ g, A = some ⟨g, 0, none⟩ ∧ ¬ S g ∧ GrIn W g (i * 6) x) :
    CallsIn F n Try.prog 34 #[.func (.yield l) #[] #[], .pointer (some ⟨Bn, 0, none⟩), .pointer (some ⟨Bc, 0, none⟩), .pointer (some ⟨Bu, 0, none⟩)] W fun e W' => (∃ v, e = .returned v) ∧
      ((∃ ys, ys = idxF c u 0 q ∧ J ys W') ∨ (∃ pre, (∃ k, k ≤ q.length ∧ pre = idxF c u 0 (q.take k)) ∧ Jx pre W')) := by
  refine callsIn_of_wp Try.func34 rfl hf ?_ hro
  simp only [Try.ntmps34, List.size_toArray, List.length_cons, List.length_nil, Nat.reduceAdd, Nat.reduceSub, Array.replicate_succ, Array.replicate_zero, List.push_toArray, List.append_toArray, List.nil_append, List.cons_append]
  gi_wp2
  gi_loopw [14] (fun i wr => ∃ k : Nat, k ≤ q.length ∧ i = .int .i64 k ∧ Hid (J (idxF c u 0 (q.take k)) wr) ∧ Hid (Kept S W wr)) (fun i _ => q.length - (intOf i).toNat)
  case atStart => exact ⟨0, Nat.zero_le _, rfl, Lib.hid h0, Lib.hid (Kept.refl _ _)⟩
  case round =>
    obtain ⟨k, hk, rfl, HJ, HB⟩ := hrel
    by_cases hlt : k < q.length
    · obtain ⟨x, hx⟩ : ∃ x, q[k]? = some x := ⟨_, List.getElem?_eq_getElem hlt⟩
      obtain ⟨g, rfl, hg, G0⟩ := hq k x hx
      have hQ := hq
      clear hq
      have ht := idxF_take c u q k x hx
      have G := G0
      have hgS := Lib.hid hg
      clear hg
      have d0 := HB.out.cell G.a0 hgS.out
      have d1 := HB.out.cell G.a1 hgS.out
      have d2 := HB.out.cell G.a2 hgS.out
      have d3 := HB.out.cell G.a3 hgS.out
      have d4 := HB.out.cell G.a4 hgS.out
      have d5 := HB.out.cell G.a5 hgS.out
      have dc := HB.out.cell hBc hc
      have du := HB.out.cell hBu hu
      have hcl : Bc < wr.heap.size := block_lt_of_cell dc
      have hul : Bu < wr.heap.size := block_lt_of_cell du
      have hJ' : J (idxF c u 0 (q.take k)) (wr.alloc (.cells #[.int .i64 x.cl, .bool x.up, .int .i64 x.ep, .int .i64 x.sq, .int .i64 x.ak, .string x.bd] 27)) := hJa _ _ _ none HJ.out (World.grownBy_alloc wr _ none) (by simp)
      have HB' : Hid (Kept S W (wr.alloc (.cells #[.int .i64 x.cl, .bool x.up, .int .i64 x.ep, .int .i64 x.sq, .int .i64 x.ak, .string x.bd] 27))) := Lib.hid (HB.out.trans (Kept.of (bnew wr _)))
      replace hJ' := Lib.hid hJ'
      have Ht := Lib.hid ht
      clear ht G G0 HJ
      by_cases h1 : (x.cl == c) = true
      · by_cases h2 : (x.up == u) = true
        · have hon : onWay c u x = true := by unfold onWay; rw [h1, h2]; rfl
          have Ho := Lib.hid hon
          clear hon
          obtain ⟨fn, tmps, assign, body, hy, hR⟩ := hY _ k _ hJ'.out (by rw [idxF_len]; exact Nat.lt_of_le_of_lt (List.length_filter_le _ _) (by rw [List.length_take]; omega))
          gi_wp2
          refine hR.mono ?_
          rintro e W3 (⟨rfl, hJ3, hk3⟩ | ⟨rfl, hJx3⟩)
          · have HJ3 := Lib.hid hJ3
            have HK3 := Lib.hid hk3
            clear hJ3 hk3 hR hy
            gi_wp2
            go_roundw
            case rel => exact ⟨k + 1, by omega, by go_num, Lib.hid (by rw [Ht.out, if_pos Ho.out]; exact HJ3.out), Lib.hid (HB'.out.trans HK3.out)⟩
            case measure => simp [intOf]; omega
          · have HJ3 := Lib.hid hJx3
            clear hJx3 hR hy
            gi_wp2
            refine bodyPost_ret (results_none rfl _ _ _) rfl ?_
            exact ⟨⟨_, rfl⟩, .inr ⟨_, ⟨k + 1, by omega, (by rw [Ht.out, if_pos Ho.out])⟩, HJ3.out⟩⟩
        · have hon : onWay c u x = false := by unfold onWay; rw [h1]; simpa using h2
          have Ho := Lib.hid hon
          have h2' : (x.up == u) = false := by simpa using h2
          clear hon h2
          gi_wp2
          refine ⟨fun _ h => (by cases h), ?_⟩
          gi_wp2
          go_roundw
          case rel => exact ⟨k + 1, by omega, by go_num, Lib.hid (by rw [Ht.out, if_neg (by rw [Ho.out]; simp), List.append_nil]; exact hJ'.out), HB'⟩
          case measure => simp [intOf]; omega
      · have hon : onWay c u x = false := by
          have : (x.cl == c) = false := by simpa using h1
          unfold onWay; rw [this]; rfl
        have Ho := Lib.hid hon
        have h1' : (x.cl == c) = false := by simpa using h1
        clear hon h1
        gi_wp2
        refine ⟨fun _ h => (by cases h), ?_⟩
        gi_wp2
        go_roundw
        case rel => exact ⟨k + 1, by omega, by go_num, Lib.hid (by rw [Ht.out, if_neg (by rw [Ho.out]; simp), List.append_nil]; exact hJ'.out), HB'⟩
        case measure => simp [intOf]; omega
    · obtain rfl : k = q.length := by omega
      have Hz : Hid (J (idxF c u 0 q) wr) := Lib.hid (by have := HJ.out; rwa [List.take_length] at this)
      clear HJ hq
      gi_wp2
      go_end0
      exact ⟨⟨_, rfl⟩, .inl ⟨_, rfl, Hz.out⟩⟩
/-- .. of no net at all. -/
theorem way1_nil (F : Fence) (n : Nat) (hf : F.fn 34) (hro : F.round = none) (l Bn : Nat) (bc bu : Value) (J : List Nat → World → Prop) (W : World) (h0 : J [] W) (hBn : W.cell? ⟨Bn, 0, none⟩ = some (.pointer none)) :
    CallsIn F n Try.prog 34 #[.func (.yield l) #[] #[], .pointer (some ⟨Bn, 0, none⟩), bc, bu] W fun e W' => (∃ v, e = .returned v) ∧ J [] W' := by
  refine callsIn_of_wp Try.func34 rfl hf ?_ hro
  simp only [Try.ntmps34, List.size_toArray, List.length_cons, List.length_nil, Nat.reduceAdd, Nat.reduceSub, Array.replicate_succ, Array.replicate_zero, List.push_toArray, List.append_toArray, List.nil_append, List.cons_append]
  gi_wp2
  refine bodyPost_ret (results_none rfl _ _ _) rfl ?_
  exact ⟨⟨_, rfl⟩, h0⟩
/-- The iterator's contract. -/
theorem way_stops (F : Fence) (n : Nat) (hf : F.fn 34) (hro : F.round = none) (hn : 1 ≤ n) (b : Nat) (t : TypeId) (p : Nat) (r : Option Nat) (c : Int) (u : Bool) (q : List Gr) (S : Nat → Prop) (w : World) (hN : NetAt t w p r q)
    (hb : Has w b (.cells #[.pointer (some ⟨p, 0, none⟩)] 24)) (hbc : Has w (b + 1) (.cells #[.int .i64 c] 3)) (hbu : Has w (b + 1 + 1) (.cells #[.bool u] 4)) (h1 : ¬ S (b + 1)) (h2 : ¬ S (b + 1 + 1)) (hz : ∀ k, zone p r k → ¬ S k) :
    SeqStopsK F n Try.prog 34 #[.pointer (some ⟨b, 0, none⟩), .pointer (some ⟨b + 1, 0, none⟩), .pointer (some ⟨b + 1 + 1, 0, none⟩)] (fun x : Nat => #[Value.int .i64 (x : Int)]) (Kept S) (fun ys => ys = idxF c u 0 q) (fun pre => ∃ k, k ≤ q.length ∧ pre = idxF c u 0 (q.take k)) q.length w := fun l J Jx W hW hJ _ hY h0 => by
  obtain ⟨A, cap, hp, _, hr, hq, hcap, hat⟩ := (hN.below hW).open
  exact way1_in F n hf hro hn l b (b + 1) (b + 1 + 1) p S A cap c u q (by omega) J Jx W hJ hY h0 ((hb.below hW).cell 0 _ rfl) ((hbc.below hW).cell 0 _ rfl) ((hbu.below hW).cell 0 _ rfl) (hp.cell 0 _ rfl) h1 h2
    (fun i x hx => by obtain ⟨g, e, hg, hG⟩ := hat i x hx; exact ⟨g, e, hz g (.inr hg), hG⟩)
theorem way_stops_nil (F : Fence) (n : Nat) (hf : F.fn 34) (hro : F.round = none) (b : Nat) (bc bu : Value) (S : Nat → Prop) (w : World)
    (hb : Has w b (.cells #[.pointer none] 24)) :
    SeqStopsK F n Try.prog 34 #[.pointer (some ⟨b, 0, none⟩), bc, bu] (fun x : Nat => #[Value.int .i64 (x : Int)]) (Kept S) (fun ys => ys = []) (fun pre => pre = []) 0 w := fun l J Jx W hW hJ _ hY h0 => by
  exact (way1_nil F n hf hro l b bc bu J W h0 ((hb.below hW).cell 0 _ rfl)).mono fun e W' ⟨he, hj⟩ => ⟨he, .inl ⟨_, rfl, hj⟩⟩
end Go.Proofs.Ytkdopflnaeejeaa
