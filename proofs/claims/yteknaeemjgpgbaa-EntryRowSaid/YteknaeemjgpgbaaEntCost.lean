/-
  What an entry costs: entry.Cost.
-/
import Derived.Test.YteknaeemjgpgbaaEntEnc
namespace Go.Proofs.Yteknaeemjgpgbaa
open Go.RowKit Go.Sort NibPure

def Ent.cost (x : Ent) : Int := if x.good then 1 + ((x.bytes.length : Int) + 231) / 232 else 0
theorem bytes_len (x : Ent) (h : x.good = true) : x.bytes.length ≤ 540 := by
  obtain ⟨_, _, _, h1, h2⟩ := good_facts x h
  have a := x.nums_len x.many
  have m : x.many ≤ 9 := by unfold Ent.many; split <;> omega
  have b1 := slotEnc_len x.wu x.wd.data.toList
  have b2 := slotEnc_len x.iu x.ix.data.toList
  have e1 : x.wd.data.toList.length = x.wd.size := Array.length_toList
  have e2 : x.ix.data.toList.length = x.ix.size := Array.length_toList
  unfold Ent.bytes Ent.tail
  split
  · simp only [List.length_append]; omega
  · simp only [List.length_append, List.length_nil]; omega
set_option maxRecDepth 100000 in
set_option maxHeartbeats 4000000 in
theorem cost_any (x : Ent) (hw : x.wd.size ≤ 4611686018427387904) (hi : x.ix.size ≤ 4611686018427387904) (w : World) :
    Calls Try.prog 15 #[x.val] w fun r w' => r = .returned (.int .i64 x.cost) ∧ Below w.heap.size w w' := by
  have CE := fun w => encode_any x hw hi w
  cases hg : x.good with
  | false =>
    rw [show x.encRes = .tuple #[.string (bs []), .int .i64 1] by simp [Ent.encRes, hg]] at CE
    rw [show x.cost = 0 by simp [Ent.cost, hg]]
    have CE := Lib.hid CE
    clear hg
    obtain ⟨k, c, e, n, l, p, pg, sl, wu, wd, iu, ix, nx⟩ := x
    simp only [Ent.val, Ent.row] at CE ⊢
    go_enter Try.func15, Try.ntmps15
    go_wp2_with fail
    refine (CE.out _).mono ?_
    rintro e w1 ⟨rfl, g1⟩
    go_wp2_with fail
    go_ret
    exact ⟨rfl, bup (bnew _ _) g1⟩
  | true =>
    rw [show x.encRes = .tuple #[.string (bs x.bytes), .int .i64 0] by simp [Ent.encRes, hg]] at CE
    rw [show x.cost = 1 + ((x.bytes.length : Int) + 231) / 232 by simp [Ent.cost, hg]]
    have hlen := bytes_len x hg
    obtain ⟨B, hB⟩ : ∃ B, x.bytes = B := ⟨_, rfl⟩
    rw [hB] at CE hlen ⊢
    have CE := Lib.hid CE
    have hsz : (bs B).size = B.length := bs_size B
    clear hg hB
    obtain ⟨k, c, e, n, l, p, pg, sl, wu, wd, iu, ix, nx⟩ := x
    simp only [Ent.val, Ent.row] at CE ⊢
    go_enter Try.func15, Try.ntmps15
    go_wp2_with fail
    refine (CE.out _).mono ?_
    rintro e w1 ⟨rfl, g1⟩
    go_wp2_with fail
    go_ret
    refine ⟨?_, bup (bnew _ _) g1⟩
    simp
    go_num
end Go.Proofs.Yteknaeemjgpgbaa
