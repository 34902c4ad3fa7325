/-
  The reference's reader of a message: the state as its fields are read.
-/
import Derived.Test.YtakdagmkkelnfaaNoR5
import Derived.Test.YtakdagmkkelnfaaNoI
namespace Go.Proofs.Ytakdagmkkelnfaa
open Go.RowKit Go.Sort NibPure SumPure
set_option linter.unusedVariables false
set_option linter.unusedSimpArgs false
theorem NDecPost.ofR {R R' : Ms × Int} {w : World} {e : Ending} {w' : World} (h : R = R') (p : NDecPost R' w e w') : NDecPost R w e w' := h ▸ p
/-- The reader's block, the message's, the result's. -/
structure RSt (w wx : World) (cb mb : Nat) (A : Option Addr) (n c : Nat) (B : Option Addr) (k d : Nat) (r : Rd) : Prop where
  fc : Has wx cb (.cells #[.string (bs r.2.1), .bool r.2.2] 81)
  fm : Has wx mb (.cells (r.1.row A n c B k d) 32)
  sS : IsSlots wx A n c r.1.sl
  sE : IsEnts wx B k d r.1.en
  fo : Has wx w.heap.size (.cells #[.int .i64 0, .int .i64 0, .bool false, .bool false, .int .i64 0, .int .i64 0, .int .i64 0, .int .i64 0, .int .i64 0, .slice none 0 0, .slice none 0 0] 32)
  fb : Below w.heap.size w wx
  len : r.2.1.length ≤ 9223372036854775807
  n1 : w.heap.size < cb ∧ cb < mb
section
variable {w wx wy : World} {cb mb : Nat} {A : Option Addr} {n c : Nat} {B : Option Addr} {k d : Nat} {r : Rd}
theorem RSt.scan (h : RSt w wx cb mb A n c B k d r) {q : List UInt8} {bd : Bool} (hc : Has wy cb (.cells #[.string (bs q), .bool bd] 81)) (kk : But cb wx wy) (hq : q.length ≤ r.2.1.length) : RSt w wy cb mb A n c B k d (r.1, q, bd) := by
  obtain ⟨hc0, hm, hS, hE, ho, hb, hl, hn⟩ := h
  exact ⟨hc, hm.but kk (by omega), hS.apartS hc0 kk, hE.apart hc0 (by simp) kk, ho.but kk (by omega), hb.trans (kk.below (by omega) hb.size), Nat.le_trans hq hl, hn⟩
theorem RSt.below (h : RSt w wx cb mb A n c B k d r) (kk : Below wx.heap.size wx wy) : RSt w wy cb mb A n c B k d r := by
  obtain ⟨hc0, hm, hS, hE, ho, hb, hl, hn⟩ := h
  exact ⟨hc0.below kk, hm.below kk, hS.below kk, hE.below kk, ho.below kk, hb.trans (kk.mono hb.size), hl, hn⟩
theorem RSt.set1 (h : RSt w wx cb mb A n c B k d r) (i : Nat) (v : Value) (m' : Ms) (hr : (r.1.row A n c B k d).setIfInBounds i v = m'.row A n c B k d) (h1 : m'.sl = r.1.sl) (h2 : m'.en = r.1.en) : RSt w (wx.setCell ⟨mb, i, none⟩ v) cb mb A n c B k d (m', r.2) := by
  obtain ⟨hc0, hm, hS, hE, ho, hb, hl, hn⟩ := h
  have kk := But.set mb i wx v
  have hm2 := hm.set i v
  rw [hr] at hm2
  exact ⟨hc0.but kk (by omega), hm2, by rw [h1]; exact hS.apartM hm kk, by rw [h2]; exact hE.apart hm (by simp [Ms.row, msgC]) kk, ho.but kk (by omega), hb.trans (kk.below (by omega) hb.size), hl, hn⟩
theorem RSt.img (h : RSt w wx cb mb A n c B k d r) {lsn : Int} {A' : Option Addr} {n' c' : Nat} {sl : List Sl} (hI : IsSlots wx A' n' c' sl) : RSt w ((wx.setCell ⟨mb, 8, none⟩ (.int .i64 lsn)).setCell ⟨mb, 9, none⟩ (.slice A' n' c')) cb mb A' n' c' B k d ({ r.1 with lsn := lsn, sl := sl }, r.2) := by
  obtain ⟨hc0, hm, hS, hE, ho, hb, hl, hn⟩ := h
  have kk := (But.set mb 8 wx (.int .i64 lsn)).trans (But.set mb 9 _ (.slice A' n' c'))
  exact ⟨hc0.but kk (by omega), (hm.set 8 (.int .i64 lsn)).set 9 (.slice A' n' c'), hI.apartM hm kk, hE.apart hm (by simp [Ms.row, msgC]) kk, ho.but kk (by omega), hb.trans (kk.below (by omega) hb.size), hl, hn⟩
end
theorem IsSlots.empty {w w' : World} {A : Option Addr} {n c : Nat} (h : IsSlots w A n c []) : IsSlots w' A n c [] := by
  have h0 : n = 0 := by have := h.len; simpa using this.symm
  subst h0
  exact ⟨h.len, h.cap, h.most, by simp, fun hn => by omega⟩
/-- As the entries are read. -/
structure RLp (w wx : World) (base cb mb : Nat) (M : Ms) (A : Option Addr) (n c : Nat) (B : Option Addr) (k d : Nat) (q : List UInt8) (bd : Bool) : Prop where
  fc : Has wx cb (.cells #[.string (bs q), .bool bd] 81)
  fm : Has wx mb (.cells (M.row A n c B k d) 32)
  fo : Has wx w.heap.size (.cells #[.int .i64 0, .int .i64 0, .bool false, .bool false, .int .i64 0, .int .i64 0, .int .i64 0, .int .i64 0, .int .i64 0, .slice none 0 0, .slice none 0 0] 32)
  fb : Below w.heap.size w wx
  fs : base ≤ wx.heap.size
  n1 : w.heap.size < cb ∧ cb < mb ∧ mb < base
section
variable {w wx wy : World} {base cb mb : Nat} {M : Ms} {A : Option Addr} {n c : Nat} {B : Option Addr} {k d : Nat} {q : List UInt8} {bd : Bool}
theorem RLp.low (h : RLp w wx base cb mb M A n c B k d q bd) (kk : Below base wx wy) : RLp w wy base cb mb M A n c B k d q bd := by
  obtain ⟨hc, hm, ho, hb, hs, hn⟩ := h
  exact ⟨hc.low kk (by omega), hm.low kk (by omega), ho.low kk (by omega), hb.trans (kk.mono (by omega)), Nat.le_trans hs kk.size, hn⟩
theorem RLp.below (h : RLp w wx base cb mb M A n c B k d q bd) (kk : Below wx.heap.size wx wy) : RLp w wy base cb mb M A n c B k d q bd := h.low (kk.mono h.fs)
theorem RLp.cset (h : RLp w wx base cb mb M A n c B k d q bd) {q' : List UInt8} {bd' : Bool} (hc : Has wy cb (.cells #[.string (bs q'), .bool bd'] 81)) (kk : But cb wx wy) : RLp w wy base cb mb M A n c B k d q' bd' := by
  obtain ⟨_, hm, ho, hb, hs, hn⟩ := h
  exact ⟨hc, hm.but kk (by omega), ho.but kk (by omega), hb.trans (kk.below (by omega) hb.size), Nat.le_trans hs kk.size, hn⟩
theorem RLp.mset (h : RLp w wx base cb mb M A n c B k d q bd) (B' : Option Addr) (k' d' : Nat) : RLp w (wx.setCell ⟨mb, 10, none⟩ (.slice B' k' d')) base cb mb M A n c B' k' d' q bd := by
  obtain ⟨hc, hm, ho, hb, hs, hn⟩ := h
  have kk := But.set mb 10 wx (.slice B' k' d')
  exact ⟨hc.but kk (by omega), hm.set 10 (.slice B' k' d'), ho.but kk (by omega), hb.trans (kk.below (by omega) hb.size), Nat.le_trans hs kk.size, hn⟩
theorem RLp.row {e : TypeId} {size : Nat} {v : Value} {m : Nat} {xs : List Value} (h : RLp w wx base cb mb M A n c B k d q bd) (ho : wx.ownsRow base e size v m xs) {g : Nat} (hg : g < base) (kk : But g wx wy) : wy.ownsRow base e size v m xs :=
  ownsRow_other ho kk.grown (fun g' hg' e => by
    have := (World.ownsRow.lt ho g' hg').1
    injection e with e; omega)
end
theorem rd7_bad {r : Rd} (h : r.2.2 = true) : (rd7 r).2.2 = true := by
  cases hb : (rd7 r).2.2 with
  | true => rfl
  | false =>
    unfold rd7 at hb
    cases hf : kE r.1.kind with
    | true =>
      simp only [hf, if_true] at hb
      rw [(scE_ok hb).1] at h
      exact h
    | false =>
      simp only [hf, Bool.false_eq_true, if_false] at hb
      rw [hb] at h
      exact h
theorem sl1 (r : Rd) : (rd1 r).1.sl = r.1.sl := by unfold rd1; split <;> rfl
theorem sl2 (r : Rd) : (rd2 r).1.sl = r.1.sl := by unfold rd2; split <;> rfl
theorem sl3 (r : Rd) : (rd3 r).1.sl = r.1.sl := by unfold rd3; split <;> rfl
theorem sl4 (r : Rd) : (rd4 r).1.sl = r.1.sl := by unfold rd4; split <;> rfl
theorem sl5 (r : Rd) : (rd5 r).1.sl = r.1.sl := by unfold rd5; split <;> rfl
theorem kE_kI {k : Int} (h : kE k = true) (b : Bool) : kI k b = false := by
  unfold kE at h
  have : k = 4 := by simpa using h
  subst this
  cases b <;> rfl
end Go.Proofs.Ytakdagmkkelnfaa
