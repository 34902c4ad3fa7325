/-
  The message of bytes.
-/
import Derived.Test.YtakdagmkkelnfaaNoH
import Derived.Deep.DrawnRows
namespace Go.Proofs.Ytakdagmkkelnfaa
open Go.RowKit Go.Sort NibPure SumPure
set_option linter.unusedVariables false
set_option linter.unusedSimpArgs false
attribute [local go_sem ↓] Go.wp_at_zero Go.wp_at_succ
def IsMsg (w : World) (m : Ms) (cs : Array Value) : Prop := ∃ A n c B k d, cs = m.row A n c B k d ∧ IsSlots w A n c m.sl ∧ IsEnts w B k d m.en
def NDecPost (R : Ms × Int) (w : World) (e : Ending) (w' : World) : Prop :=
  ∃ cs, e = .returned (.tuple #[.agg cs, .int .i64 R.2]) ∧ IsMsg w' R.1 cs ∧ Below w.heap.size w w'
theorem IsEnts.apart {w w' : World} {A : Option Addr} {n c g : Nat} {l : List Ent} {t : TypeId} {fr : Nat × Nat} {cs : Array Value} (h : IsEnts w A n c l) (hg : Has w g (.cells cs t fr)) (hs : cs.size ≤ 12) (hb : But g w w') : IsEnts w' A n c l := by
  refine h.but hb fun hn b off e => ?_
  rintro rfl
  obtain ⟨b', off', e2, _, hc⟩ := h.row hn
  rw [e] at e2
  obtain ⟨x, hx⟩ : ∃ x, l[0]? = some x := ⟨_, List.getElem?_eq_getElem (by rw [h.len]; exact hn)⟩
  have h12 := hc 0 x hx 12 _ rfl
  cases e2
  unfold Has at hg
  simp only [World.cell?, hg] at h12
  rw [Array.getElem?_eq_none (by omega)] at h12
  cases h12
theorem IsSlots.apartM {w w' : World} {m : Ms} {A A2 : Option Addr} {n c g n2 c2 k d : Nat} {B : Option Addr} {l : List Sl} {t : TypeId} {fr : Nat × Nat} (h : IsSlots w A n c l) (hg : Has w g (.cells (m.row A2 n2 c2 B k d) t fr)) (hb : But g w w') : IsSlots w' A n c l := by
  refine h.but2 hb fun hn b off e => ?_
  rintro rfl
  subst e
  obtain ⟨b', off', x, e2, hx, _, c1, c2, _⟩ := h.at hn
  obtain ⟨rfl, rfl⟩ : b' = b ∧ off' = off := by cases e2; exact ⟨rfl, rfl⟩
  unfold Has at hg
  simp only [World.cell?, hg, Nat.zero_mul, Nat.add_zero, Ms.row, msgC] at c1 c2
  match off', c1, c2 with
  | 0, c1, _ => simp at c1
  | 1, c1, _ => simp at c1
  | 2, _, c2 => simp at c2
  | 3, _, c2 => simp at c2
  | 4, c1, _ => simp at c1
  | 5, c1, _ => simp at c1
  | 6, c1, _ => simp at c1
  | 7, c1, _ => simp at c1
  | 8, c1, _ => simp at c1
  | 9, c1, _ => simp at c1
  | 10, c1, _ => simp at c1
  | j + 11, c1, _ => simp at c1
/-- The state as the fields are read: the scan's block, the message's, a shape's, the result's. -/
structure NSt (w wx : World) (cb mb sb : Nat) (SH : Array Value) (r : Rd) : Prop where
  c : Has wx cb (.cells #[.string (bs r.2.1), .bool r.2.2] 52)
  m : ∃ cs, Has wx mb (.cells cs 32) ∧ IsMsg wx r.1 cs
  s : Has wx sb (.cells SH 55)
  o : Has wx w.heap.size (.cells #[.int .i64 0, .int .i64 0, .bool false, .bool false, .int .i64 0, .int .i64 0, .int .i64 0, .int .i64 0, .int .i64 0, .slice none 0 0, .slice none 0 0] 32)
  b : Below w.heap.size w wx
  len : r.2.1.length ≤ 9223372036854775807
  n1 : w.heap.size < cb ∧ cb < mb ∧ mb < sb
section
variable {w wx wy : World} {cb mb sb : Nat} {SH : Array Value} {r : Rd}
theorem NSt.scan (h : NSt w wx cb mb sb SH r) {q : List UInt8} {bd : Bool} (hc : Has wy cb (.cells #[.string (bs q), .bool bd] 52)) (k : But cb wx wy) (hq : q.length ≤ r.2.1.length) : NSt w wy cb mb sb SH (r.1, q, bd) := by
  obtain ⟨hc0, ⟨cs, hm, A, n, c, B, k', d, e, hS, hE⟩, hs, ho, hb, hl, hn⟩ := h
  exact ⟨hc, ⟨cs, hm.but k (by omega), A, n, c, B, k', d, e, hS.apartS hc0 k, hE.apart hc0 (by simp) k⟩, hs.but k (by omega), ho.but k (by omega), hb.trans (k.below (by omega) hb.size), Nat.le_trans hq hl, hn⟩
theorem NSt.below (h : NSt w wx cb mb sb SH r) (k : Below wx.heap.size wx wy) : NSt w wy cb mb sb SH r := by
  obtain ⟨hc0, ⟨cs, hm, A, n, c, B, k', d, e, hS, hE⟩, hs, ho, hb, hl, hn⟩ := h
  exact ⟨hc0.below k, ⟨cs, hm.below k, A, n, c, B, k', d, e, hS.below k, hE.below k⟩, hs.below k, ho.below k, hb.trans (k.mono hb.size), hl, hn⟩
theorem NSt.set1 (h : NSt w wx cb mb sb SH r) (i : Nat) (v : Value) (m' : Ms) (hr : ∀ A n c B k d, (r.1.row A n c B k d).setIfInBounds i v = m'.row A n c B k d) (h1 : m'.sl = r.1.sl) (h2 : m'.en = r.1.en) : NSt w (wx.setCell ⟨mb, i, none⟩ v) cb mb sb SH (m', r.2) := by
  obtain ⟨hc0, ⟨cs, hm, A, n, c, B, k', d, e, hS, hE⟩, hs, ho, hb, hl, hn⟩ := h
  subst e
  have k := But.set mb i wx v
  exact ⟨hc0.but k (by omega), ⟨_, hm.set i v, A, n, c, B, k', d, hr _ _ _ _ _ _, by rw [h1]; exact hS.apartM hm k, by rw [h2]; exact hE.apart hm (by simp [Ms.row, msgC]) k⟩, hs.but k (by omega), ho.but k (by omega), hb.trans (k.below (by omega) hb.size), hl, hn⟩
theorem NSt.img (h : NSt w wx cb mb sb SH r) {lsn : Int} {A : Option Addr} {n c : Nat} {sl : List Sl} (hI : IsSlots wx A n c sl) : NSt w ((wx.setCell ⟨mb, 8, none⟩ (.int .i64 lsn)).setCell ⟨mb, 9, none⟩ (.slice A n c)) cb mb sb SH ({ r.1 with lsn := lsn, sl := sl }, r.2) := by
  obtain ⟨hc0, ⟨cs, hm, A0, n0, c0, B, k', d, e, hS, hE⟩, hs, ho, hb, hl, hn⟩ := h
  subst e
  have k := (But.set mb 8 wx (.int .i64 lsn)).trans (But.set mb 9 _ (.slice A n c))
  exact ⟨hc0.but k (by omega), ⟨_, (hm.set 8 (.int .i64 lsn)).set 9 (.slice A n c), A, n, c, B, k', d, rfl, hI.apartM hm k, hE.apart hm (by simp [Ms.row, msgC]) k⟩, hs.but k (by omega), ho.but k (by omega), hb.trans (k.below (by omega) hb.size), hl, hn⟩
theorem NSt.ents (h : NSt w wx cb mb sb SH r) {A : Option Addr} {n c : Nat} {en : List Ent} (hI : IsEnts wx A n c en) : NSt w (wx.setCell ⟨mb, 10, none⟩ (.slice A n c)) cb mb sb SH ({ r.1 with en := en }, r.2) := by
  obtain ⟨hc0, ⟨cs, hm, A0, n0, c0, B, k', d, e, hS, hE⟩, hs, ho, hb, hl, hn⟩ := h
  subst e
  have k := But.set mb 10 wx (.slice A n c)
  exact ⟨hc0.but k (by omega), ⟨_, hm.set 10 (.slice A n c), A0, n0, c0, A, n, c, rfl, hS.apartM hm k, hI.apart hm (by simp [Ms.row, msgC]) k⟩, hs.but k (by omega), ho.but k (by omega), hb.trans (k.below (by omega) hb.size), hl, hn⟩
end
theorem scI_len (s : Sc) : (scI s).2.1.length ≤ s.1.length := takeI_rest s.1
theorem scF_len (s : Sc) : (scF s).2.1.length ≤ s.1.length := takeI_rest s.1
theorem scP_len (s : Sc) : (scP s).2.1.length ≤ s.1.length := by unfold scP; split <;> simp
theorem esF_len : ∀ (f : Nat) (n : Int) (l : List Ent) (s : Sc), (esF f n l s).2.1.length ≤ s.1.length
  | 0, _, _, _ => Nat.le_refl _
  | f + 1, n, l, s => by
    rw [esF]
    split
    · cases hd : decE s.1 with
      | none => simp
      | some p =>
        obtain ⟨x, r⟩ := p
        exact Nat.le_trans (esF_len f n _ (r, false)) (decE_len hd)
    · exact Nat.le_refl _
theorem scE_len (s : Sc) : (scE s).2.1.length ≤ s.1.length := Nat.le_trans (esF_len _ _ _ _) (scI_len s)
theorem rd0_zero (l : List UInt8) (k : Int) (h : (scI (l, false)).1 = k) : (rd0 l).1 = ⟨k, 0, false, false, 0, 0, 0, 0, 0, [], []⟩ := by unfold rd0 Ms.zero; rw [h]
set_option maxRecDepth 100000 in
set_option maxHeartbeats 32000000 in
theorem ndec_short (s : ByteArray) (w : World) (hs : s.size < 4) :
    Calls Try.prog 11 #[.string s] w (NDecPost (Ms.zero, 3) w) := by
  obtain ⟨fs, hmu⟩ := msgUnd
  have Hu := Lib.hid hmu
  clear hmu
  have hsi : (s.size : Int) < 4 := by omega
  go_enter Try.func11, Try.ntmps11
  go_wp2_with fail
  (try simp only [Exit.inBlock, Exit.then])
  refine bodyPost_ret (v := .tuple #[.agg #[.int .i64 0, .int .i64 0, .bool false, .bool false, .int .i64 0, .int .i64 0, .int .i64 0, .int .i64 0, .int .i64 0, .slice none 0 0, .slice none 0 0], .int .i64 3]) ?_ rfl ⟨_, rfl, ⟨none, 0, 0, none, 0, 0, rfl, IsSlots.nil _, IsEnts.nil _⟩, ?_⟩
  · exact Eq.trans (results_cell_one (p := 2) (u := 3) rfl _ _ w.heap.size _ _ _ fs rfl (Has.new _ _) Hu.out (by kernel_rfl)) rfl
  · exact bnew w _
end Go.Proofs.Ytakdagmkkelnfaa
