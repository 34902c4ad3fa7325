/-
  The plain law of entries: what is written is read as itself, what is read is written as itself.
-/
import Derived.Test.YtakdagmkkelnfaaEntDec
import Derived.ProofKit
import Derived.Deep.Slices
import Derived.Deep.Fields
import Derived.ChangeSame
import Derived.Lib.SmallJoins
import Derived.SizedLaws
import Derived.Test.YtakdagmkkelnfaaBase
/-! The plain law of entries: what is written is read as itself, what is read is written as itself. -/
set_option maxRecDepth 100000
namespace Go.Proofs.Ytakdagmkkelnfaa
open Go.RowKit Go.Sort NibPure

theorem num_setNum (x : Ent) (i j : Nat) (hi : i < 9) (hj : j < 9) (n : Int) : (x.setNum j n).num i = if i = j then n else x.num i := by
  match i, hi with
  | 0, _ => match j, hj with | 0, _ => rfl | 1, _ => rfl | 2, _ => rfl | 3, _ => rfl | 4, _ => rfl | 5, _ => rfl | 6, _ => rfl | 7, _ => rfl | 8, _ => rfl
  | 1, _ => match j, hj with | 0, _ => rfl | 1, _ => rfl | 2, _ => rfl | 3, _ => rfl | 4, _ => rfl | 5, _ => rfl | 6, _ => rfl | 7, _ => rfl | 8, _ => rfl
  | 2, _ => match j, hj with | 0, _ => rfl | 1, _ => rfl | 2, _ => rfl | 3, _ => rfl | 4, _ => rfl | 5, _ => rfl | 6, _ => rfl | 7, _ => rfl | 8, _ => rfl
  | 3, _ => match j, hj with | 0, _ => rfl | 1, _ => rfl | 2, _ => rfl | 3, _ => rfl | 4, _ => rfl | 5, _ => rfl | 6, _ => rfl | 7, _ => rfl | 8, _ => rfl
  | 4, _ => match j, hj with | 0, _ => rfl | 1, _ => rfl | 2, _ => rfl | 3, _ => rfl | 4, _ => rfl | 5, _ => rfl | 6, _ => rfl | 7, _ => rfl | 8, _ => rfl
  | 5, _ => match j, hj with | 0, _ => rfl | 1, _ => rfl | 2, _ => rfl | 3, _ => rfl | 4, _ => rfl | 5, _ => rfl | 6, _ => rfl | 7, _ => rfl | 8, _ => rfl
  | 6, _ => match j, hj with | 0, _ => rfl | 1, _ => rfl | 2, _ => rfl | 3, _ => rfl | 4, _ => rfl | 5, _ => rfl | 6, _ => rfl | 7, _ => rfl | 8, _ => rfl
  | 7, _ => match j, hj with | 0, _ => rfl | 1, _ => rfl | 2, _ => rfl | 3, _ => rfl | 4, _ => rfl | 5, _ => rfl | 6, _ => rfl | 7, _ => rfl | 8, _ => rfl
  | 8, _ => match j, hj with | 0, _ => rfl | 1, _ => rfl | 2, _ => rfl | 3, _ => rfl | 4, _ => rfl | 5, _ => rfl | 6, _ => rfl | 7, _ => rfl | 8, _ => rfl
theorem nums_setNum (x : Ent) (n j : Nat) (hn : n ≤ j) (hj : j < 9) (v : Int) : (x.setNum j v).nums n = x.nums n := by
  induction n with
  | zero => rfl
  | succ n ih =>
    rw [Ent.nums_succ, Ent.nums_succ, ih (by omega), num_setNum x n j (by omega) hj, if_neg (by omega)]
theorem nums_split (x : Ent) (n m : Nat) (h : n ≤ m) : ∃ v, x.nums m = x.nums n ++ v := by
  induction m with
  | zero => exact ⟨[], by rw [show n = 0 by omega]; simp⟩
  | succ m ih =>
    by_cases e : n = m + 1
    · exact ⟨[], by rw [e]; simp⟩
    · obtain ⟨v, hv⟩ := ih (by omega)
      exact ⟨v ++ enc (x.num m), by rw [Ent.nums_succ, hv, List.append_assoc]⟩
def Ent.upTo (x : Ent) : Nat → Ent
  | 0 => Ent.zero
  | n + 1 => (x.upTo n).setNum n (x.num n)
theorem takeI_enc {n : Int} (h1 : -9223372036854775808 ≤ n) (h2 : n ≤ 9223372036854775807) (r : List UInt8) : takeI (enc n ++ r) = (n, r, true) := by
  unfold takeI
  rw [dec_enc h1 h2]
theorem stN_enc (x : Ent) (m : Nat) (hm : m ≤ 9) (hb : ∀ i, i < 9 → 0 ≤ x.num i ∧ x.num i ≤ 1099511627776) (t : List UInt8) (n : Nat) (hn : n ≤ m) :
    ∃ u, x.nums m ++ t = x.nums n ++ u ∧ stN (x.nums m ++ t) n = (x.upTo n, u, false) := by
  induction n with
  | zero => exact ⟨x.nums m ++ t, rfl, rfl⟩
  | succ n ih =>
    obtain ⟨u, hu, hs⟩ := ih (by omega)
    obtain ⟨v, hv⟩ := nums_split x (n + 1) m hn
    have hb2 := hb n (by omega)
    have e : u = enc (x.num n) ++ (v ++ t) := by
      have h2 := hu
      rw [hv, Ent.nums_succ, List.append_assoc, List.append_assoc] at h2
      exact (List.append_cancel_left h2).symm
    refine ⟨v ++ t, by rw [hv]; simp, ?_⟩
    show ((stN (x.nums m ++ t) n).1.setNum n _, _, _) = _
    rw [hs, e, takeI_enc (by omega) (by omega)]
    rfl
theorem stN_enc_end (x : Ent) (m : Nat) (hm : m ≤ 9) (hb : ∀ i, i < 9 → 0 ≤ x.num i ∧ x.num i ≤ 1099511627776) (t : List UInt8) : stN (x.nums m ++ t) m = (x.upTo m, t, false) := by
  obtain ⟨u, hu, hs⟩ := stN_enc x m hm hb t m (Nat.le_refl _)
  rw [hs, List.append_cancel_left hu]
theorem takeSlot_enc (u : Bool) (d : ByteArray) (h : slotB u d = true) (r : List UInt8) : takeSlot (slotEnc u d.data.toList ++ r) false = (u, d.data.toList, r, false) := by
  have hl : d.data.toList.length = d.size := Array.length_toList
  simp only [slotB, Bool.and_eq_true, Bool.or_eq_true, decide_eq_true_eq] at h
  obtain ⟨h1, h2⟩ := h
  cases u with
  | false =>
    have h0 : d.data.toList = [] := by
      rcases h2 with h2 | h2
      · cases h2
      · rw [ByteArray.toList_eq] at h2; exact List.isEmpty_iff.1 h2
    unfold takeSlot slotEnc
    simp only [Bool.false_eq_true, if_false]
    rw [takeI_enc (by omega) (by omega), h0]
    rfl
  | true =>
    unfold takeSlot slotEnc
    simp only [if_true]
    rw [List.append_assoc, takeI_enc (by omega) (by omega)]
    simp only
    rw [if_neg (by omega)]
    simp only [if_true]
    have hd : decS 200 (encS d.data.toList ++ r) = some (d.data.toList, r) := by
      unfold decS encS
      rw [List.append_assoc, dec_enc (by omega) (by omega)]
      simp only
      rw [if_pos (by simp; omega)]
      simp
    unfold takeS
    rw [hd]
    rfl
theorem good_slots (x : Ent) (h : x.good = true) : slotB x.wu x.wd = true ∧ slotB x.iu x.ix = true := by
  have hz : ∀ d : ByteArray, d.toList.isEmpty = true → d.size = 0 := by
    intro d hd
    rw [ByteArray.toList_eq] at hd
    have := List.isEmpty_iff.1 hd
    have e : d.data.toList.length = d.size := Array.length_toList
    rw [this] at e
    exact e.symm
  simp only [Ent.good, Bool.and_eq_true] at h
  obtain ⟨_, h⟩ := h
  split at h
  · simp only [Ent.changeB, Bool.and_eq_true] at h; exact h.1.2.2
  · split at h
    · simp only [Ent.changeB, Bool.and_eq_true] at h; exact h.1.2.2
    · split at h
      · simp only [Ent.plainB, Bool.and_eq_true] at h
        have a := hz _ h.2.1
        have b := hz _ h.2.2
        simp [slotB, a, b, h.2.1, h.2.2]
      · cases h
theorem good_plain (x : Ent) (h : x.good = true) (hk : ¬ (x.kind = 1 ∨ x.kind = 2)) : x = x.upTo 6 := by
  have hz : ∀ d : ByteArray, d.toList.isEmpty = true → d = ⟨#[]⟩ := by
    intro d hd
    rw [ByteArray.toList_eq] at hd
    have := List.isEmpty_iff.1 hd
    apply ByteArray.ext
    apply Array.ext'
    rw [this]
  obtain ⟨k, c, e, n, l, p, pg, sl, wu, wd, iu, ix, nx⟩ := x
  simp only [Ent.good, Bool.and_eq_true] at h
  obtain ⟨_, h⟩ := h
  rw [if_neg (fun e => hk (.inl e)), if_neg (fun e => hk (.inr e))] at h
  split at h
  · simp only [Ent.plainB, Bool.and_eq_true, decide_eq_true_eq] at h
    obtain ⟨⟨rfl, rfl, rfl, rfl, rfl⟩, h1, h2⟩ := h
    rw [hz _ h1, hz _ h2]
    rfl
  · cases h
theorem upTo_nine (x : Ent) : x.upTo 9 = ⟨x.kind, x.cl, x.ep, x.n, x.lsn, x.prev, x.page, x.slot, false, ⟨#[]⟩, false, ⟨#[]⟩, x.next⟩ := by
  cases x
  simp [Ent.upTo, Ent.setNum, Ent.num, Ent.zero]
theorem stN_zero_kind (x : Ent) (t : List UInt8) (m : Nat) (h1 : 1 ≤ m) (hm : m ≤ 9) (hb : ∀ i, i < 9 → 0 ≤ x.num i ∧ x.num i ≤ 1099511627776) : (stN (x.nums m ++ t) 1).1.kind = x.kind := by
  obtain ⟨u, _, hs⟩ := stN_enc x m hm hb t 1 h1
  rw [hs]; rfl
theorem many_le (x : Ent) : 6 ≤ x.many ∧ x.many ≤ 9 := by unfold Ent.many; split <;> omega
theorem many_kind {x y : Ent} (h : x.kind = y.kind) : x.many = y.many := by unfold Ent.many; rw [h]
/-- What is written is read as itself, and what stands behind it is left. -/
theorem decE_bytes (x : Ent) (h : x.good = true) (r : List UInt8) : decE (x.bytes ++ r) = some (x, r) := by
  obtain ⟨hb, hk1, hk4, _, _⟩ := good_facts x h
  have hm := many_le x
  obtain ⟨s1, s2⟩ := good_slots x h
  have hE : stEnd (x.bytes ++ r) = (x, r, false) := by
    unfold stEnd Ent.bytes
    simp only
    rw [List.append_assoc, many_kind (stN_zero_kind x (x.tail ++ r) x.many (by omega) hm.2 hb), stN_enc_end x x.many hm.2 hb]
    simp only
    have hkk : (x.upTo x.many).kind = x.kind := by
      have := stN_zero_kind x (x.tail ++ r) x.many (by omega) hm.2 hb
      have e : x.many = (x.many - 1) + 1 := by omega
      have h2 := stN_kind (x.nums x.many ++ (x.tail ++ r)) (x.many - 1)
      rw [← e, stN_enc_end x x.many hm.2 hb, this] at h2
      exact h2
    rw [hkk]
    by_cases hk : x.kind = 1 ∨ x.kind = 2
    · rw [if_pos hk]
      have ht : x.tail = slotEnc x.wu x.wd.data.toList ++ slotEnc x.iu x.ix.data.toList := by unfold Ent.tail; rw [if_pos (by omega)]
      rw [ht, List.append_assoc, takeSlot_enc _ _ s1]
      simp only
      rw [takeSlot_enc _ _ s2]
      simp only
      have e : x.many = 9 := by unfold Ent.many; rw [if_pos hk]
      rw [e]
      rw [bs_self, bs_self, upTo_nine]
    · rw [if_neg hk]
      have ht : x.tail = [] := by unfold Ent.tail; rw [if_neg (by omega)]
      have e : x.many = 6 := by unfold Ent.many; rw [if_neg hk]
      rw [ht, e, ← good_plain x h hk]
      rfl
  unfold decE
  rw [hE]
  simp [h]

theorem takeI_ok {r : List UInt8} (h : (takeI r).2.2 = true) : enc (takeI r).1 ++ (takeI r).2.1 = r := by
  unfold takeI at *
  cases hd : dec r with
  | none => rw [hd] at h; cases h
  | some p => obtain ⟨n, r'⟩ := p; exact (enc_dec hd).1
theorem takeS_ok {r : List UInt8} (h : (takeS r).2.2 = true) : encS (takeS r).1 ++ (takeS r).2.1 = r ∧ (takeS r).1.length ≤ 200 := by
  unfold takeS at *
  cases hd : decS 200 r with
  | none => rw [hd] at h; cases h
  | some p =>
    obtain ⟨t, r'⟩ := p
    simp only
    unfold decS at hd
    cases he : dec r with
    | none => rw [he] at hd; cases hd
    | some q =>
      obtain ⟨n, u⟩ := q
      rw [he] at hd
      simp only at hd
      split at hd
      · rename_i hn
        simp at hd
        obtain ⟨rfl, rfl⟩ := hd
        have h1 := (enc_dec he).1
        refine ⟨?_, by simp; omega⟩
        unfold encS
        rw [List.append_assoc, List.take_append_drop, List.length_take, show ((min n.toNat u.length : Nat) : Int) = n by omega]
        exact h1
      · cases hd
theorem takeSlot_ok {r : List UInt8} {bad : Bool} (h : (takeSlot r bad).2.2.2 = false) : bad = false ∧ slotEnc (takeSlot r bad).1 (takeSlot r bad).2.1 ++ (takeSlot r bad).2.2.1 = r := by
  unfold takeSlot at *
  split at h
  · rename_i h0
    rw [if_pos h0]
    simp at h
    refine ⟨h.1, ?_⟩
    have := takeI_ok h.2
    rw [h0] at this
    exact this
  · rename_i h0
    rw [if_neg h0]
    split at h
    · rename_i h1
      rw [if_pos h1]
      simp at h
      refine ⟨h.1.1, ?_⟩
      have a := takeI_ok h.1.2
      have b := (takeS_ok h.2).1
      rw [h1] at a
      simp only [slotEnc, if_true]
      rw [List.append_assoc, b]
      exact a
    · cases h
theorem stN_ok (s : List UInt8) (n : Nat) (hn : n ≤ 9) (h : (stN s n).2.2 = false) : (stN s n).1.nums n ++ (stN s n).2.1 = s := by
  induction n with
  | zero => rfl
  | succ n ih =>
    have e : stN s (n + 1) = ((stN s n).1.setNum n (takeI (stN s n).2.1).1, (takeI (stN s n).2.1).2.1, (stN s n).2.2 || !(takeI (stN s n).2.1).2.2) := rfl
    rw [e] at h ⊢
    simp at h
    have h1 := ih (by omega) h.1
    have h2 := takeI_ok h.2
    rw [Ent.nums_succ, nums_setNum _ _ _ (Nat.le_refl _) (by omega), num_setNum _ _ _ (by omega) (by omega), if_pos rfl, List.append_assoc, h2]
    exact h1
theorem nums_slots (x : Ent) (a b : Bool) (c d : ByteArray) (n : Nat) : ({ x with wu := a, wd := c, iu := b, ix := d } : Ent).nums n = x.nums n := by
  induction n with
  | zero => rfl
  | succ n ih =>
    rw [Ent.nums_succ, Ent.nums_succ, ih]
    congr 2
/-- What is read, written again, is what was read. -/
theorem bytes_decE {s : List UInt8} {x : Ent} {r : List UInt8} (h : decE s = some (x, r)) : x.good = true ∧ x.bytes ++ r = s := by
  unfold decE at h
  split at h
  · cases h
  · rename_i hn
    simp only [Option.some.injEq, Prod.mk.injEq] at h
    obtain ⟨rfl, rfl⟩ := h
    have hbad : (stEnd s).2.2 = false := by
      cases hb : (stEnd s).2.2 with
      | false => rfl
      | true => exact absurd (.inl hb) hn
    have hg : (stEnd s).1.good = true := by
      cases hb : (stEnd s).1.good with
      | true => rfl
      | false => exact absurd (.inr hb) hn
    refine ⟨hg, ?_⟩
    have hkind := (good_facts _ hg).2
    clear hn
    have hm := many_le (stN s 1).1
    have hk : (stN s (stN s 1).1.many).1.kind = (stN s 1).1.kind := by
      rw [show (stN s 1).1.many = ((stN s 1).1.many - 1) + 1 by omega]
      exact stN_kind s _
    unfold stEnd at hbad hkind ⊢
    simp only at hbad hkind ⊢
    by_cases h2 : (stN s (stN s 1).1.many).1.kind = 1 ∨ (stN s (stN s 1).1.many).1.kind = 2
    · rw [if_pos h2] at hbad hkind ⊢
      simp only at hbad hkind ⊢
      obtain ⟨a1, a2⟩ := takeSlot_ok hbad
      obtain ⟨b1, b2⟩ := takeSlot_ok a1
      have c := stN_ok s _ hm.2 b1
      unfold Ent.bytes Ent.tail
      simp only
      rw [if_pos (by omega), nums_slots]
      rw [show ({ (stN s (stN s 1).1.many).1 with wu := (takeSlot (stN s (stN s 1).1.many).2.1 (stN s (stN s 1).1.many).2.2).1, wd := bs (takeSlot (stN s (stN s 1).1.many).2.1 (stN s (stN s 1).1.many).2.2).2.1, iu := (takeSlot (takeSlot (stN s (stN s 1).1.many).2.1 (stN s (stN s 1).1.many).2.2).2.2.1 (takeSlot (stN s (stN s 1).1.many).2.1 (stN s (stN s 1).1.many).2.2).2.2.2).1, ix := bs (takeSlot (takeSlot (stN s (stN s 1).1.many).2.1 (stN s (stN s 1).1.many).2.2).2.2.1 (takeSlot (stN s (stN s 1).1.many).2.1 (stN s (stN s 1).1.many).2.2).2.2.2).2.1 } : Ent).many = (stN s 1).1.many from many_kind hk]
      rw [bs_data, bs_data, List.append_assoc, List.append_assoc, a2, b2]
      exact c
    · rw [if_neg h2] at hbad hkind ⊢
      have c := stN_ok s _ hm.2 hbad
      unfold Ent.bytes Ent.tail
      rw [if_neg (by omega), List.append_nil, many_kind hk]
      exact c
/-- No entry's bytes begin with another one's. -/
theorem bytes_prefix {x y : Ent} (hx : x.good = true) (hy : y.good = true) {r t : List UInt8} (h : x.bytes ++ r = y.bytes ++ t) : x = y := by
  have h1 := decE_bytes x hx r
  rw [h, decE_bytes y hy t] at h1
  simp at h1
  exact h1.1.symm
theorem decE_cut {x : Ent} (hx : x.good = true) (k : Nat) (hk : k < x.bytes.length) : decE (x.bytes.take k) = none := by
  cases h : decE (x.bytes.take k) with
  | none => rfl
  | some p =>
    obtain ⟨y, r⟩ := p
    obtain ⟨h1, h2⟩ := bytes_decE h
    have h4 : y.bytes ++ (r ++ x.bytes.drop k) = x.bytes ++ [] := by rw [← List.append_assoc, h2]; simp
    have h5 := bytes_prefix h1 hx h4
    subst h5
    have h6 := congrArg List.length h2
    simp at h6
    omega
theorem bytes_pos (x : Ent) : 1 ≤ x.bytes.length := by
  have hm := many_le x
  obtain ⟨v, hv⟩ := nums_split x 1 x.many (by omega)
  have h1 : x.nums 1 = enc x.kind := by rw [Ent.nums_succ]; simp [Ent.nums, Ent.num]
  have := enc_pos x.kind
  unfold Ent.bytes
  rw [hv, h1]
  simp only [List.length_append]; omega
theorem take_bytes_iff {x y : Ent} (hx : x.good = true) (hy : y.good = true) {n : Nat} (hn : n = min x.bytes.length y.bytes.length) : x.bytes.take n = y.bytes.take n ↔ x = y := by
  constructor
  · intro h
    by_cases hl : x.bytes.length ≤ y.bytes.length
    · rw [List.take_of_length_le (l := x.bytes) (by omega)] at h
      refine bytes_prefix hx hy (r := y.bytes.drop n) (t := []) ?_
      rw [h]; simp
    · rw [List.take_of_length_le (l := y.bytes) (by omega)] at h
      refine bytes_prefix hx hy (r := []) (t := x.bytes.drop n) ?_
      rw [← h]; simp
  · rintro rfl; rfl
theorem eqB_iff (x y : Ent) : x.eqB y = true ↔ x = y := by
  have hb : ∀ a b : ByteArray, (a.toList == b.toList) = true ↔ a = b := by
    intro a b
    rw [ByteArray.toList_eq, ByteArray.toList_eq, beq_iff_eq]
    constructor
    · intro h; apply ByteArray.ext; apply Array.ext'; exact h
    · rintro rfl; rfl
  obtain ⟨k, c, e, n, l, p, pg, sl, wu, wd, iu, ix, nx⟩ := x
  obtain ⟨k', c', e', n', l', p', pg', sl', wu', wd', iu', ix', nx'⟩ := y
  simp only [Ent.eqB, Bool.and_eq_true, hb, beq_iff_eq, Ent.mk.injEq]
  constructor
  · intro h; simp_all
  · intro h; simp_all
/-- How many bytes a number takes at most. -/
theorem lebF_len_le : ∀ (j k u : Nat), u < 128 ^ (j + 1) → (lebF k u).length ≤ j + 1
  | 0, 0, u, _ => by simp [lebF]
  | 0, k + 1, u, h => by unfold lebF; rw [if_pos (by simpa using h)]; simp
  | j + 1, 0, u, _ => by simp [lebF]
  | j + 1, k + 1, u, h => by
    unfold lebF
    split
    · simp
    · have := lebF_len_le j k (u / 128) (by rw [Nat.pow_succ] at h; omega)
      simp; omega
theorem enc_len_le {n : Int} (j : Nat) (h0 : 0 ≤ n) (h : 2 * n.toNat < 128 ^ (j + 1)) : (enc n).length ≤ j + 1 := by
  refine lebF_len_le j 9 _ ?_
  unfold zig
  rw [if_neg (by omega)]
  exact h
theorem slotEnc_len' {u : Bool} {d : List UInt8} (h : d.length ≤ 200) : (slotEnc u d).length ≤ 203 := by
  have h0 := enc_len_le (n := 0) 0 (by omega) (by decide)
  have h1 := enc_len_le (n := 1) 0 (by omega) (by decide)
  have h2 := enc_len_le (n := (d.length : Int)) 1 (by omega) (by simp; omega)
  unfold slotEnc encS
  split
  · simp only [List.length_append]; omega
  · omega
theorem bytes_len' (x : Ent) (h : x.good = true) : x.bytes.length ≤ 439 := by
  obtain ⟨hb, hk1, hk4, hw, hi⟩ := good_facts x h
  have e1 : x.wd.data.toList.length = x.wd.size := Array.length_toList
  have e2 : x.ix.data.toList.length = x.ix.size := Array.length_toList
  have s1 := slotEnc_len' (u := x.wu) (d := x.wd.data.toList) (by omega)
  have s2 := slotEnc_len' (u := x.iu) (d := x.ix.data.toList) (by omega)
  have hn9 : (x.nums 9).length ≤ 33 := by
    have hg := h
    simp only [Ent.good, Bool.and_eq_true, Ent.known, knownB, decide_eq_true_eq, Ent.lsnB, Ent.prevB] at hg
    obtain ⟨⟨⟨k1, k2, k3⟩, k4, k5⟩, k6⟩ := hg
    have P : 0 ≤ x.page ∧ x.page ≤ 1023 ∧ 0 ≤ x.slot ∧ x.slot ≤ 31 ∧ 0 ≤ x.next ∧ x.next ≤ 1099511627776 := by
      split at k6
      · simp only [Ent.changeB, Ent.pageB, Ent.placeB, Bool.and_eq_true, decide_eq_true_eq] at k6; omega
      · split at k6
        · simp only [Ent.changeB, Ent.pageB, Ent.placeB, Ent.nextB, Bool.and_eq_true, decide_eq_true_eq] at k6; omega
        · split at k6
          · simp only [Ent.plainB, Bool.and_eq_true, decide_eq_true_eq] at k6; omega
          · cases k6
    have a0 := enc_len_le (n := x.kind) 0 (by omega) (by simp; omega)
    have a1 := enc_len_le (n := x.cl) 0 (by omega) (by simp; omega)
    have a2 := enc_len_le (n := x.ep) 4 (by omega) (by simp; omega)
    have a3 := enc_len_le (n := x.n) 4 (by omega) (by simp; omega)
    have a4 := enc_len_le (n := x.lsn) 5 (by omega) (by simp; omega)
    have a5 := enc_len_le (n := x.prev) 5 (by omega) (by simp; omega)
    have a6 := enc_len_le (n := x.page) 1 (by omega) (by simp; omega)
    have a7 := enc_len_le (n := x.slot) 0 (by omega) (by simp; omega)
    have a8 := enc_len_le (n := x.next) 5 (by omega) (by simp; omega)
    have e : x.nums 9 = enc x.kind ++ enc x.cl ++ enc x.ep ++ enc x.n ++ enc x.lsn ++ enc x.prev ++ enc x.page ++ enc x.slot ++ enc x.next := by
      simp only [Ent.nums_succ, Ent.num]
      simp [Ent.nums]
    rw [e]
    simp only [List.length_append]
    omega
  have hm := many_le x
  obtain ⟨v, hv⟩ := nums_split x x.many 9 hm.2
  have hle : (x.nums x.many).length ≤ 33 := by rw [hv] at hn9; simp only [List.length_append] at hn9; omega
  unfold Ent.bytes Ent.tail
  split
  · simp only [List.length_append]; omega
  · simp only [List.length_append, List.length_nil]; omega
end Go.Proofs.Ytakdagmkkelnfaa

/-! The reference's reading of an entry, in plain words, is the same. -/
namespace Go.Proofs.Ytakdagmkkelnfaa
open Go.RowKit Go.Sort NibPure

/-- So many numbers that bytes begin with. -/
def rdN (s : List UInt8) : Nat → Option (List Int × List UInt8)
  | 0 => some ([], s)
  | n + 1 =>
    match rdN s n with
    | none => none
    | some (zs, u) =>
      match dec u with
      | none => none
      | some (z, v) => some (zs ++ [z], v)
theorem rdN_len {s : List UInt8} {n : Nat} {zs : List Int} {u : List UInt8} (h : rdN s n = some (zs, u)) : zs.length = n ∧ u.length ≤ s.length := by
  induction n generalizing zs u with
  | zero => simp [rdN] at h; obtain ⟨rfl, rfl⟩ := h; exact ⟨rfl, Nat.le_refl _⟩
  | succ n ih =>
    unfold rdN at h
    cases h1 : rdN s n with
    | none => rw [h1] at h; cases h
    | some p =>
      obtain ⟨ys, v⟩ := p
      rw [h1] at h
      simp only at h
      cases h2 : dec v with
      | none => rw [h2] at h; cases h
      | some q =>
        obtain ⟨z, t⟩ := q
        rw [h2] at h
        simp at h
        obtain ⟨rfl, rfl⟩ := h
        obtain ⟨a, b⟩ := ih h1
        have := dec_len h2
        exact ⟨by simp [a], by omega⟩
theorem rdN_step {s : List UInt8} {n : Nat} {zs : List Int} {u : List UInt8} (h : rdN s n = some (zs, u)) {z : Int} {v : List UInt8} (hd : dec u = some (z, v)) : rdN s (n + 1) = some (zs ++ [z], v) := by
  unfold rdN
  rw [h]
  simp only
  rw [hd]
theorem rdN_stop {s : List UInt8} {n : Nat} {zs : List Int} {u : List UInt8} (h : rdN s n = some (zs, u)) (hd : dec u = none) : rdN s (n + 1) = none := by
  unfold rdN
  rw [h]
  simp only
  rw [hd]
theorem rdN_mono {s : List UInt8} {n m : Nat} (h : rdN s n = none) (hm : n ≤ m) : rdN s m = none := by
  induction m with
  | zero => rw [show n = 0 by omega] at h; exact h
  | succ m ih =>
    by_cases e : n = m + 1
    · rw [← e]; exact h
    · unfold rdN
      rw [ih (by omega)]
theorem stN_succ (s : List UInt8) (n : Nat) : stN s (n + 1) = ((stN s n).1.setNum n (takeI (stN s n).2.1).1, (takeI (stN s n).2.1).2.1, (stN s n).2.2 || !(takeI (stN s n).2.1).2.2) := rfl
theorem rdN_stN (s : List UInt8) (n : Nat) (hn : n ≤ 9) : rdN s n = if (stN s n).2.2 = true then none else some ((List.range n).map (stN s n).1.num, (stN s n).2.1) := by
  induction n with
  | zero => rfl
  | succ n ih =>
    unfold rdN
    rw [ih (by omega), stN_succ]
    by_cases hb : (stN s n).2.2 = true
    · simp [hb]
    · rw [if_neg hb]
      simp only
      unfold takeI
      cases hd : dec (stN s n).2.1 with
      | none => simp
      | some q =>
        obtain ⟨z, v⟩ := q
        simp only [hb]
        rw [if_neg (by simp)]
        congr 2
        rw [List.range_succ, List.map_append]
        congr 1
        · apply List.map_congr_left
          intro i hi
          have := List.mem_range.1 hi
          rw [num_setNum _ _ _ (by omega) (by omega), if_neg (by omega)]
        · simp [num_setNum _ n n (by omega) (by omega)]
theorem takeSlot_bad (r : List UInt8) : (takeSlot r true).2.2.2 = true := by
  unfold takeSlot
  split
  · rfl
  · split <;> rfl
theorem decE_bad {s : List UInt8} (h : (stN s (stN s 1).1.many).2.2 = true) : decE s = none := by
  unfold decE stEnd
  simp only
  rw [h]
  rw [if_pos]
  left
  split
  · cases hb : (takeSlot (stN s (stN s 1).1.many).2.1 true).2.2.2 with
    | false => rw [takeSlot_bad] at hb; cases hb
    | true => exact takeSlot_bad _
  · exact h
/-- What the reference takes for a slot: used, the data, the rest, whether there was one. -/
def rTake (r : List UInt8) : Bool × List UInt8 × List UInt8 × Bool :=
  if (takeI r).2.2 = false ∨ (takeI r).1 = 0 then (false, [], (takeI r).2.1, (takeI r).2.2)
  else (true, (takeS (takeI r).2.1).1, (takeS (takeI r).2.1).2.1, (takeS (takeI r).2.1).2.2 && decide ((takeI r).1 = 1))
theorem takeI_zero (r : List UInt8) (h : (takeI r).1 ≠ 0) : (takeI r).2.2 = true := by
  unfold takeI at *
  cases hd : dec r with
  | none => rw [hd] at h; exact absurd rfl h
  | some p => rfl
theorem rTake_ok (r : List UInt8) : (takeSlot r false).2.2.2 = !(rTake r).2.2.2 := by
  have h := takeI_zero r
  unfold takeSlot rTake
  generalize takeI r = y at *
  obtain ⟨n, r1, ok⟩ := y
  simp only at h ⊢
  by_cases h0 : n = 0
  · simp [h0]
  · rw [h h0]
    by_cases h1 : n = 1
    · subst h1; simp
    · simp [h0, h1]
theorem rTake_same {r : List UInt8} (hr : (rTake r).2.2.2 = true) : takeSlot r false = ((rTake r).1, (rTake r).2.1, (rTake r).2.2.1, false) := by
  have h := takeI_zero r
  unfold rTake at *
  unfold takeSlot
  generalize takeI r = y at *
  obtain ⟨n, r1, ok⟩ := y
  simp only at h hr ⊢
  by_cases h0 : n = 0
  · subst h0
    simp at hr ⊢
    simp [hr]
  · have hok := h h0
    subst hok
    rw [if_neg (by simp [h0])] at hr ⊢
    simp only [Bool.and_eq_true, decide_eq_true_eq] at hr
    obtain ⟨a, rfl⟩ := hr
    simp [a]
def entOf (zs : List Int) : Ent := ⟨zs.getD 0 0, zs.getD 1 0, zs.getD 2 0, zs.getD 3 0, zs.getD 4 0, zs.getD 5 0, zs.getD 6 0, zs.getD 7 0, false, ⟨#[]⟩, false, ⟨#[]⟩, zs.getD 8 0⟩
theorem setNum_rest (x : Ent) (i j : Nat) (hi : i < 9) (hij : j < i) (v : Int) (h : x.num i = 0) : (x.setNum j v).num i = 0 := by
  rw [num_setNum x i j hi (by omega), if_neg (by omega), h]
theorem stN_rest (s : List UInt8) (n i : Nat) (hi : i < 9) (hn : n ≤ i) : (stN s n).1.num i = 0 := by
  induction n with
  | zero =>
    match i, hi with
    | 0, _ => rfl | 1, _ => rfl | 2, _ => rfl | 3, _ => rfl | 4, _ => rfl | 5, _ => rfl | 6, _ => rfl | 7, _ => rfl | 8, _ => rfl
  | succ n ih => rw [stN_succ]; exact setNum_rest _ _ _ hi (by omega) _ (ih (by omega))
theorem setNum_slots (x : Ent) (j : Nat) (v : Int) : (x.setNum j v).wu = x.wu ∧ (x.setNum j v).wd = x.wd ∧ (x.setNum j v).iu = x.iu ∧ (x.setNum j v).ix = x.ix := by
  match j with
  | 0 => exact ⟨rfl, rfl, rfl, rfl⟩ | 1 => exact ⟨rfl, rfl, rfl, rfl⟩ | 2 => exact ⟨rfl, rfl, rfl, rfl⟩ | 3 => exact ⟨rfl, rfl, rfl, rfl⟩ | 4 => exact ⟨rfl, rfl, rfl, rfl⟩
  | 5 => exact ⟨rfl, rfl, rfl, rfl⟩ | 6 => exact ⟨rfl, rfl, rfl, rfl⟩ | 7 => exact ⟨rfl, rfl, rfl, rfl⟩ | _ + 8 => exact ⟨rfl, rfl, rfl, rfl⟩
theorem stN_slots (s : List UInt8) (n : Nat) : (stN s n).1.wu = false ∧ (stN s n).1.wd = ⟨#[]⟩ ∧ (stN s n).1.iu = false ∧ (stN s n).1.ix = ⟨#[]⟩ := by
  induction n with
  | zero => exact ⟨rfl, rfl, rfl, rfl⟩
  | succ n ih =>
    rw [stN_succ]
    obtain ⟨a, b, c, d⟩ := setNum_slots (stN s n).1 n (takeI (stN s n).2.1).1
    exact ⟨a.trans ih.1, b.trans ih.2.1, c.trans ih.2.2.1, d.trans ih.2.2.2⟩
theorem ent_ext {x y : Ent} (h : ∀ i, i < 9 → x.num i = y.num i) (h1 : x.wu = y.wu) (h2 : x.wd = y.wd) (h3 : x.iu = y.iu) (h4 : x.ix = y.ix) : x = y := by
  obtain ⟨k, c, e, n, l, p, pg, sl, wu, wd, iu, ix, nx⟩ := x
  obtain ⟨k', c', e', n', l', p', pg', sl', wu', wd', iu', ix', nx'⟩ := y
  have a0 : k = k' := h 0 (by omega)
  have a1 : c = c' := h 1 (by omega)
  have a2 : e = e' := h 2 (by omega)
  have a3 : n = n' := h 3 (by omega)
  have a4 : l = l' := h 4 (by omega)
  have a5 : p = p' := h 5 (by omega)
  have a6 : pg = pg' := h 6 (by omega)
  have a7 : sl = sl' := h 7 (by omega)
  have a8 : nx = nx' := h 8 (by omega)
  simp only at h1 h2 h3 h4
  subst a0 a1 a2 a3 a4 a5 a6 a7 a8 h1 h2 h3 h4
  rfl
theorem entOf_num (zs : List Int) (i : Nat) (hi : i < 9) : (entOf zs).num i = zs.getD i 0 := by
  match i, hi with
  | 0, _ => rfl | 1, _ => rfl | 2, _ => rfl | 3, _ => rfl | 4, _ => rfl | 5, _ => rfl | 6, _ => rfl | 7, _ => rfl | 8, _ => rfl
theorem entOf_stN (s : List UInt8) (n : Nat) (_ : n ≤ 9) : entOf ((List.range n).map (stN s n).1.num) = (stN s n).1 := by
  obtain ⟨a, b, c, d⟩ := stN_slots s n
  refine ent_ext (fun i hi => ?_) a.symm b.symm c.symm d.symm
  rw [entOf_num _ _ hi]
  by_cases hin : i < n
  · simp [List.getD, hin]
  · rw [stN_rest s n i hi (by omega)]
    simp [List.getD, hin]
def wantOf (k : Int) : Nat := if k = 1 ∨ k = 2 then 9 else 6
theorem many_want (x : Ent) : x.many = wantOf x.kind := rfl
/-- The whole of what the reference reads. -/
def rDec (s : List UInt8) : Option (Ent × List UInt8) :=
  match rdN s (stN s 1).1.many with
  | none => none
  | some (zs, u) =>
    if (stN s 1).1.many = 9 then
      if (rTake u).2.2.2 = false ∨ (rTake (rTake u).2.2.1).2.2.2 = false then none
      else
        let x : Ent := { entOf zs with wu := (rTake u).1, wd := bs (rTake u).2.1, iu := (rTake (rTake u).2.2.1).1, ix := bs (rTake (rTake u).2.2.1).2.1 }
        if x.good = true then some (x, (rTake (rTake u).2.2.1).2.2.1) else none
    else if (entOf zs).good = true then some (entOf zs, u) else none
theorem rDec_eq (s : List UInt8) : rDec s = decE s := by
  have hm := many_le (stN s 1).1
  unfold rDec
  rw [rdN_stN s _ hm.2]
  by_cases hb : (stN s (stN s 1).1.many).2.2 = true
  · rw [if_pos hb, decE_bad hb]
  · rw [if_neg hb]
    simp only
    rw [entOf_stN s _ hm.2]
    have hk : (stN s (stN s 1).1.many).1.kind = (stN s 1).1.kind := by
      rw [show (stN s 1).1.many = ((stN s 1).1.many - 1) + 1 by omega]
      exact stN_kind s _
    have hb' : (stN s (stN s 1).1.many).2.2 = false := by simpa using hb
    unfold decE stEnd
    simp only
    rw [hk, hb']
    by_cases h9 : (stN s 1).1.kind = 1 ∨ (stN s 1).1.kind = 2
    · have hm9 : (stN s 1).1.many = 9 := by unfold Ent.many; rw [if_pos h9]
      rw [if_pos h9, if_pos hm9]
      by_cases h1 : (rTake (stN s (stN s 1).1.many).2.1).2.2.2 = true
      · rw [rTake_same h1]
        simp only
        by_cases h2 : (rTake (rTake (stN s (stN s 1).1.many).2.1).2.2.1).2.2.2 = true
        · rw [if_neg (by rw [h1, h2]; simp), rTake_same h2]
          simp only
          split
          · rename_i hg
            rw [if_neg (by rw [hg]; simp)]
          · rename_i hg
            rw [if_pos (.inr (by simpa using hg))]
        · rw [if_pos (.inr (by simpa using h2)), if_pos]
          left
          have := rTake_ok (rTake (stN s (stN s 1).1.many).2.1).2.2.1
          rw [this]
          simpa using h2
      · rw [if_pos (.inl (by simpa using h1)), if_pos]
        left
        have h3 := rTake_ok (stN s (stN s 1).1.many).2.1
        have h4 : (takeSlot (stN s (stN s 1).1.many).2.1 false).2.2.2 = true := by rw [h3]; simpa using h1
        rw [h4]
        exact takeSlot_bad _
    · have hm9 : ¬ (stN s 1).1.many = 9 := by unfold Ent.many; rw [if_neg h9]; omega
      rw [if_neg h9, if_neg hm9, hb']
      split
      · rename_i hg
        rw [if_neg (by rw [hg]; simp)]
      · rename_i hg
        rw [if_pos (.inr (by simpa using hg))]
end Go.Proofs.Ytakdagmkkelnfaa

/-! What comes in, opened: an entry. -/
namespace Go.Proofs.Ytakdagmkkelnfaa
open Go.RowKit Go.ChangeShapes Go.WideShapes Go.Deep Go.Joins
set_option linter.unusedVariables false
set_option linter.unusedSimpArgs false

section
variable {H : Type} {enc : TypeId × Value → H} {w : World} {base : Nat} {spare : Nat → Bool} {held : Bool}
theorem ent_two {P : Program} {t : TypeId} {f0 f1 : Field} {fuel : Nat} {cs : List Value} {x : DataW H × List MemPlace} (ht : P.underlying t = some (.struct #[f0, f1])) (hone : oneCellFields P #[f0, f1] = true) (hC : P.cellsOf t = 2) (h : DataW.trod enc P w base spare held fuel t cs = some x) :
    ∃ v0 v1 y0 y1 n, cs = [v0, v1] ∧ x = (.agg [y0.1, y1.1], y0.2 ++ y1.2) ∧ DataW.trod enc P w base spare held n f0.type [v0] = some y0 ∧ DataW.trod enc P w base spare held n f1.type [v1] = some y1 := by
  obtain ⟨xs, n, _, hx, hcl, hlen, hf⟩ := DataW.trod_struct ht h
  rw [hC] at hcl
  match cs, hcl with
  | [v0, v1], _ =>
    match xs, hlen with
    | [y0, y1], _ =>
      obtain ⟨o0, k0⟩ := hone_of hone 0 f0 rfl
      obtain ⟨o1, k1⟩ := hone_of hone 1 f1 rfl
      have h0 := hf 0 f0 rfl
      have h1 := hf 1 f1 rfl
      rw [o0, k0] at h0
      rw [o1, k1] at h1
      exact ⟨v0, v1, y0, y1, n, rfl, by simpa using hx, by simpa using h0, by simpa using h1⟩
theorem ent_slot {fuel : Nat} {cs : List Value} {x : DataW H × List MemPlace} (h : DataW.trod enc Try.prog w base spare held fuel 62 cs = some x) :
    ∃ (u : Bool) (s : ByteArray), cs = [.bool u, .string s] ∧ x.1 = .agg [.lit (.bool u), .lit (.string s.data.toList)] := by
  obtain ⟨v0, v1, y0, y1, n, rfl, rfl, h0, h1⟩ := ent_two Try.underlying62 (by kernel_rfl) (by kernel_rfl) h
  obtain ⟨b, hb, rfl⟩ := DataW.trod_bool Try.underlying4 h0
  obtain ⟨s, hs, rfl, _⟩ := DataW.trod_string Try.underlying9 h1
  simp at hb hs
  subst hb hs
  exact ⟨b, s, rfl, rfl⟩
theorem ent_three {P : Program} {t : TypeId} {f0 f1 f2 : Field} {fuel : Nat} {cs : List Value} {x : DataW H × List MemPlace} (ht : P.underlying t = some (.struct #[f0, f1, f2])) (hone : oneCellFields P #[f0, f1, f2] = true) (hC : P.cellsOf t = 3) (h : DataW.trod enc P w base spare held fuel t cs = some x) :
    ∃ v0 v1 v2 y0 y1 y2 n, cs = [v0, v1, v2] ∧ x.1 = .agg [y0.1, y1.1, y2.1] ∧ DataW.trod enc P w base spare held n f0.type [v0] = some y0 ∧ DataW.trod enc P w base spare held n f1.type [v1] = some y1 ∧ DataW.trod enc P w base spare held n f2.type [v2] = some y2 := by
  obtain ⟨xs, n, _, hx, hcl, hlen, hf⟩ := DataW.trod_struct ht h
  rw [hC] at hcl
  match cs, hcl with
  | [v0, v1, v2], _ =>
    match xs, hlen with
    | [y0, y1, y2], _ =>
      obtain ⟨o0, k0⟩ := hone_of hone 0 f0 rfl
      obtain ⟨o1, k1⟩ := hone_of hone 1 f1 rfl
      obtain ⟨o2, k2⟩ := hone_of hone 2 f2 rfl
      have h0 := hf 0 f0 rfl
      have h1 := hf 1 f1 rfl
      have h2 := hf 2 f2 rfl
      rw [o0, k0] at h0
      rw [o1, k1] at h1
      rw [o2, k2] at h2
      exact ⟨v0, v1, v2, y0, y1, y2, n, rfl, by rw [hx]; rfl, by simpa using h0, by simpa using h1, by simpa using h2⟩
theorem ent_txn {fuel : Nat} {cs : List Value} {x : DataW H × List MemPlace} (h : DataW.trod enc Try.prog w base spare held fuel 26 cs = some x) :
    ∃ a b c : Int, cs = [.int .i64 a, .int .i64 b, .int .i64 c] ∧ x.1 = .agg [.lit (.int .i64 a), .lit (.int .i64 b), .lit (.int .i64 c)] := by
  obtain ⟨v0, v1, v2, y0, y1, y2, n, rfl, hx, h0, h1, h2⟩ := ent_three Try.underlying26 (by kernel_rfl) (by kernel_rfl) h
  obtain ⟨a, ha, ea, _⟩ := DataW.trod_int Try.underlying3 h0
  obtain ⟨b, hb, eb, _⟩ := DataW.trod_int Try.underlying3 h1
  obtain ⟨c, hc, ec, _⟩ := DataW.trod_int Try.underlying3 h2
  simp at ha hb hc
  subst ha hb hc ea eb ec
  exact ⟨a, b, c, rfl, hx⟩
theorem ent_nine {P : Program} {t : TypeId} {f0 f1 f2 f3 f4 f5 f6 f7 f8 : Field} {fuel : Nat} {cs : List Value} {x : DataW H × List MemPlace} (ht : P.underlying t = some (.struct #[f0, f1, f2, f3, f4, f5, f6, f7, f8])) (hof : [f0, f1, f2, f3, f4, f5, f6, f7, f8].map (fun f => (f.offset, P.cellsOf f.type)) = [(0, 1), (1, 3), (4, 1), (5, 1), (6, 1), (7, 1), (8, 2), (10, 2), (12, 1)]) (hC : P.cellsOf t = 13) (h : DataW.trod enc P w base spare held fuel t cs = some x) :
    ∃ c0 c1 c2 c3 c4 c5 c6 c7 c8 c9 c10 c11 c12 y0 y1 y2 y3 y4 y5 y6 y7 y8 n, cs = [c0, c1, c2, c3, c4, c5, c6, c7, c8, c9, c10, c11, c12] ∧ x.1 = .agg [y0.1, y1.1, y2.1, y3.1, y4.1, y5.1, y6.1, y7.1, y8.1] ∧
      DataW.trod enc P w base spare held n f0.type [c0] = some y0 ∧ DataW.trod enc P w base spare held n f1.type [c1, c2, c3] = some y1 ∧ DataW.trod enc P w base spare held n f2.type [c4] = some y2 ∧ DataW.trod enc P w base spare held n f3.type [c5] = some y3 ∧ DataW.trod enc P w base spare held n f4.type [c6] = some y4 ∧
      DataW.trod enc P w base spare held n f5.type [c7] = some y5 ∧ DataW.trod enc P w base spare held n f6.type [c8, c9] = some y6 ∧ DataW.trod enc P w base spare held n f7.type [c10, c11] = some y7 ∧ DataW.trod enc P w base spare held n f8.type [c12] = some y8 := by
  obtain ⟨xs, n, _, hx, hcl, hlen, hf⟩ := DataW.trod_struct ht h
  rw [hC] at hcl
  simp only [List.map_cons, List.map_nil, List.cons.injEq, Prod.mk.injEq, and_true] at hof
  obtain ⟨⟨o0, k0⟩, ⟨o1, k1⟩, ⟨o2, k2⟩, ⟨o3, k3⟩, ⟨o4, k4⟩, ⟨o5, k5⟩, ⟨o6, k6⟩, ⟨o7, k7⟩, ⟨o8, k8⟩⟩ := hof
  match cs, hcl with
  | [c0, c1, c2, c3, c4, c5, c6, c7, c8, c9, c10, c11, c12], _ =>
    match xs, hlen with
    | [y0, y1, y2, y3, y4, y5, y6, y7, y8], _ =>
      have h0 := hf 0 f0 rfl
      rw [o0, k0] at h0
      simp only [List.drop_succ_cons, List.drop_zero, List.take_succ_cons, List.take_zero] at h0
      have h1 := hf 1 f1 rfl
      rw [o1, k1] at h1
      simp only [List.drop_succ_cons, List.drop_zero, List.take_succ_cons, List.take_zero] at h1
      have h2 := hf 2 f2 rfl
      rw [o2, k2] at h2
      simp only [List.drop_succ_cons, List.drop_zero, List.take_succ_cons, List.take_zero] at h2
      have h3 := hf 3 f3 rfl
      rw [o3, k3] at h3
      simp only [List.drop_succ_cons, List.drop_zero, List.take_succ_cons, List.take_zero] at h3
      have h4 := hf 4 f4 rfl
      rw [o4, k4] at h4
      simp only [List.drop_succ_cons, List.drop_zero, List.take_succ_cons, List.take_zero] at h4
      have h5 := hf 5 f5 rfl
      rw [o5, k5] at h5
      simp only [List.drop_succ_cons, List.drop_zero, List.take_succ_cons, List.take_zero] at h5
      have h6 := hf 6 f6 rfl
      rw [o6, k6] at h6
      simp only [List.drop_succ_cons, List.drop_zero, List.take_succ_cons, List.take_zero] at h6
      have h7 := hf 7 f7 rfl
      rw [o7, k7] at h7
      simp only [List.drop_succ_cons, List.drop_zero, List.take_succ_cons, List.take_zero] at h7
      have h8 := hf 8 f8 rfl
      rw [o8, k8] at h8
      simp only [List.drop_succ_cons, List.drop_zero, List.take_succ_cons, List.take_zero] at h8
      exact ⟨c0, c1, c2, c3, c4, c5, c6, c7, c8, c9, c10, c11, c12, y0, y1, y2, y3, y4, y5, y6, y7, y8, n, rfl, by rw [hx]; rfl, h0, h1, h2, h3, h4, h5, h6, h7, h8⟩
theorem ent_cells {fuel : Nat} {cs : List Value} {x : DataW H × List MemPlace} (h : DataW.trod enc Try.prog w base spare held fuel 64 cs = some x) :
    ∃ e : Ent, cs = e.row.toList ∧ x.1 = .agg [.lit (.int .i64 e.kind), .agg [.lit (.int .i64 e.cl), .lit (.int .i64 e.ep), .lit (.int .i64 e.n)], .lit (.int .i64 e.lsn), .lit (.int .i64 e.prev), .lit (.int .i64 e.page), .lit (.int .i64 e.slot), .agg [.lit (.bool e.wu), .lit (.string e.wd.data.toList)], .agg [.lit (.bool e.iu), .lit (.string e.ix.data.toList)], .lit (.int .i64 e.next)] := by
  obtain ⟨c0, c1, c2, c3, c4, c5, c6, c7, c8, c9, c10, c11, c12, y0, y1, y2, y3, y4, y5, y6, y7, y8, n, rfl, hx, h0, h1, h2, h3, h4, h5, h6, h7, h8⟩ := ent_nine Try.underlying64 (by kernel_rfl) (by kernel_rfl) h
  obtain ⟨k, q0, e0, _⟩ := DataW.trod_int Try.underlying3 h0
  obtain ⟨a, b, c, q1, e1⟩ := ent_txn h1
  obtain ⟨l, q2, e2, _⟩ := DataW.trod_int Try.underlying3 h2
  obtain ⟨p, q3, e3, _⟩ := DataW.trod_int Try.underlying3 h3
  obtain ⟨pg, q4, e4, _⟩ := DataW.trod_int Try.underlying3 h4
  obtain ⟨sl, q5, e5, _⟩ := DataW.trod_int Try.underlying3 h5
  obtain ⟨wu, wd, q6, e6⟩ := ent_slot h6
  obtain ⟨iu, ix, q7, e7⟩ := ent_slot h7
  obtain ⟨nx, q8, e8, _⟩ := DataW.trod_int Try.underlying3 h8
  simp at q0 q1 q2 q3 q4 q5 q6 q7 q8
  obtain ⟨rfl, rfl, rfl⟩ := q1
  obtain ⟨rfl, rfl⟩ := q6
  obtain ⟨rfl, rfl⟩ := q7
  subst q0 q2 q3 q4 q5 q8 e0 e2 e3 e4 e5 e8
  refine ⟨⟨k, a, b, c, l, p, pg, sl, wu, wd, iu, ix, nx⟩, rfl, ?_⟩
  rw [hx, e1, e6, e7]
theorem ent_weights {e : Ent} {d : DataW H} (hd : d = .agg [.lit (.int .i64 e.kind), .agg [.lit (.int .i64 e.cl), .lit (.int .i64 e.ep), .lit (.int .i64 e.n)], .lit (.int .i64 e.lsn), .lit (.int .i64 e.prev), .lit (.int .i64 e.page), .lit (.int .i64 e.slot), .agg [.lit (.bool e.wu), .lit (.string e.wd.data.toList)], .agg [.lit (.bool e.iu), .lit (.string e.ix.data.toList)], .lit (.int .i64 e.next)]) :
    e.wd.data.toList.length ∈ d.weights Try.prog 64 ∧ e.ix.data.toList.length ∈ d.weights Try.prog 64 := by
  subst hd
  simp [DataW.weights, Try.underlying64, Try.underlying62, Try.underlying26, DataW.weightsEach]
theorem ent_sizes {e : Ent} {d : DataW H} (hd : d = .agg [.lit (.int .i64 e.kind), .agg [.lit (.int .i64 e.cl), .lit (.int .i64 e.ep), .lit (.int .i64 e.n)], .lit (.int .i64 e.lsn), .lit (.int .i64 e.prev), .lit (.int .i64 e.page), .lit (.int .i64 e.slot), .agg [.lit (.bool e.wu), .lit (.string e.wd.data.toList)], .agg [.lit (.bool e.iu), .lit (.string e.ix.data.toList)], .lit (.int .i64 e.next)])
    (hw : ∀ n ∈ d.weights Try.prog 64, n ≤ reachBytes) : e.wd.size ≤ 140737488351232 ∧ e.ix.size ≤ 140737488351232 := by
  obtain ⟨a, b⟩ := ent_weights hd
  have a' := hw _ a
  have b' := hw _ b
  have e1 : e.wd.data.toList.length = e.wd.size := Array.length_toList
  have e2 : e.ix.data.toList.length = e.ix.size := Array.length_toList
  unfold reachBytes at a' b'
  omega
/-- An entry that came in. -/
theorem open_entry {r : Reach} {b0 : Nat} {v : Value} {d : DataW H} {p : List MemPlace} (hv : Value.okWide Try.prog w r b0 64 v) (h : DataW.Trod enc Try.prog w base spare held 64 v d p) (hw : ∀ n ∈ d.weights Try.prog 64, n ≤ reachBytes) :
    ∃ x : Ent, v = x.val ∧ x.wd.size ≤ 140737488351232 ∧ x.ix.size ≤ 140737488351232 := by
  obtain ⟨cs, rfl, hsz⟩ := okWide_struct Try.underlying64 hv
  obtain ⟨fuel, hf⟩ := h
  obtain ⟨e, he, hd⟩ := ent_cells hf
  have he' : cs.toList = e.row.toList := he
  have e1 := ent_sizes hd hw
  refine ⟨e, ?_, e1⟩
  unfold Ent.val
  congr 1
  exact Array.toList_inj.1 he'
end
end Go.Proofs.Ytakdagmkkelnfaa

/-! A slice of entries that came in; entries gathered in a slice. -/
namespace Go.Proofs.Ytakdagmkkelnfaa
open Go.RowKit Go.ChangeShapes Go.WideShapes Go.Deep Go.Joins
set_option linter.unusedVariables false
set_option linter.unusedSimpArgs false

/-- A slice of entries: nil, or a row of them. -/
structure IsEnts (w : World) (A : Option Addr) (n c : Nat) (l : List Ent) : Prop where
  len : l.length = n
  cap : n ≤ c
  most : c ≤ 9223372036854775807
  small : ∀ x ∈ l, x.wd.size ≤ 140737488351232 ∧ x.ix.size ≤ 140737488351232
  row : 0 < n → ∃ b off, A = some ⟨b, off, none⟩ ∧ b < w.heap.size ∧ ∀ i x, l[i]? = some x → ∀ (j : Nat) v, x.row[j]? = some v → w.cell? ⟨b, off + i * 13 + j, none⟩ = some v
theorem IsEnts.nil (w : World) : IsEnts w Option.none 0 0 [] := ⟨rfl, by omega, by omega, by simp, by omega⟩
theorem IsEnts.below {w w' : World} {A : Option Addr} {n c : Nat} {l : List Ent} (h : IsEnts w A n c l) (hb : Below w.heap.size w w') : IsEnts w' A n c l := by
  refine ⟨h.len, h.cap, h.most, h.small, fun hn => ?_⟩
  obtain ⟨b, off, hA, hlt, hc⟩ := h.row hn
  exact ⟨b, off, hA, Nat.lt_of_lt_of_le hlt hb.size, fun i x hx j v hv => (hb.cell (p := ⟨b, off + i * 13 + j, none⟩) hlt).trans (hc i x hx j v hv)⟩
theorem IsEnts.drew {w : World} {A : Option Addr} {n c : Nat} {l : List Ent} (h : IsEnts w A n c l) : IsEnts w.drew A n c l := h.below ((Below.refl _ w).drew)
/-- The cells of an entry from a place on. -/
structure EntIn (w : World) (b o : Nat) (k c e n l p pg sl : Int) (wu : Bool) (wd : ByteArray) (iu : Bool) (ix : ByteArray) (nx : Int) : Prop where
  a0 : w.cell? ⟨b, o, none⟩ = some (.int .i64 k)
  a1 : w.cell? ⟨b, o + 1, none⟩ = some (.int .i64 c)
  a2 : w.cell? ⟨b, o + 2, none⟩ = some (.int .i64 e)
  a3 : w.cell? ⟨b, o + 3, none⟩ = some (.int .i64 n)
  a4 : w.cell? ⟨b, o + 4, none⟩ = some (.int .i64 l)
  a5 : w.cell? ⟨b, o + 5, none⟩ = some (.int .i64 p)
  a6 : w.cell? ⟨b, o + 6, none⟩ = some (.int .i64 pg)
  a7 : w.cell? ⟨b, o + 7, none⟩ = some (.int .i64 sl)
  a8 : w.cell? ⟨b, o + 8, none⟩ = some (.bool wu)
  a9 : w.cell? ⟨b, o + 9, none⟩ = some (.string wd)
  a10 : w.cell? ⟨b, o + 10, none⟩ = some (.bool iu)
  a11 : w.cell? ⟨b, o + 11, none⟩ = some (.string ix)
  a12 : w.cell? ⟨b, o + 12, none⟩ = some (.int .i64 nx)
theorem EntIn.of {w : World} {b o : Nat} {k c e n l p pg sl : Int} {wu : Bool} {wd : ByteArray} {iu : Bool} {ix : ByteArray} {nx : Int}
    (h : ∀ (j : Nat) v, (Ent.row ⟨k, c, e, n, l, p, pg, sl, wu, wd, iu, ix, nx⟩)[j]? = some v → w.cell? ⟨b, o + j, none⟩ = some v) : EntIn w b o k c e n l p pg sl wu wd iu ix nx :=
  ⟨h 0 _ rfl, h 1 _ rfl, h 2 _ rfl, h 3 _ rfl, h 4 _ rfl, h 5 _ rfl, h 6 _ rfl, h 7 _ rfl, h 8 _ rfl, h 9 _ rfl, h 10 _ rfl, h 11 _ rfl, h 12 _ rfl⟩
theorem IsEnts.at {w : World} {A : Option Addr} {n c : Nat} {l : List Ent} (h : IsEnts w A n c l) {i : Nat} {x : Ent} (hx : l[i]? = some x) :
    ∃ b off, A = some ⟨b, off, none⟩ ∧ EntIn w b (off + i * 13) x.kind x.cl x.ep x.n x.lsn x.prev x.page x.slot x.wu x.wd x.iu x.ix x.next := by
  have hi : i < l.length := (List.getElem?_eq_some_iff.1 hx).1
  obtain ⟨b, off, hA, _, hc⟩ := h.row (by have := h.len; omega)
  exact ⟨b, off, hA, EntIn.of (fun j v hv => hc i x hx j v hv)⟩
theorem IsEnts.here {w : World} {A : Option Addr} {n c : Nat} {l : List Ent} (h : IsEnts w A n c l) {i : Nat} {x : Ent} (hx : l[i]? = some x) :
    ∃ b off, A = some ⟨b, off, none⟩ ∧ b < w.heap.size ∧ EntIn w b (off + i * 13) x.kind x.cl x.ep x.n x.lsn x.prev x.page x.slot x.wu x.wd x.iu x.ix x.next := by
  have hi : i < l.length := (List.getElem?_eq_some_iff.1 hx).1
  obtain ⟨b, off, hA, hl, hc⟩ := h.row (by have := h.len; omega)
  exact ⟨b, off, hA, hl, EntIn.of (fun j v hv => hc i x hx j v hv)⟩
theorem EntIn.below {w w' : World} {b o : Nat} {k c e n l p pg sl : Int} {wu : Bool} {wd : ByteArray} {iu : Bool} {ix : ByteArray} {nx : Int} (h : EntIn w b o k c e n l p pg sl wu wd iu ix nx) (hlt : b < w.heap.size) (hb : Below w.heap.size w w') : EntIn w' b o k c e n l p pg sl wu wd iu ix nx := by
  have g : ∀ i, w'.cell? ⟨b, i, none⟩ = w.cell? ⟨b, i, none⟩ := fun i => hb.cell (p := ⟨b, i, none⟩) hlt
  exact ⟨(g _).trans h.a0, (g _).trans h.a1, (g _).trans h.a2, (g _).trans h.a3, (g _).trans h.a4, (g _).trans h.a5, (g _).trans h.a6, (g _).trans h.a7, (g _).trans h.a8, (g _).trans h.a9, (g _).trans h.a10, (g _).trans h.a11, (g _).trans h.a12⟩
section
variable {H : Type} {enc : TypeId × Value → H} {w : World} {base : Nat} {spare : Nat → Bool} {held : Bool}
theorem ent_all_weight {P : Program} {e : TypeId} {ds : List (DataW H)} {d : DataW H} (hd : d ∈ ds) {n : Nat} (hn : n ∈ d.weights P e) : n ∈ DataW.weightsAll P e ds := by
  induction ds with
  | nil => cases hd
  | cons a r ih =>
    simp only [DataW.weightsAll, List.mem_append]
    rcases List.mem_cons.1 hd with rfl | h
    · exact .inl hn
    · exact .inr (ih h)
theorem open_ents {fuel : Nat} {cs : List Value} {x : DataW H × List MemPlace} (h : DataW.trod enc Try.prog w base spare held fuel 30 cs = some x) (hw : ∀ n ∈ x.1.weights Try.prog 30, n ≤ reachBytes) :
    ∃ A n c l, cs = [.slice A n c] ∧ IsEnts w A n c l := by
  rcases open_slice Try.underlying30 h with ⟨rfl, _⟩ | ⟨a, len, cap, m, n, D, Pl, rfl, hb, hl, hm, hmm, rfl, hi⟩
  · exact ⟨none, 0, 0, [], rfl, IsEnts.nil w⟩
  · have hC : Try.prog.cellsOf 64 = 13 := by kernel_rfl
    rw [hC] at hi
    have hlm : len ≤ m := by rw [hmm]; split <;> omega
    have key : ∀ i, i < len → ∃ x : Ent, (∀ (j : Nat) v, x.row[j]? = some v → w.cell? (a.add (i * 13 + j)) = some v) ∧ x.wd.size ≤ 140737488351232 ∧ x.ix.size ≤ 140737488351232 := by
      intro i hil
      obtain ⟨cs', hc, ht⟩ := hi i (by omega)
      obtain ⟨e, rfl, hD⟩ := ent_cells ht
      obtain ⟨_, _, hat⟩ := World.cells?_some hc
      have hD' : D i = .agg [.lit (.int .i64 e.kind), .agg [.lit (.int .i64 e.cl), .lit (.int .i64 e.ep), .lit (.int .i64 e.n)], .lit (.int .i64 e.lsn), .lit (.int .i64 e.prev), .lit (.int .i64 e.page), .lit (.int .i64 e.slot), .agg [.lit (.bool e.wu), .lit (.string e.wd.data.toList)], .agg [.lit (.bool e.iu), .lit (.string e.ix.data.toList)], .lit (.int .i64 e.next)] := hD
      have hDi : D i ∈ (List.range len).map D := List.mem_map.2 ⟨i, List.mem_range.2 hil, rfl⟩
      refine ⟨e, ?_, ent_sizes hD' ?_⟩
      · intro j v hv
        have hj : j < 13 := (Array.getElem?_eq_some_iff.1 hv).1
        have c0 := hat j hj
        rw [Go.Deep.add_add] at c0
        rw [c0]
        simpa using hv
      · intro k hk
        exact hw k (by
          simp only [DataW.weights, Try.underlying30, List.mem_cons, List.mem_append]
          exact .inr (.inl (ent_all_weight hDi hk)))
    by_cases h0 : len = 0
    · subst h0
      exact ⟨some a, 0, cap, [], rfl, rfl, by omega, by unfold maxLen at hm; omega, by simp, by omega⟩
    · obtain ⟨x0, hx0, _⟩ := key 0 (by omega)
      have hx00 := hx0 0 _ rfl
      have hsp : a.spot = none := by simpa [Addr.add] using World.cell?_spot hx00
      obtain ⟨b, off, sp⟩ := a
      simp only at hsp
      subst hsp
      have ea : ∀ j, (⟨b, off, none⟩ : Addr).add j = ⟨b, off + j, none⟩ := by intro j; unfold Addr.add; split <;> simp_all
      obtain ⟨f, hf⟩ : ∃ f : Nat → Ent, ∀ i, i < len → (∀ (j : Nat) v, (f i).row[j]? = some v → w.cell? ((⟨b, off, none⟩ : Addr).add (i * 13 + j)) = some v) ∧ (f i).wd.size ≤ 140737488351232 ∧ (f i).ix.size ≤ 140737488351232 := by
        refine ⟨fun i => if hi : i < len then Classical.choose (key i hi) else Ent.zero, fun i hi => ?_⟩
        simp only [hi, dite_true]
        exact Classical.choose_spec (key i hi)
      refine ⟨_, len, cap, (List.range len).map f, rfl, by simp, hl, by unfold maxLen at hm; omega, ?_, fun _ => ⟨b, off, rfl, ?_, ?_⟩⟩
      · intro x hx
        obtain ⟨i, hi, rfl⟩ := List.mem_map.1 hx
        exact (hf i (List.mem_range.1 hi)).2
      · exact block_lt_of_cell hx00
      · intro i x hx j v hv
        have hil : i < len := by have := (List.getElem?_eq_some_iff.1 hx).1; simpa using this
        have hxf : x = f i := by simp [hil] at hx; exact hx.symm
        subst hxf
        have h1 := (hf i hil).1 j v hv
        rw [ea] at h1
        rw [← h1]; congr 2; omega
/-- A slice of entries that came in. -/
theorem open_entries {r : Reach} {b0 : Nat} {v : Value} {d : DataW H} {p : List MemPlace} (hv : Value.okWide Try.prog w r b0 30 v) (h : DataW.Trod enc Try.prog w base spare held 30 v d p) (hw : ∀ n ∈ d.weights Try.prog 30, n ≤ reachBytes) :
    ∃ A n c l, v = .slice A n c ∧ IsEnts w A n c l := by
  obtain ⟨a, len, cap, rfl⟩ := okWide_slice Try.underlying30 hv
  obtain ⟨fuel, hf⟩ := h
  obtain ⟨A, n, c, l, hc, I⟩ := open_ents hf hw
  simp [Value.cells] at hc
  obtain ⟨rfl, rfl, rfl⟩ := hc
  exact ⟨_, _, _, l, rfl, I⟩
end
/-- The cells of entries. -/
def flatE (l : List Ent) : List Value := l.flatMap fun x => x.row.toList
theorem flatE_append (a b : List Ent) : flatE (a ++ b) = flatE a ++ flatE b := by simp [flatE]
theorem row_len (x : Ent) : x.row.toList.length = 13 := rfl
theorem flatE_len (l : List Ent) : (flatE l).length = l.length * 13 := by
  induction l with
  | nil => rfl
  | cons a l ih =>
    show (a.row.toList ++ flatE l).length = _
    rw [List.length_append, row_len, ih, List.length_cons]; omega
theorem flatE_get : ∀ (l : List Ent) (i : Nat) (x : Ent), l[i]? = some x → ∀ (j : Nat) v, x.row[j]? = some v → (flatE l)[i * 13 + j]? = some v
  | [], i, x, h => by simp at h
  | a :: l, 0, x, h => by
    intro j v hv
    simp at h
    subst h
    have hj : j < 13 := (Array.getElem?_eq_some_iff.1 hv).1
    show (a.row.toList ++ flatE l)[0 * 13 + j]? = _
    rw [List.getElem?_append_left (by rw [row_len]; omega), show 0 * 13 + j = j by omega]
    simpa using hv
  | a :: l, i + 1, x, h => by
    intro j v hv
    have h2 := flatE_get l i x (by simpa using h) j v hv
    show (a.row.toList ++ flatE l)[(i + 1) * 13 + j]? = _
    rw [List.getElem?_append_right (by rw [row_len]; omega), row_len, show (i + 1) * 13 + j - 13 = i * 13 + j by omega]
    exact h2
theorem entElem : Elem Try.prog 30 64 13 120 Ent.zero.val := ⟨Try.underlying30, by kernel_rfl, rfl, by omega⟩
def RowE (base : Nat) (w : World) (v : Value) (q : List Ent) : Prop := w.ownsRow base 64 13 v q.length (flatE q)
theorem RowE.at {base : Nat} {w : World} {g n cap : Nat} {q : List Ent} (h : RowE base w (.slice (some ⟨g, 0, none⟩) n cap) q) (hn : n = q.length) {i : Nat} {x : Ent} (hx : q[i]? = some x) :
    EntIn w g (i * 13) x.kind x.cl x.ep x.n x.lsn x.prev x.page x.slot x.wu x.wd x.iu x.ix x.next := by
  subst hn
  have hi : i < q.length := (List.getElem?_eq_some_iff.1 hx).1
  refine EntIn.of (fun j v hv => ?_)
  have hj : j < 13 := (Array.getElem?_eq_some_iff.1 hv).1
  rw [World.ownsRow.cellAt h (i * 13 + j) (by omega)]
  exact flatE_get q i x hx j v hv
theorem RowE.empty (base : Nat) (w : World) (hb : base ≤ w.heap.size) : RowE base (w.alloc (.cells #[] 64)) (.slice (some ⟨w.heap.size, 0, none⟩) 0 0) [] := by
  have := World.ownsRow_lit (base := base) (e := 64) (size := 13) w #[] 0 hb (by unfold maxLen; omega) rfl
  exact this
end Go.Proofs.Ytakdagmkkelnfaa
