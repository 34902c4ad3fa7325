/-
  The plain law of entries: what is written is read as itself, what is read is written as itself.
-/
import Derived.Test.YteknaeemjgpgbaaEntDecDef
namespace Go.Proofs.Yteknaeemjgpgbaa
open Go.RowKit Go.Sort NibPure

theorem num_setNum (x : Ent) (i j : Nat) (hi : i < 9) (hj : j < 9) (n : Int) : (x.setNum j n).num i = if i = j then n else x.num i := by
  match i, hi with
  | 0, _ => match j, hj with | 0, _ => rfl | 1, _ => rfl | 2, _ => rfl | 3, _ => rfl | 4, _ => rfl | 5, _ => rfl | 6, _ => rfl | 7, _ => rfl | 8, _ => rfl
  | 1, _ => match j, hj with | 0, _ => rfl | 1, _ => rfl | 2, _ => rfl | 3, _ => rfl | 4, _ => rfl | 5, _ => rfl | 6, _ => rfl | 7, _ => rfl | 8, _ => rfl
  | 2, _ => match j, hj with | 0, _ => rfl | 1, _ => rfl | 2, _ => rfl | 3, _ => rfl | 4, _ => rfl | 5, _ => rfl | 6, _ => rfl | 7, _ => rfl | 8, _ => rfl
  | 3, _ => match j, hj with | 0, _ => rfl | 1, _ => rfl | 2, _ => rfl | 3, _ => rfl | 4, _ => rfl | 5, _ => rfl | 6, _ => rfl | 7, _ => rfl | 8, _ => rfl
  | 4, _ => match j, hj with | 0, _ => rfl | 1, _ => rfl | 2, _ => rfl | 3, _ => rfl | 4, _ => rfl | 5, _ => rfl | 6, _ => rfl | 7, _ => rfl | 8, _ => rfl
  | 5, _ => match j, hj with | 0, _ => rfl | 1, _ => rfl | 2, _ => rfl | 3, _ => rfl | 4, _ => rfl | 5, _ => rfl | 6, _ => rfl | 7, _ => rfl | 8, _ => rfl
  | 6, _ => match j, hj with | 0, _ => rfl | 1, _ => rfl | 2, _ => rfl | 3, _ => rfl | 4, _ => rfl | 5, _ => rfl | 6, _ => rfl | 7, _ => rfl | 8, _ => rfl
  | 7, _ => match j, hj with | 0, _ => rfl | 1, _ => rfl | 2, _ => rfl | 3, _ => rfl | 4, _ => rfl | 5, _ => rfl | 6, _ => rfl | 7, _ => rfl | 8, _ => rfl
  | 8, _ => match j, hj with | 0, _ => rfl | 1, _ => rfl | 2, _ => rfl | 3, _ => rfl | 4, _ => rfl | 5, _ => rfl | 6, _ => rfl | 7, _ => rfl | 8, _ => rfl
theorem nums_setNum (x : Ent) (n j : Nat) (hn : n ≤ j) (hj : j < 9) (v : Int) : (x.setNum j v).nums n = x.nums n := by
  induction n with
  | zero => rfl
  | succ n ih =>
    rw [Ent.nums_succ, Ent.nums_succ, ih (by omega), num_setNum x n j (by omega) hj, if_neg (by omega)]
theorem nums_split (x : Ent) (n m : Nat) (h : n ≤ m) : ∃ v, x.nums m = x.nums n ++ v := by
  induction m with
  | zero => exact ⟨[], by rw [show n = 0 by omega]; simp⟩
  | succ m ih =>
    by_cases e : n = m + 1
    · exact ⟨[], by rw [e]; simp⟩
    · obtain ⟨v, hv⟩ := ih (by omega)
      exact ⟨v ++ enc (x.num m), by rw [Ent.nums_succ, hv, List.append_assoc]⟩
def Ent.upTo (x : Ent) : Nat → Ent
  | 0 => Ent.zero
  | n + 1 => (x.upTo n).setNum n (x.num n)
theorem takeI_enc {n : Int} (h1 : -9223372036854775808 ≤ n) (h2 : n ≤ 9223372036854775807) (r : List UInt8) : takeI (enc n ++ r) = (n, r, true) := by
  unfold takeI
  rw [dec_enc h1 h2]
theorem stN_enc (x : Ent) (m : Nat) (hm : m ≤ 9) (hb : ∀ i, i < 9 → 0 ≤ x.num i ∧ x.num i ≤ 1099511627776) (t : List UInt8) (n : Nat) (hn : n ≤ m) :
    ∃ u, x.nums m ++ t = x.nums n ++ u ∧ stN (x.nums m ++ t) n = (x.upTo n, u, false) := by
  induction n with
  | zero => exact ⟨x.nums m ++ t, rfl, rfl⟩
  | succ n ih =>
    obtain ⟨u, hu, hs⟩ := ih (by omega)
    obtain ⟨v, hv⟩ := nums_split x (n + 1) m hn
    have hb2 := hb n (by omega)
    have e : u = enc (x.num n) ++ (v ++ t) := by
      have h2 := hu
      rw [hv, Ent.nums_succ, List.append_assoc, List.append_assoc] at h2
      exact (List.append_cancel_left h2).symm
    refine ⟨v ++ t, by rw [hv]; simp, ?_⟩
    show ((stN (x.nums m ++ t) n).1.setNum n _, _, _) = _
    rw [hs, e, takeI_enc (by omega) (by omega)]
    rfl
theorem stN_enc_end (x : Ent) (m : Nat) (hm : m ≤ 9) (hb : ∀ i, i < 9 → 0 ≤ x.num i ∧ x.num i ≤ 1099511627776) (t : List UInt8) : stN (x.nums m ++ t) m = (x.upTo m, t, false) := by
  obtain ⟨u, hu, hs⟩ := stN_enc x m hm hb t m (Nat.le_refl _)
  rw [hs, List.append_cancel_left hu]
theorem takeSlot_enc (u : Bool) (d : ByteArray) (h : slotB u d = true) (r : List UInt8) : takeSlot (slotEnc u d.data.toList ++ r) false = (u, d.data.toList, r, false) := by
  have hl : d.data.toList.length = d.size := Array.length_toList
  simp only [slotB, Bool.and_eq_true, Bool.or_eq_true, decide_eq_true_eq] at h
  obtain ⟨h1, h2⟩ := h
  cases u with
  | false =>
    have h0 : d.data.toList = [] := by
      rcases h2 with h2 | h2
      · cases h2
      · rw [ByteArray.toList_eq] at h2; exact List.isEmpty_iff.1 h2
    unfold takeSlot slotEnc
    simp only [Bool.false_eq_true, if_false]
    rw [takeI_enc (by omega) (by omega), h0]
    rfl
  | true =>
    unfold takeSlot slotEnc
    simp only [if_true]
    rw [List.append_assoc, takeI_enc (by omega) (by omega)]
    simp only
    rw [if_neg (by omega)]
    simp only [if_true]
    have hd : decS 200 (encS d.data.toList ++ r) = some (d.data.toList, r) := by
      unfold decS encS
      rw [List.append_assoc, dec_enc (by omega) (by omega)]
      simp only
      rw [if_pos (by simp; omega)]
      simp
    unfold takeS
    rw [hd]
    rfl
theorem good_slots (x : Ent) (h : x.good = true) : slotB x.wu x.wd = true ∧ slotB x.iu x.ix = true := by
  have hz : ∀ d : ByteArray, d.toList.isEmpty = true → d.size = 0 := by
    intro d hd
    rw [ByteArray.toList_eq] at hd
    have := List.isEmpty_iff.1 hd
    have e : d.data.toList.length = d.size := Array.length_toList
    rw [this] at e
    exact e.symm
  simp only [Ent.good, Bool.and_eq_true] at h
  obtain ⟨_, h⟩ := h
  split at h
  · simp only [Ent.changeB, Bool.and_eq_true] at h; exact h.1.2.2
  · split at h
    · simp only [Ent.changeB, Bool.and_eq_true] at h; exact h.1.2.2
    · split at h
      · simp only [Ent.plainB, Bool.and_eq_true] at h
        have a := hz _ h.2.1
        have b := hz _ h.2.2
        simp [slotB, a, b, h.2.1, h.2.2]
      · cases h
theorem good_plain (x : Ent) (h : x.good = true) (hk : ¬ (x.kind = 1 ∨ x.kind = 2)) : x = x.upTo 6 := by
  have hz : ∀ d : ByteArray, d.toList.isEmpty = true → d = ⟨#[]⟩ := by
    intro d hd
    rw [ByteArray.toList_eq] at hd
    have := List.isEmpty_iff.1 hd
    apply ByteArray.ext
    apply Array.ext'
    rw [this]
  obtain ⟨k, c, e, n, l, p, pg, sl, wu, wd, iu, ix, nx⟩ := x
  simp only [Ent.good, Bool.and_eq_true] at h
  obtain ⟨_, h⟩ := h
  rw [if_neg (fun e => hk (.inl e)), if_neg (fun e => hk (.inr e))] at h
  split at h
  · simp only [Ent.plainB, Bool.and_eq_true, decide_eq_true_eq] at h
    obtain ⟨⟨rfl, rfl, rfl, rfl, rfl⟩, h1, h2⟩ := h
    rw [hz _ h1, hz _ h2]
    rfl
  · cases h
theorem upTo_nine (x : Ent) : x.upTo 9 = ⟨x.kind, x.cl, x.ep, x.n, x.lsn, x.prev, x.page, x.slot, false, ⟨#[]⟩, false, ⟨#[]⟩, x.next⟩ := by
  cases x
  simp [Ent.upTo, Ent.setNum, Ent.num, Ent.zero]
theorem stN_zero_kind (x : Ent) (t : List UInt8) (m : Nat) (h1 : 1 ≤ m) (hm : m ≤ 9) (hb : ∀ i, i < 9 → 0 ≤ x.num i ∧ x.num i ≤ 1099511627776) : (stN (x.nums m ++ t) 1).1.kind = x.kind := by
  obtain ⟨u, _, hs⟩ := stN_enc x m hm hb t 1 h1
  rw [hs]; rfl
theorem many_le (x : Ent) : 6 ≤ x.many ∧ x.many ≤ 9 := by unfold Ent.many; split <;> omega
theorem many_kind {x y : Ent} (h : x.kind = y.kind) : x.many = y.many := by unfold Ent.many; rw [h]
/-- What is written is read as itself, and what stands behind it is left. -/
theorem decE_bytes (x : Ent) (h : x.good = true) (r : List UInt8) : decE (x.bytes ++ r) = some (x, r) := by
  obtain ⟨hb, hk1, hk4, _, _⟩ := good_facts x h
  have hm := many_le x
  obtain ⟨s1, s2⟩ := good_slots x h
  have hE : stEnd (x.bytes ++ r) = (x, r, false) := by
    unfold stEnd Ent.bytes
    simp only
    rw [List.append_assoc, many_kind (stN_zero_kind x (x.tail ++ r) x.many (by omega) hm.2 hb), stN_enc_end x x.many hm.2 hb]
    simp only
    have hkk : (x.upTo x.many).kind = x.kind := by
      have := stN_zero_kind x (x.tail ++ r) x.many (by omega) hm.2 hb
      have e : x.many = (x.many - 1) + 1 := by omega
      have h2 := stN_kind (x.nums x.many ++ (x.tail ++ r)) (x.many - 1)
      rw [← e, stN_enc_end x x.many hm.2 hb, this] at h2
      exact h2
    rw [hkk]
    by_cases hk : x.kind = 1 ∨ x.kind = 2
    · rw [if_pos hk]
      have ht : x.tail = slotEnc x.wu x.wd.data.toList ++ slotEnc x.iu x.ix.data.toList := by unfold Ent.tail; rw [if_pos (by omega)]
      rw [ht, List.append_assoc, takeSlot_enc _ _ s1]
      simp only
      rw [takeSlot_enc _ _ s2]
      simp only
      have e : x.many = 9 := by unfold Ent.many; rw [if_pos hk]
      rw [e]
      rw [bs_self, bs_self, upTo_nine]
    · rw [if_neg hk]
      have ht : x.tail = [] := by unfold Ent.tail; rw [if_neg (by omega)]
      have e : x.many = 6 := by unfold Ent.many; rw [if_neg hk]
      rw [ht, e, ← good_plain x h hk]
      rfl
  unfold decE
  rw [hE]
  simp [h]

theorem takeI_ok {r : List UInt8} (h : (takeI r).2.2 = true) : enc (takeI r).1 ++ (takeI r).2.1 = r := by
  unfold takeI at *
  cases hd : dec r with
  | none => rw [hd] at h; cases h
  | some p => obtain ⟨n, r'⟩ := p; exact (enc_dec hd).1
theorem takeS_ok {r : List UInt8} (h : (takeS r).2.2 = true) : encS (takeS r).1 ++ (takeS r).2.1 = r ∧ (takeS r).1.length ≤ 200 := by
  unfold takeS at *
  cases hd : decS 200 r with
  | none => rw [hd] at h; cases h
  | some p =>
    obtain ⟨t, r'⟩ := p
    simp only
    unfold decS at hd
    cases he : dec r with
    | none => rw [he] at hd; cases hd
    | some q =>
      obtain ⟨n, u⟩ := q
      rw [he] at hd
      simp only at hd
      split at hd
      · rename_i hn
        simp at hd
        obtain ⟨rfl, rfl⟩ := hd
        have h1 := (enc_dec he).1
        refine ⟨?_, by simp; omega⟩
        unfold encS
        rw [List.append_assoc, List.take_append_drop, List.length_take, show ((min n.toNat u.length : Nat) : Int) = n by omega]
        exact h1
      · cases hd
theorem takeSlot_ok {r : List UInt8} {bad : Bool} (h : (takeSlot r bad).2.2.2 = false) : bad = false ∧ slotEnc (takeSlot r bad).1 (takeSlot r bad).2.1 ++ (takeSlot r bad).2.2.1 = r := by
  unfold takeSlot at *
  split at h
  · rename_i h0
    rw [if_pos h0]
    simp at h
    refine ⟨h.1, ?_⟩
    have := takeI_ok h.2
    rw [h0] at this
    exact this
  · rename_i h0
    rw [if_neg h0]
    split at h
    · rename_i h1
      rw [if_pos h1]
      simp at h
      refine ⟨h.1.1, ?_⟩
      have a := takeI_ok h.1.2
      have b := (takeS_ok h.2).1
      rw [h1] at a
      simp only [slotEnc, if_true]
      rw [List.append_assoc, b]
      exact a
    · cases h
theorem stN_ok (s : List UInt8) (n : Nat) (hn : n ≤ 9) (h : (stN s n).2.2 = false) : (stN s n).1.nums n ++ (stN s n).2.1 = s := by
  induction n with
  | zero => rfl
  | succ n ih =>
    have e : stN s (n + 1) = ((stN s n).1.setNum n (takeI (stN s n).2.1).1, (takeI (stN s n).2.1).2.1, (stN s n).2.2 || !(takeI (stN s n).2.1).2.2) := rfl
    rw [e] at h ⊢
    simp at h
    have h1 := ih (by omega) h.1
    have h2 := takeI_ok h.2
    rw [Ent.nums_succ, nums_setNum _ _ _ (Nat.le_refl _) (by omega), num_setNum _ _ _ (by omega) (by omega), if_pos rfl, List.append_assoc, h2]
    exact h1
theorem nums_slots (x : Ent) (a b : Bool) (c d : ByteArray) (n : Nat) : ({ x with wu := a, wd := c, iu := b, ix := d } : Ent).nums n = x.nums n := by
  induction n with
  | zero => rfl
  | succ n ih =>
    rw [Ent.nums_succ, Ent.nums_succ, ih]
    congr 2
/-- What is read, written again, is what was read. -/
theorem bytes_decE {s : List UInt8} {x : Ent} {r : List UInt8} (h : decE s = some (x, r)) : x.good = true ∧ x.bytes ++ r = s := by
  unfold decE at h
  split at h
  · cases h
  · rename_i hn
    simp only [Option.some.injEq, Prod.mk.injEq] at h
    obtain ⟨rfl, rfl⟩ := h
    have hbad : (stEnd s).2.2 = false := by
      cases hb : (stEnd s).2.2 with
      | false => rfl
      | true => exact absurd (.inl hb) hn
    have hg : (stEnd s).1.good = true := by
      cases hb : (stEnd s).1.good with
      | true => rfl
      | false => exact absurd (.inr hb) hn
    refine ⟨hg, ?_⟩
    have hkind := (good_facts _ hg).2
    clear hn
    have hm := many_le (stN s 1).1
    have hk : (stN s (stN s 1).1.many).1.kind = (stN s 1).1.kind := by
      rw [show (stN s 1).1.many = ((stN s 1).1.many - 1) + 1 by omega]
      exact stN_kind s _
    unfold stEnd at hbad hkind ⊢
    simp only at hbad hkind ⊢
    by_cases h2 : (stN s (stN s 1).1.many).1.kind = 1 ∨ (stN s (stN s 1).1.many).1.kind = 2
    · rw [if_pos h2] at hbad hkind ⊢
      simp only at hbad hkind ⊢
      obtain ⟨a1, a2⟩ := takeSlot_ok hbad
      obtain ⟨b1, b2⟩ := takeSlot_ok a1
      have c := stN_ok s _ hm.2 b1
      unfold Ent.bytes Ent.tail
      simp only
      rw [if_pos (by omega), nums_slots]
      rw [show ({ (stN s (stN s 1).1.many).1 with wu := (takeSlot (stN s (stN s 1).1.many).2.1 (stN s (stN s 1).1.many).2.2).1, wd := bs (takeSlot (stN s (stN s 1).1.many).2.1 (stN s (stN s 1).1.many).2.2).2.1, iu := (takeSlot (takeSlot (stN s (stN s 1).1.many).2.1 (stN s (stN s 1).1.many).2.2).2.2.1 (takeSlot (stN s (stN s 1).1.many).2.1 (stN s (stN s 1).1.many).2.2).2.2.2).1, ix := bs (takeSlot (takeSlot (stN s (stN s 1).1.many).2.1 (stN s (stN s 1).1.many).2.2).2.2.1 (takeSlot (stN s (stN s 1).1.many).2.1 (stN s (stN s 1).1.many).2.2).2.2.2).2.1 } : Ent).many = (stN s 1).1.many from many_kind hk]
      rw [bs_data, bs_data, List.append_assoc, List.append_assoc, a2, b2]
      exact c
    · rw [if_neg h2] at hbad hkind ⊢
      have c := stN_ok s _ hm.2 hbad
      unfold Ent.bytes Ent.tail
      rw [if_neg (by omega), List.append_nil, many_kind hk]
      exact c
/-- No entry's bytes begin with another one's. -/
theorem bytes_prefix {x y : Ent} (hx : x.good = true) (hy : y.good = true) {r t : List UInt8} (h : x.bytes ++ r = y.bytes ++ t) : x = y := by
  have h1 := decE_bytes x hx r
  rw [h, decE_bytes y hy t] at h1
  simp at h1
  exact h1.1.symm
theorem decE_cut {x : Ent} (hx : x.good = true) (k : Nat) (hk : k < x.bytes.length) : decE (x.bytes.take k) = none := by
  cases h : decE (x.bytes.take k) with
  | none => rfl
  | some p =>
    obtain ⟨y, r⟩ := p
    obtain ⟨h1, h2⟩ := bytes_decE h
    have h4 : y.bytes ++ (r ++ x.bytes.drop k) = x.bytes ++ [] := by rw [← List.append_assoc, h2]; simp
    have h5 := bytes_prefix h1 hx h4
    subst h5
    have h6 := congrArg List.length h2
    simp at h6
    omega
theorem bytes_pos (x : Ent) : 1 ≤ x.bytes.length := by
  have hm := many_le x
  obtain ⟨v, hv⟩ := nums_split x 1 x.many (by omega)
  have h1 : x.nums 1 = enc x.kind := by rw [Ent.nums_succ]; simp [Ent.nums, Ent.num]
  have := enc_pos x.kind
  unfold Ent.bytes
  rw [hv, h1]
  simp only [List.length_append]; omega
theorem take_bytes_iff {x y : Ent} (hx : x.good = true) (hy : y.good = true) {n : Nat} (hn : n = min x.bytes.length y.bytes.length) : x.bytes.take n = y.bytes.take n ↔ x = y := by
  constructor
  · intro h
    by_cases hl : x.bytes.length ≤ y.bytes.length
    · rw [List.take_of_length_le (l := x.bytes) (by omega)] at h
      refine bytes_prefix hx hy (r := y.bytes.drop n) (t := []) ?_
      rw [h]; simp
    · rw [List.take_of_length_le (l := y.bytes) (by omega)] at h
      refine bytes_prefix hx hy (r := []) (t := x.bytes.drop n) ?_
      rw [← h]; simp
  · rintro rfl; rfl
theorem eqB_iff (x y : Ent) : x.eqB y = true ↔ x = y := by
  have hb : ∀ a b : ByteArray, (a.toList == b.toList) = true ↔ a = b := by
    intro a b
    rw [ByteArray.toList_eq, ByteArray.toList_eq, beq_iff_eq]
    constructor
    · intro h; apply ByteArray.ext; apply Array.ext'; exact h
    · rintro rfl; rfl
  obtain ⟨k, c, e, n, l, p, pg, sl, wu, wd, iu, ix, nx⟩ := x
  obtain ⟨k', c', e', n', l', p', pg', sl', wu', wd', iu', ix', nx'⟩ := y
  simp only [Ent.eqB, Bool.and_eq_true, hb, beq_iff_eq, Ent.mk.injEq]
  constructor
  · intro h; simp_all
  · intro h; simp_all
/-- How many bytes a number takes at most. -/
theorem lebF_len_le : ∀ (j k u : Nat), u < 128 ^ (j + 1) → (lebF k u).length ≤ j + 1
  | 0, 0, u, _ => by simp [lebF]
  | 0, k + 1, u, h => by unfold lebF; rw [if_pos (by simpa using h)]; simp
  | j + 1, 0, u, _ => by simp [lebF]
  | j + 1, k + 1, u, h => by
    unfold lebF
    split
    · simp
    · have := lebF_len_le j k (u / 128) (by rw [Nat.pow_succ] at h; omega)
      simp; omega
theorem enc_len_le {n : Int} (j : Nat) (h0 : 0 ≤ n) (h : 2 * n.toNat < 128 ^ (j + 1)) : (enc n).length ≤ j + 1 := by
  refine lebF_len_le j 9 _ ?_
  unfold zig
  rw [if_neg (by omega)]
  exact h
theorem slotEnc_len' {u : Bool} {d : List UInt8} (h : d.length ≤ 200) : (slotEnc u d).length ≤ 203 := by
  have h0 := enc_len_le (n := 0) 0 (by omega) (by decide)
  have h1 := enc_len_le (n := 1) 0 (by omega) (by decide)
  have h2 := enc_len_le (n := (d.length : Int)) 1 (by omega) (by simp; omega)
  unfold slotEnc encS
  split
  · simp only [List.length_append]; omega
  · omega
theorem bytes_len' (x : Ent) (h : x.good = true) : x.bytes.length ≤ 439 := by
  obtain ⟨hb, hk1, hk4, hw, hi⟩ := good_facts x h
  have e1 : x.wd.data.toList.length = x.wd.size := Array.length_toList
  have e2 : x.ix.data.toList.length = x.ix.size := Array.length_toList
  have s1 := slotEnc_len' (u := x.wu) (d := x.wd.data.toList) (by omega)
  have s2 := slotEnc_len' (u := x.iu) (d := x.ix.data.toList) (by omega)
  have hn9 : (x.nums 9).length ≤ 33 := by
    have hg := h
    simp only [Ent.good, Bool.and_eq_true, Ent.known, knownB, decide_eq_true_eq, Ent.lsnB, Ent.prevB] at hg
    obtain ⟨⟨⟨k1, k2, k3⟩, k4, k5⟩, k6⟩ := hg
    have P : 0 ≤ x.page ∧ x.page ≤ 1023 ∧ 0 ≤ x.slot ∧ x.slot ≤ 31 ∧ 0 ≤ x.next ∧ x.next ≤ 1099511627776 := by
      split at k6
      · simp only [Ent.changeB, Ent.pageB, Ent.placeB, Bool.and_eq_true, decide_eq_true_eq] at k6; omega
      · split at k6
        · simp only [Ent.changeB, Ent.pageB, Ent.placeB, Ent.nextB, Bool.and_eq_true, decide_eq_true_eq] at k6; omega
        · split at k6
          · simp only [Ent.plainB, Bool.and_eq_true, decide_eq_true_eq] at k6; omega
          · cases k6
    have a0 := enc_len_le (n := x.kind) 0 (by omega) (by simp; omega)
    have a1 := enc_len_le (n := x.cl) 0 (by omega) (by simp; omega)
    have a2 := enc_len_le (n := x.ep) 4 (by omega) (by simp; omega)
    have a3 := enc_len_le (n := x.n) 4 (by omega) (by simp; omega)
    have a4 := enc_len_le (n := x.lsn) 5 (by omega) (by simp; omega)
    have a5 := enc_len_le (n := x.prev) 5 (by omega) (by simp; omega)
    have a6 := enc_len_le (n := x.page) 1 (by omega) (by simp; omega)
    have a7 := enc_len_le (n := x.slot) 0 (by omega) (by simp; omega)
    have a8 := enc_len_le (n := x.next) 5 (by omega) (by simp; omega)
    have e : x.nums 9 = enc x.kind ++ enc x.cl ++ enc x.ep ++ enc x.n ++ enc x.lsn ++ enc x.prev ++ enc x.page ++ enc x.slot ++ enc x.next := by
      simp only [Ent.nums_succ, Ent.num]
      simp [Ent.nums]
    rw [e]
    simp only [List.length_append]
    omega
  have hm := many_le x
  obtain ⟨v, hv⟩ := nums_split x x.many 9 hm.2
  have hle : (x.nums x.many).length ≤ 33 := by rw [hv] at hn9; simp only [List.length_append] at hn9; omega
  unfold Ent.bytes Ent.tail
  split
  · simp only [List.length_append]; omega
  · simp only [List.length_append, List.length_nil]; omega
end Go.Proofs.Yteknaeemjgpgbaa
