/-
  What bytes are read as an image, in plain words.
-/
import Derived.Test.YtklmoigpalhlmaaSlG
namespace Go.Proofs.Ytklmoigpalhlmaa
open Go.RowKit
set_option linter.unusedVariables false
set_option linter.unusedSimpArgs false

/-- One slot off the beginning of bytes. -/
def rdOne : List UInt8 → Option (Sl × List UInt8)
  | [] => none
  | b :: u => if b.toNat = 255 then some (Sl.none, u) else if u.length < b.toNat then none else some (⟨true, bs (u.take b.toNat)⟩, u.drop b.toNat)
/-- So many slots off the beginning of bytes. -/
def rdSt (r : List UInt8) : Nat → Option (List Sl × List UInt8)
  | 0 => some ([], r)
  | k + 1 => match rdSt r k with
    | none => none
    | some (l, u) => match rdOne u with
      | none => none
      | some (x, v) => some (l ++ [x], v)
theorem rdSt_step {r : List UInt8} {k : Nat} {l : List Sl} {u : List UInt8} (h : rdSt r k = some (l, u)) {x : Sl} {v : List UInt8} (h1 : rdOne u = some (x, v)) : rdSt r (k + 1) = some (l ++ [x], v) := by
  unfold rdSt; rw [h]; simp only; rw [h1]
theorem rdSt_stop {r : List UInt8} {k : Nat} {l : List Sl} {u : List UInt8} (h : rdSt r k = some (l, u)) (h1 : rdOne u = none) : rdSt r (k + 1) = none := by
  unfold rdSt; rw [h]; simp only; rw [h1]
theorem rdSt_mono {r : List UInt8} {k m : Nat} (h : rdSt r k = none) (hm : k ≤ m) : rdSt r m = none := by
  induction m with
  | zero => rw [show k = 0 by omega] at h; exact h
  | succ m ih =>
    rcases Nat.lt_or_ge m k with h1 | h1
    · rw [show k = m + 1 by omega] at h; exact h
    · unfold rdSt; rw [ih h1]
theorem rdOne_len {u : List UInt8} {x : Sl} {v : List UInt8} (h : rdOne u = some (x, v)) : v.length + 1 + x.d.size = u.length ∧ x.d.size ≤ 255 ∧ (x.u = false → x = Sl.none) := by
  cases u with
  | nil => cases h
  | cons b u =>
    have hb := b.toNat_lt
    simp only [rdOne] at h
    split at h
    · simp at h; obtain ⟨rfl, rfl⟩ := h
      exact ⟨by simp [Sl.none]; rfl, by simp [Sl.none]; exact Nat.zero_le _, fun _ => rfl⟩
    · split at h
      · cases h
      · simp at h; obtain ⟨rfl, rfl⟩ := h
        simp only [bs_size, List.length_take, List.length_drop, List.length_cons]
        exact ⟨by omega, by omega, by simp⟩
theorem rdSt_len {r : List UInt8} {k : Nat} {l : List Sl} {u : List UInt8} (h : rdSt r k = some (l, u)) : l.length = k ∧ u.length + slSum l = r.length ∧ ∀ x ∈ l, x.d.size ≤ 255 := by
  induction k generalizing l u with
  | zero => simp [rdSt] at h; obtain ⟨rfl, rfl⟩ := h; simp [slSum]
  | succ k ih =>
    unfold rdSt at h
    cases h1 : rdSt r k with
    | none => rw [h1] at h; cases h
    | some p =>
      obtain ⟨l1, u1⟩ := p
      rw [h1] at h
      simp only at h
      cases h2 : rdOne u1 with
      | none => rw [h2] at h; cases h
      | some q =>
        obtain ⟨x, v⟩ := q
        rw [h2] at h
        simp at h
        obtain ⟨rfl, rfl⟩ := h
        obtain ⟨i1, i2, i3⟩ := ih h1
        obtain ⟨j1, j2, _⟩ := rdOne_len h2
        refine ⟨by simp [i1], by rw [slSum_snoc]; omega, ?_⟩
        intro y hy
        rcases List.mem_append.1 hy with h | h
        · exact i3 y h
        · have : y = x := by simpa using h
          subst this; exact j2
theorem slsEnc_append (a b : List Sl) : slsEnc (a ++ b) = slsEnc a ++ slsEnc b := by simp [slsEnc]
theorem rdOne_enc {u : List UInt8} {x : Sl} {v : List UInt8} (h : rdOne u = some (x, v)) : u = x.enc ++ v := by
  cases u with
  | nil => cases h
  | cons b u =>
    have hb := b.toNat_lt
    simp only [rdOne] at h
    split at h
    · rename_i h0
      simp at h; obtain ⟨rfl, rfl⟩ := h
      have : b = 255 := UInt8.toNat_inj.1 (by rw [h0]; rfl)
      subst this; rfl
    · split at h
      · cases h
      · rename_i h0 h1
        simp at h; obtain ⟨rfl, rfl⟩ := h
        have e1 : (bs (u.take b.toNat)).size = b.toNat := by rw [bs_size, List.length_take]; omega
        unfold Sl.enc
        simp only [if_true]
        rw [e1, UInt8.ofNat_toNat, bs_data, List.cons_append, List.take_append_drop]
theorem rdSt_enc {r : List UInt8} {k : Nat} {l : List Sl} {u : List UInt8} (h : rdSt r k = some (l, u)) : r = slsEnc l ++ u := by
  induction k generalizing l u with
  | zero => simp [rdSt] at h; obtain ⟨rfl, rfl⟩ := h; rfl
  | succ k ih =>
    unfold rdSt at h
    cases h1 : rdSt r k with
    | none => rw [h1] at h; cases h
    | some p =>
      obtain ⟨l1, u1⟩ := p
      rw [h1] at h
      simp only at h
      cases h2 : rdOne u1 with
      | none => rw [h2] at h; cases h
      | some q =>
        obtain ⟨x, v⟩ := q
        rw [h2] at h
        simp at h
        obtain ⟨rfl, rfl⟩ := h
        rw [slsEnc_append, List.append_assoc]
        have := rdOne_enc h2
        rw [show slsEnc [x] = x.enc by simp [slsEnc], ← this]
        exact ih h1
theorem rdOne_of {x : Sl} (h : x.odd = false) (v : List UInt8) : rdOne (x.enc ++ v) = some (x, v) := by
  have hs := odd_size h
  have hl : x.d.data.toList.length = x.d.size := Array.length_toList
  cases hu : x.u with
  | false =>
    have hx : x = Sl.none := by
      obtain ⟨u, d⟩ := x
      simp only at hu
      subst hu
      simp [Sl.odd] at h
      have h2 := h.1
      rw [ByteArray.toList_eq] at h2
      have : d = ⟨#[]⟩ := by apply ByteArray.ext; apply Array.ext'; exact h2
      rw [this]; rfl
    subst hx; rfl
  | true =>
    unfold Sl.enc
    rw [if_pos hu]
    simp only [rdOne, List.cons_append]
    have e : (UInt8.ofNat x.d.size).toNat = x.d.size := by rw [UInt8.toNat_ofNat', Nat.mod_eq_of_lt (by omega)]
    rw [e, if_neg (by omega), if_neg (by simp [hl])]
    obtain ⟨u, d⟩ := x
    simp only at hu hl ⊢
    subst hu
    rw [← hl, List.take_left, List.drop_left]
    rfl
theorem rdSt_of (l : List Sl) (h : l.any Sl.odd = false) (z : List UInt8) : ∀ k, k ≤ l.length → rdSt (slsEnc l ++ z) k = some (l.take k, slsEnc (l.drop k) ++ z) := by
  intro k
  induction k with
  | zero => intro _; simp [rdSt]
  | succ k ih =>
    intro hk
    have hx : l[k]? = some l[k] := List.getElem?_eq_getElem (by omega)
    have hd : l.drop k = l[k] :: l.drop (k + 1) := List.drop_eq_getElem_cons (by omega)
    have h1 := ih (by omega)
    rw [hd, show slsEnc (l[k] :: l.drop (k + 1)) = (l[k]).enc ++ slsEnc (l.drop (k + 1)) from rfl, List.append_assoc] at h1
    have ho : (l[k]).odd = false := by have := List.any_eq_false.1 h _ (List.mem_of_getElem? hx); simpa using this
    rw [rdSt_step h1 (rdOne_of ho _), List.take_add_one, hx]
    rfl
/-- What comes of bytes: an image, or none. -/
def pgDec (S : List UInt8) : Option (Int × List Sl) :=
  if S.length = 240 then
    match rdSt (S.drop 9) (S.getD 8 0).toNat with
    | none => none
    | some (l, u) => if slGood (getN (S.take 8)) l = true ∧ pgBytes (getN (S.take 8)) l = S then some ((getN (S.take 8) : Int), l) else none
  else none
def pgDecR (o : Option (Int × List Sl)) : Int × List Sl × Int := match o with
  | none => (0, [], 4)
  | some (k, l) => (k, l, 0)
theorem pgDec_bytes {S : List UInt8} {k : Int} {l : List Sl} (h : pgDec S = some (k, l)) : slGood k l = true ∧ pgBytes k l = S := by
  unfold pgDec at h
  split at h
  · split at h
    · cases h
    · split at h
      · rename_i h1
        simp at h
        obtain ⟨rfl, rfl⟩ := h
        exact h1
      · cases h
  · cases h
theorem getN_highN (n k : Nat) (h : n < 256 ^ k) : getN (highN n k) = n := by
  have key : ∀ j, j ≤ k → getN ((highN n k).take j) = n / 256 ^ (k - j) := by
    intro j
    induction j with
    | zero => intro _; simp [getN]; exact (Nat.div_eq_of_lt h).symm
    | succ j ih =>
      intro hj
      have hx : (highN n k)[j]? = some (UInt8.ofNat (n / 256 ^ (k - 1 - j) % 256)) := by
        unfold highN hiK
        rw [List.getElem?_map, List.getElem?_range (by omega)]
        simp only [Option.map_some, Option.some.injEq]
        rw [if_pos (by omega)]
      rw [List.take_add_one, hx]
      simp only [Option.toList]
      rw [getN_snoc, ih (by omega), UInt8.toNat_ofNat', Nat.mod_eq_of_lt (Nat.mod_lt _ (by omega))]
      rw [show k - j = (k - 1 - j) + 1 by omega, Nat.pow_succ, ← Nat.div_div_eq_div_mul, show k - (j + 1) = k - 1 - j by omega]
      omega
  have := key k (Nat.le_refl _)
  rw [List.take_of_length_le (by rw [highN_len]; omega)] at this
  rw [this]; simp
theorem getN_inj : ∀ {a b : List UInt8}, a.length = b.length → getN a = getN b → a = b := by
  have key : ∀ (n : Nat) (a b : List UInt8), a.length = n → b.length = n → getN a = getN b → a = b := by
    intro n
    induction n with
    | zero => intro a b ha hb _; rw [List.eq_nil_of_length_eq_zero ha, List.eq_nil_of_length_eq_zero hb]
    | succ n ih =>
      intro a b ha hb h
      have hane : a ≠ [] := by intro e; rw [e] at ha; cases ha
      have hbne : b ≠ [] := by intro e; rw [e] at hb; cases hb
      rw [← List.dropLast_concat_getLast hane, ← List.dropLast_concat_getLast hbne, getN_snoc, getN_snoc] at h
      have h1 := (a.getLast hane).toNat_lt
      have h2 := (b.getLast hbne).toNat_lt
      have e1 : getN a.dropLast = getN b.dropLast := by omega
      have e2 : a.getLast hane = b.getLast hbne := UInt8.toNat_inj.1 (by omega)
      have := ih a.dropLast b.dropLast (by simp [ha]) (by simp [hb]) e1
      rw [← List.dropLast_concat_getLast hane, ← List.dropLast_concat_getLast hbne, this, e2]
  intro a b hl h
  exact key b.length a b hl rfl h
theorem pgDec_good {k : Int} {l : List Sl} (h : slGood k l = true) : pgDec (pgBytes k l) = some (k, l) := by
  obtain ⟨h1, h2, h3, h4, h5⟩ := (slGood_iff k l).1 h
  have hlen := pgBytes_len h
  have hH := highN_len k.toNat 8
  have hb : pgBytes k l = highN k.toNat 8 ++ (UInt8.ofNat l.length :: (slsEnc l ++ List.replicate (240 - (pgBody k l).length) 0)) := by
    unfold pgBytes fill240
    simp [pgBody, pgHead]
  have ht : (pgBytes k l).take 8 = highN k.toNat 8 := by rw [hb, List.take_append_of_le_length (by omega), List.take_of_length_le (by omega)]
  have hd : (pgBytes k l).drop 9 = slsEnc l ++ List.replicate (240 - (pgBody k l).length) 0 := by
    rw [hb, List.drop_append, hH, List.drop_eq_nil_of_le (by omega)]
    rfl
  have h8 : (pgBytes k l).getD 8 0 = UInt8.ofNat l.length := by
    rw [hb, List.getD_eq_getElem?_getD, List.getElem?_append_right (by omega), hH]; rfl
  have e8 : (UInt8.ofNat l.length).toNat = l.length := by rw [UInt8.toNat_ofNat', Nat.mod_eq_of_lt (by omega)]
  have hg : (getN (highN k.toNat 8) : Int) = k := by rw [getN_highN _ _ (by omega)]; omega
  unfold pgDec
  rw [if_pos hlen, ht, hd, h8, e8, rdSt_of l h3 _ l.length (Nat.le_refl _), hg]
  simp only [List.take_length]
  rw [if_pos ⟨h, trivial⟩]
/-- Bytes that are an image's are so just if what stands behind the slots is nothing. -/
theorem pgDec_split {S : List UInt8} (hS : S.length = 240) {l : List Sl} {u : List UInt8} (h : rdSt (S.drop 9) (S.getD 8 0).toNat = some (l, u)) (hg : slGood (getN (S.take 8)) l = true) :
    pgBytes (getN (S.take 8)) l = S ↔ ∀ b ∈ u, b = 0 := by
  have h1 := rdSt_enc h
  obtain ⟨h2, h3, _⟩ := rdSt_len h
  have hl8 : (S.take 8).length = 8 := by rw [List.length_take]; omega
  have hN := getN_lt (S.take 8)
  rw [hl8] at hN
  have hH : highN (getN (S.take 8)) 8 = S.take 8 := getN_inj (by rw [highN_len, hl8]) (getN_highN _ _ hN)
  have h8 : S[8]? = some (S.getD 8 0) := by rw [List.getD_eq_getElem?_getD, List.getElem?_eq_getElem (by omega)]; rfl
  have hsplit : S = S.take 8 ++ ([S.getD 8 0] ++ (slsEnc l ++ u)) := by
    rw [← h1]
    conv => lhs; rw [← List.take_append_drop 8 S]
    congr 1
    rw [List.drop_eq_getElem_cons (by omega)]
    simp only [List.cons_append, List.nil_append]
    congr 1
    rw [List.getElem?_eq_getElem (by omega)] at h8
    exact Option.some.inj h8
  have e8 : UInt8.ofNat l.length = S.getD 8 0 := by rw [h2, UInt8.ofNat_toNat]
  have hb : pgBytes (getN (S.take 8)) l = S.take 8 ++ ([S.getD 8 0] ++ (slsEnc l ++ List.replicate (240 - (pgBody (getN (S.take 8)) l).length) 0)) := by
    unfold pgBytes fill240
    simp [pgBody, pgHead, hH, e8]
  have hul : u.length = 240 - (pgBody (getN (S.take 8)) l).length := by
    rw [pgBody_len hg]
    unfold slSize
    rw [List.length_drop] at h3
    omega
  rw [hb]
  constructor
  · intro e b hbu
    have e2 : S.take 8 ++ ([S.getD 8 0] ++ (slsEnc l ++ List.replicate (240 - (pgBody (getN (S.take 8)) l).length) 0)) = S.take 8 ++ ([S.getD 8 0] ++ (slsEnc l ++ u)) := e.trans hsplit
    have e3 := List.append_cancel_left (List.append_cancel_left (List.append_cancel_left e2))
    rw [← e3] at hbu
    exact List.eq_of_mem_replicate hbu
  · intro hz
    conv => rhs; rw [hsplit]
    rw [← hul]
    have : u = List.replicate u.length 0 := List.eq_replicate_iff.2 ⟨rfl, hz⟩
    rw [← this]
theorem pgDecR_form (S : List UInt8) : (pgDecR (pgDec S)).2.2 = 0 ∨ ((pgDecR (pgDec S)).2.2 = 4 ∧ (pgDecR (pgDec S)).1 = 0 ∧ (pgDecR (pgDec S)).2.1 = []) := by
  cases pgDec S with
  | none => exact .inr ⟨rfl, rfl, rfl⟩
  | some p => exact .inl rfl
end Go.Proofs.Ytklmoigpalhlmaa
