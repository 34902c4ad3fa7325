/-
  What bytes are read as an image, in plain words.
-/
import Derived.Test.YtakdagmkkelnfaaSlG
import Derived.Test.YtakdagmkkelnfaaSlM
import Derived.Outline
import Derived.StillTailTactics
import Derived.Deep.RegionLaw
/-! What bytes are read as an image, in plain words. -/
namespace Go.Proofs.Ytakdagmkkelnfaa
open Go.RowKit
set_option linter.unusedVariables false
set_option linter.unusedSimpArgs false

/-- One slot off the beginning of bytes. -/
def rdOne : List UInt8 → Option (Sl × List UInt8)
  | [] => none
  | b :: u => if b.toNat = 255 then some (Sl.none, u) else if u.length < b.toNat then none else some (⟨true, bs (u.take b.toNat)⟩, u.drop b.toNat)
/-- So many slots off the beginning of bytes. -/
def rdSt (r : List UInt8) : Nat → Option (List Sl × List UInt8)
  | 0 => some ([], r)
  | k + 1 => match rdSt r k with
    | none => none
    | some (l, u) => match rdOne u with
      | none => none
      | some (x, v) => some (l ++ [x], v)
theorem rdSt_step {r : List UInt8} {k : Nat} {l : List Sl} {u : List UInt8} (h : rdSt r k = some (l, u)) {x : Sl} {v : List UInt8} (h1 : rdOne u = some (x, v)) : rdSt r (k + 1) = some (l ++ [x], v) := by
  unfold rdSt; rw [h]; simp only; rw [h1]
theorem rdSt_stop {r : List UInt8} {k : Nat} {l : List Sl} {u : List UInt8} (h : rdSt r k = some (l, u)) (h1 : rdOne u = none) : rdSt r (k + 1) = none := by
  unfold rdSt; rw [h]; simp only; rw [h1]
theorem rdSt_mono {r : List UInt8} {k m : Nat} (h : rdSt r k = none) (hm : k ≤ m) : rdSt r m = none := by
  induction m with
  | zero => rw [show k = 0 by omega] at h; exact h
  | succ m ih =>
    rcases Nat.lt_or_ge m k with h1 | h1
    · rw [show k = m + 1 by omega] at h; exact h
    · unfold rdSt; rw [ih h1]
theorem rdOne_len {u : List UInt8} {x : Sl} {v : List UInt8} (h : rdOne u = some (x, v)) : v.length + 1 + x.d.size = u.length ∧ x.d.size ≤ 255 ∧ (x.u = false → x = Sl.none) := by
  cases u with
  | nil => cases h
  | cons b u =>
    have hb := b.toNat_lt
    simp only [rdOne] at h
    split at h
    · simp at h; obtain ⟨rfl, rfl⟩ := h
      exact ⟨by simp [Sl.none]; rfl, by simp [Sl.none]; exact Nat.zero_le _, fun _ => rfl⟩
    · split at h
      · cases h
      · simp at h; obtain ⟨rfl, rfl⟩ := h
        simp only [bs_size, List.length_take, List.length_drop, List.length_cons]
        exact ⟨by omega, by omega, by simp⟩
theorem rdSt_len {r : List UInt8} {k : Nat} {l : List Sl} {u : List UInt8} (h : rdSt r k = some (l, u)) : l.length = k ∧ u.length + slSum l = r.length ∧ ∀ x ∈ l, x.d.size ≤ 255 := by
  induction k generalizing l u with
  | zero => simp [rdSt] at h; obtain ⟨rfl, rfl⟩ := h; simp [slSum]
  | succ k ih =>
    unfold rdSt at h
    cases h1 : rdSt r k with
    | none => rw [h1] at h; cases h
    | some p =>
      obtain ⟨l1, u1⟩ := p
      rw [h1] at h
      simp only at h
      cases h2 : rdOne u1 with
      | none => rw [h2] at h; cases h
      | some q =>
        obtain ⟨x, v⟩ := q
        rw [h2] at h
        simp at h
        obtain ⟨rfl, rfl⟩ := h
        obtain ⟨i1, i2, i3⟩ := ih h1
        obtain ⟨j1, j2, _⟩ := rdOne_len h2
        refine ⟨by simp [i1], by rw [slSum_snoc]; omega, ?_⟩
        intro y hy
        rcases List.mem_append.1 hy with h | h
        · exact i3 y h
        · have : y = x := by simpa using h
          subst this; exact j2
theorem slsEnc_append (a b : List Sl) : slsEnc (a ++ b) = slsEnc a ++ slsEnc b := by simp [slsEnc]
theorem rdOne_enc {u : List UInt8} {x : Sl} {v : List UInt8} (h : rdOne u = some (x, v)) : u = x.enc ++ v := by
  cases u with
  | nil => cases h
  | cons b u =>
    have hb := b.toNat_lt
    simp only [rdOne] at h
    split at h
    · rename_i h0
      simp at h; obtain ⟨rfl, rfl⟩ := h
      have : b = 255 := UInt8.toNat_inj.1 (by rw [h0]; rfl)
      subst this; rfl
    · split at h
      · cases h
      · rename_i h0 h1
        simp at h; obtain ⟨rfl, rfl⟩ := h
        have e1 : (bs (u.take b.toNat)).size = b.toNat := by rw [bs_size, List.length_take]; omega
        unfold Sl.enc
        simp only [if_true]
        rw [e1, UInt8.ofNat_toNat, bs_data, List.cons_append, List.take_append_drop]
theorem rdSt_enc {r : List UInt8} {k : Nat} {l : List Sl} {u : List UInt8} (h : rdSt r k = some (l, u)) : r = slsEnc l ++ u := by
  induction k generalizing l u with
  | zero => simp [rdSt] at h; obtain ⟨rfl, rfl⟩ := h; rfl
  | succ k ih =>
    unfold rdSt at h
    cases h1 : rdSt r k with
    | none => rw [h1] at h; cases h
    | some p =>
      obtain ⟨l1, u1⟩ := p
      rw [h1] at h
      simp only at h
      cases h2 : rdOne u1 with
      | none => rw [h2] at h; cases h
      | some q =>
        obtain ⟨x, v⟩ := q
        rw [h2] at h
        simp at h
        obtain ⟨rfl, rfl⟩ := h
        rw [slsEnc_append, List.append_assoc]
        have := rdOne_enc h2
        rw [show slsEnc [x] = x.enc by simp [slsEnc], ← this]
        exact ih h1
theorem rdOne_of {x : Sl} (h : x.odd = false) (v : List UInt8) : rdOne (x.enc ++ v) = some (x, v) := by
  have hs := odd_size h
  have hl : x.d.data.toList.length = x.d.size := Array.length_toList
  cases hu : x.u with
  | false =>
    have hx : x = Sl.none := by
      obtain ⟨u, d⟩ := x
      simp only at hu
      subst hu
      simp [Sl.odd] at h
      have h2 := h.1
      rw [ByteArray.toList_eq] at h2
      have : d = ⟨#[]⟩ := by apply ByteArray.ext; apply Array.ext'; exact h2
      rw [this]; rfl
    subst hx; rfl
  | true =>
    unfold Sl.enc
    rw [if_pos hu]
    simp only [rdOne, List.cons_append]
    have e : (UInt8.ofNat x.d.size).toNat = x.d.size := by rw [UInt8.toNat_ofNat', Nat.mod_eq_of_lt (by omega)]
    rw [e, if_neg (by omega), if_neg (by simp [hl])]
    obtain ⟨u, d⟩ := x
    simp only at hu hl ⊢
    subst hu
    rw [← hl, List.take_left, List.drop_left]
    rfl
theorem rdSt_of (l : List Sl) (h : l.any Sl.odd = false) (z : List UInt8) : ∀ k, k ≤ l.length → rdSt (slsEnc l ++ z) k = some (l.take k, slsEnc (l.drop k) ++ z) := by
  intro k
  induction k with
  | zero => intro _; simp [rdSt]
  | succ k ih =>
    intro hk
    have hx : l[k]? = some l[k] := List.getElem?_eq_getElem (by omega)
    have hd : l.drop k = l[k] :: l.drop (k + 1) := List.drop_eq_getElem_cons (by omega)
    have h1 := ih (by omega)
    rw [hd, show slsEnc (l[k] :: l.drop (k + 1)) = (l[k]).enc ++ slsEnc (l.drop (k + 1)) from rfl, List.append_assoc] at h1
    have ho : (l[k]).odd = false := by have := List.any_eq_false.1 h _ (List.mem_of_getElem? hx); simpa using this
    rw [rdSt_step h1 (rdOne_of ho _), List.take_add_one, hx]
    rfl
/-- What comes of bytes: an image, or none. -/
def pgDec (S : List UInt8) : Option (Int × List Sl) :=
  if S.length = 240 then
    match rdSt (S.drop 9) (S.getD 8 0).toNat with
    | none => none
    | some (l, u) => if slGood (getN (S.take 8)) l = true ∧ pgBytes (getN (S.take 8)) l = S then some ((getN (S.take 8) : Int), l) else none
  else none
def pgDecR (o : Option (Int × List Sl)) : Int × List Sl × Int := match o with
  | none => (0, [], 4)
  | some (k, l) => (k, l, 0)
theorem pgDec_bytes {S : List UInt8} {k : Int} {l : List Sl} (h : pgDec S = some (k, l)) : slGood k l = true ∧ pgBytes k l = S := by
  unfold pgDec at h
  split at h
  · split at h
    · cases h
    · split at h
      · rename_i h1
        simp at h
        obtain ⟨rfl, rfl⟩ := h
        exact h1
      · cases h
  · cases h
theorem getN_highN (n k : Nat) (h : n < 256 ^ k) : getN (highN n k) = n := by
  have key : ∀ j, j ≤ k → getN ((highN n k).take j) = n / 256 ^ (k - j) := by
    intro j
    induction j with
    | zero => intro _; simp [getN]; exact (Nat.div_eq_of_lt h).symm
    | succ j ih =>
      intro hj
      have hx : (highN n k)[j]? = some (UInt8.ofNat (n / 256 ^ (k - 1 - j) % 256)) := by
        unfold highN hiK
        rw [List.getElem?_map, List.getElem?_range (by omega)]
        simp only [Option.map_some, Option.some.injEq]
        rw [if_pos (by omega)]
      rw [List.take_add_one, hx]
      simp only [Option.toList]
      rw [getN_snoc, ih (by omega), UInt8.toNat_ofNat', Nat.mod_eq_of_lt (Nat.mod_lt _ (by omega))]
      rw [show k - j = (k - 1 - j) + 1 by omega, Nat.pow_succ, ← Nat.div_div_eq_div_mul, show k - (j + 1) = k - 1 - j by omega]
      omega
  have := key k (Nat.le_refl _)
  rw [List.take_of_length_le (by rw [highN_len]; omega)] at this
  rw [this]; simp
theorem getN_inj : ∀ {a b : List UInt8}, a.length = b.length → getN a = getN b → a = b := by
  have key : ∀ (n : Nat) (a b : List UInt8), a.length = n → b.length = n → getN a = getN b → a = b := by
    intro n
    induction n with
    | zero => intro a b ha hb _; rw [List.eq_nil_of_length_eq_zero ha, List.eq_nil_of_length_eq_zero hb]
    | succ n ih =>
      intro a b ha hb h
      have hane : a ≠ [] := by intro e; rw [e] at ha; cases ha
      have hbne : b ≠ [] := by intro e; rw [e] at hb; cases hb
      rw [← List.dropLast_concat_getLast hane, ← List.dropLast_concat_getLast hbne, getN_snoc, getN_snoc] at h
      have h1 := (a.getLast hane).toNat_lt
      have h2 := (b.getLast hbne).toNat_lt
      have e1 : getN a.dropLast = getN b.dropLast := by omega
      have e2 : a.getLast hane = b.getLast hbne := UInt8.toNat_inj.1 (by omega)
      have := ih a.dropLast b.dropLast (by simp [ha]) (by simp [hb]) e1
      rw [← List.dropLast_concat_getLast hane, ← List.dropLast_concat_getLast hbne, this, e2]
  intro a b hl h
  exact key b.length a b hl rfl h
theorem pgDec_good {k : Int} {l : List Sl} (h : slGood k l = true) : pgDec (pgBytes k l) = some (k, l) := by
  obtain ⟨h1, h2, h3, h4, h5⟩ := (slGood_iff k l).1 h
  have hlen := pgBytes_len h
  have hH := highN_len k.toNat 8
  have hb : pgBytes k l = highN k.toNat 8 ++ (UInt8.ofNat l.length :: (slsEnc l ++ List.replicate (240 - (pgBody k l).length) 0)) := by
    unfold pgBytes fill240
    simp [pgBody, pgHead]
  have ht : (pgBytes k l).take 8 = highN k.toNat 8 := by rw [hb, List.take_append_of_le_length (by omega), List.take_of_length_le (by omega)]
  have hd : (pgBytes k l).drop 9 = slsEnc l ++ List.replicate (240 - (pgBody k l).length) 0 := by
    rw [hb, List.drop_append, hH, List.drop_eq_nil_of_le (by omega)]
    rfl
  have h8 : (pgBytes k l).getD 8 0 = UInt8.ofNat l.length := by
    rw [hb, List.getD_eq_getElem?_getD, List.getElem?_append_right (by omega), hH]; rfl
  have e8 : (UInt8.ofNat l.length).toNat = l.length := by rw [UInt8.toNat_ofNat', Nat.mod_eq_of_lt (by omega)]
  have hg : (getN (highN k.toNat 8) : Int) = k := by rw [getN_highN _ _ (by omega)]; omega
  unfold pgDec
  rw [if_pos hlen, ht, hd, h8, e8, rdSt_of l h3 _ l.length (Nat.le_refl _), hg]
  simp only [List.take_length]
  rw [if_pos ⟨h, trivial⟩]
/-- Bytes that are an image's are so just if what stands behind the slots is nothing. -/
theorem pgDec_split {S : List UInt8} (hS : S.length = 240) {l : List Sl} {u : List UInt8} (h : rdSt (S.drop 9) (S.getD 8 0).toNat = some (l, u)) (hg : slGood (getN (S.take 8)) l = true) :
    pgBytes (getN (S.take 8)) l = S ↔ ∀ b ∈ u, b = 0 := by
  have h1 := rdSt_enc h
  obtain ⟨h2, h3, _⟩ := rdSt_len h
  have hl8 : (S.take 8).length = 8 := by rw [List.length_take]; omega
  have hN := getN_lt (S.take 8)
  rw [hl8] at hN
  have hH : highN (getN (S.take 8)) 8 = S.take 8 := getN_inj (by rw [highN_len, hl8]) (getN_highN _ _ hN)
  have h8 : S[8]? = some (S.getD 8 0) := by rw [List.getD_eq_getElem?_getD, List.getElem?_eq_getElem (by omega)]; rfl
  have hsplit : S = S.take 8 ++ ([S.getD 8 0] ++ (slsEnc l ++ u)) := by
    rw [← h1]
    conv => lhs; rw [← List.take_append_drop 8 S]
    congr 1
    rw [List.drop_eq_getElem_cons (by omega)]
    simp only [List.cons_append, List.nil_append]
    congr 1
    rw [List.getElem?_eq_getElem (by omega)] at h8
    exact Option.some.inj h8
  have e8 : UInt8.ofNat l.length = S.getD 8 0 := by rw [h2, UInt8.ofNat_toNat]
  have hb : pgBytes (getN (S.take 8)) l = S.take 8 ++ ([S.getD 8 0] ++ (slsEnc l ++ List.replicate (240 - (pgBody (getN (S.take 8)) l).length) 0)) := by
    unfold pgBytes fill240
    simp [pgBody, pgHead, hH, e8]
  have hul : u.length = 240 - (pgBody (getN (S.take 8)) l).length := by
    rw [pgBody_len hg]
    unfold slSize
    rw [List.length_drop] at h3
    omega
  rw [hb]
  constructor
  · intro e b hbu
    have e2 : S.take 8 ++ ([S.getD 8 0] ++ (slsEnc l ++ List.replicate (240 - (pgBody (getN (S.take 8)) l).length) 0)) = S.take 8 ++ ([S.getD 8 0] ++ (slsEnc l ++ u)) := e.trans hsplit
    have e3 := List.append_cancel_left (List.append_cancel_left (List.append_cancel_left e2))
    rw [← e3] at hbu
    exact List.eq_of_mem_replicate hbu
  · intro hz
    conv => rhs; rw [hsplit]
    rw [← hul]
    have : u = List.replicate u.length 0 := List.eq_replicate_iff.2 ⟨rfl, hz⟩
    rw [← this]
theorem pgDecR_form (S : List UInt8) : (pgDecR (pgDec S)).2.2 = 0 ∨ ((pgDecR (pgDec S)).2.2 = 4 ∧ (pgDecR (pgDec S)).1 = 0 ∧ (pgDecR (pgDec S)).2.1 = []) := by
  cases pgDec S with
  | none => exact .inr ⟨rfl, rfl, rfl⟩
  | some p => exact .inl rfl
end Go.Proofs.Ytakdagmkkelnfaa

/-! slab.Decode. -/
namespace Go.Proofs.Ytakdagmkkelnfaa
open Go.RowKit
set_option linter.unusedVariables false
set_option linter.unusedSimpArgs false

theorem bs_take (r : List UInt8) (n : Nat) : (bs r).extract 0 n = bs (r.take n) := by
  apply ByteArray.ext
  apply Array.ext'
  simp [bs, ByteArray.data_extract]
theorem bs_skip (r : List UInt8) (n m : Nat) (hm : m = r.length) : (bs r).extract n m = bs (r.drop n) := by
  apply ByteArray.ext
  apply Array.ext'
  subst hm
  simp [bs, ByteArray.data_extract, List.extract_eq_take_drop]
  rw [List.take_of_length_le (by simp)]
theorem bs_at (r : List UInt8) (n : Nat) (h : n < (bs r).size) : (bs r)[n] = r.getD n 0 := by
  have hn : n < r.length := by rw [bs_size] at h; exact h
  rw [List.getD_eq_getElem?_getD, List.getElem?_eq_getElem hn]
  rfl
theorem bs_list (l : List UInt8) : (bs l).toList = l := by rw [ByteArray.toList_eq]; rfl
theorem RowS.snoc {base : Nat} {w : World} {v : Value} {l : List Sl} {x : Sl} (h : w.ownsRow base 62 2 v (l.length + 1) (flat l ++ [.bool x.u, .string x.d])) : RowS base w v (l ++ [x]) := by
  unfold RowS
  rw [List.length_append, flat_append]
  exact h
theorem RowS.nil (base : Nat) (w : World) : RowS base w (.slice none 0 0) [] := World.ownsRow_nil _ _ _ _
theorem RowS.slots {base : Nat} {w : World} {v : Value} {l : List Sl} (h : RowS base w v l) (hl : ∀ x ∈ l, x.d.size ≤ 140737488351232) : ∃ A cap, v = .slice A l.length cap ∧ IsSlots w A l.length cap l := by
  by_cases h0 : 0 < l.length
  · obtain ⟨g, cap, cur, rfl, _, _, G, h3, h4, _, h6⟩ := ownsRow_at h h0
    exact ⟨_, cap, rfl, IsSlots.of_has (rest := []) G h6 rfl h3 h4 hl⟩
  · obtain ⟨A, cap, rfl, h1, h2⟩ := ownsRow_form h
    exact ⟨A, cap, rfl, ⟨rfl, h1, h2, hl, fun h => absurd h h0⟩⟩
theorem infoPage2 : (Try.prog.info? 29).map (·.size) = some 2 := by kernel_rfl
set_option maxRecDepth 100000 in
set_option maxHeartbeats 8000000 in
theorem pdec_short (s : ByteArray) (hs : s.size ≤ 9223372036854775807) (h : s.size ≠ 240) (w : World) :
    Calls Try.prog 51 #[.string s] w (PageOut (0, [], 4) w) := by
  obtain ⟨fs, hpu⟩ := pageUnd
  have Hu := Lib.hid hpu
  clear hpu
  have hb : ((s.size : Int) != 240) = true := by simp; omega
  go_enter Try.func51, Try.ntmps51
  go_wp2_with ((with_reducible refine at_store rfl ?_); refine wpList_put_row rfl _ _ _ rfl rfl w.heap.size _ rfl rfl _ _ (Has.new w _) (by kernel_rfl) rfl (by first | kernel_rfl | simp [Value.oneCell']) ?_; intro w8 Z8 B8)
  (try simp only [Exit.inBlock, Exit.then])
  refine bodyPost_ret (v := .tuple #[.agg #[.int .i64 0, .slice none 0 0], .int .i64 4]) ?_ rfl ⟨none, 0, 0, rfl, IsSlots.nil _, ?_⟩
  · refine Eq.trans (results_cell_one (p := 2) (u := 3) ?_ _ _ w.heap.size _ _ _ fs ?_ Z8 Hu.out (by kernel_rfl)) ?_
    all_goals rfl
  · exact (bnew w _).trans (B8.below (Nat.le_refl _) (bnew w _).size)
set_option maxRecDepth 100000 in
set_option maxHeartbeats 8000000 in
theorem pdec_in (S : List UInt8) (hS : S.length = 240) (w : World) :
    Calls Try.prog 51 #[.string (bs S)] w (PageOut (pgDecR (pgDec S)) w) := by
  obtain ⟨fs, hpu⟩ := pageUnd
  have Hu := Lib.hid hpu
  have HS := Lib.hid hS
  have hB : (bs S).size = 240 := by rw [bs_size, hS]
  have h8 : (bs S).extract 0 8 = bs (S.take 8) := bs_take S 8
  have h9 : (bs S).extract 9 240 = bs (S.drop 9) := bs_skip S 9 240 hS.symm
  have CH : ∀ w, Calls Try.prog 20 #[.string (bs (S.take 8))] w fun e w' => e = .returned (.int .u64 (getN (S.take 8) : Nat)) ∧ Below w.heap.size w w' := fun w => hget_any _ (by rw [bs_size, List.length_take]; omega) w
  obtain ⟨B, hBe⟩ : ∃ B, bs S = B := ⟨_, rfl⟩
  rw [hBe] at hB h8 h9 ⊢
  have HB := Lib.hid hBe
  obtain ⟨L8, hL8⟩ : ∃ L8, S.take 8 = L8 := ⟨_, rfl⟩
  rw [hL8] at h8 CH
  have HL8 := Lib.hid hL8
  obtain ⟨R9, hR9⟩ : ∃ R9, S.drop 9 = R9 := ⟨_, rfl⟩
  rw [hR9] at h9
  have HR9 := Lib.hid hR9
  replace CH := Lib.hid CH
  have hN : getN L8 < 18446744073709551616 := by
    have := getN_lt L8
    rw [← hL8, List.length_take, hS] at this
    rw [← hL8]; exact this
  obtain ⟨N, hNe⟩ : ∃ N, getN L8 = N := ⟨_, rfl⟩
  rw [hNe] at CH hN
  have HN := Lib.hid hNe
  clear hpu hS hBe hL8 hR9 hNe
  go_enter Try.func51, Try.ntmps51
  go_wp2_with fail
  refine (CH.out _).mono ?_
  rintro e w1 ⟨rfl, b1⟩
  have Z := Lib.hid ((Has.new w _).below b1)
  have B1 := Lib.hid (bup (bnew w _) b1)
  clear b1
  go_wp2_with fail
  have h8l : 8 < B.size := by omega
  have hlim8 : B[8].toNat < 256 := B[8].toNat_lt
  have HLIM : Hid ((S.getD 8 0).toNat = B[8].toNat) := Lib.hid (by
    have e := HB.out
    subst e
    rw [bs_at])
  generalize hlim : B[8].toNat = lim at hlim8 HLIM ⊢
  clear hlim h8 h9 hB h8l
  have R0 := Lib.hid (RowS.nil w1.heap.size w1)
  have B10 := Lib.hid (Below.refl w1.heap.size w1)
  have D0 : Hid (rdSt R9 0 = some ([], R9)) := Lib.hid rfl
  have hz1 : w.heap.size < w1.heap.size := Z.out.lt
  go_loopw [5, 6, 22] (fun v r i wr => ∃ (k : Nat) (l : List Sl) (u : List UInt8), k ≤ lim ∧ i = .int .u8 k ∧ r = .string (bs u) ∧ Hid (rdSt R9 k = some (l, u)) ∧ Hid (RowS w1.heap.size wr v l) ∧ Hid (Below w1.heap.size w1 wr)) (fun _ _ i _ => lim - (intOf i).toNat)
  case atStart => exact ⟨0, [], R9, by omega, rfl, rfl, D0, R0, B10⟩
  case round =>
    clear R0 D0 B10
    obtain ⟨k, l, u, hk, rfl, rfl, D, R, Bw⟩ := hrel
    have ZR := Lib.hid (Z.out.low Bw.out hz1)
    by_cases hlt : k < lim
    · cases u with
      | nil =>
        have HR : Hid (pgDecR (pgDec S) = (0, [], 4)) := Lib.hid (by
          have h1 := rdSt_mono (rdSt_stop D.out rfl) (show k + 1 ≤ lim by omega)
          unfold pgDec
          rw [if_pos HS.out, HR9.out, HLIM.out, h1]; rfl)
        obtain ⟨U, hU⟩ : ∃ U, bs [] = U := ⟨_, rfl⟩
        have he : U.toList = [] := by rw [← hU, bs_list]
        rw [hU]
        clear hU
        go_wp2_with ((with_reducible refine at_store rfl ?_); refine wpList_put_row rfl _ _ _ rfl rfl w.heap.size _ rfl rfl _ _ ZR.out (by kernel_rfl) rfl (by first | kernel_rfl | simp [Value.oneCell']) ?_; intro w8 Z8 B8)
        (try simp only [Exit.inBlock, Exit.then])
        refine bodyPost_ret (v := .tuple #[.agg #[.int .i64 0, .slice none 0 0], .int .i64 4]) ?_ rfl ⟨none, 0, 0, by rw [HR.out], by rw [HR.out]; exact IsSlots.nil _, ?_⟩
        · refine Eq.trans (results_cell_one (p := 2) (u := 3) ?_ _ _ w.heap.size _ _ _ fs ?_ Z8 Hu.out (by kernel_rfl)) ?_
          all_goals rfl
        · have hq := B1.out.trans (Bw.out.mono (by omega))
          exact hq.trans (B8.below (Nat.le_refl _) hq.size)
      | cons b u =>
        obtain ⟨l1, l2, l3⟩ := rdSt_len D.out
        have hul : u.length + 1 + slSum l ≤ 240 := by
          have h1 := HS.out
          have h2 : R9.length = 231 := by rw [← HR9.out, List.length_drop, h1]
          simp at l2; omega
        obtain ⟨m, hm⟩ : ∃ m, b.toNat = m := ⟨_, rfl⟩
        have hm256 : m < 256 := by rw [← hm]; exact b.toNat_lt
        have HM := Lib.hid hm
        obtain ⟨U, hU⟩ : ∃ U, bs (b :: u) = U := ⟨_, rfl⟩
        have he : U.toList.isEmpty = false := by rw [← hU, bs_list]; rfl
        have he2 : ¬ U.toList = [] := by rw [← hU, bs_list]; simp
        have hUs : 0 < U.size := by rw [← hU, bs_size]; simp
        have hU0 : U[0].toNat = m := by subst hU; rw [bs_at]; exact hm
        have hU1 : U.extract 1 U.size = bs u := by rw [← hU]; rw [bs_skip _ 1 _ (by rw [bs_size])]; rfl
        have hUm : U.size ≤ 240 := by rw [← hU, bs_size]; simp; omega
        obtain ⟨V, hV⟩ : ∃ V, bs u = V := ⟨_, rfl⟩
        have hVs : V.size = u.length := by rw [← hV, bs_size]
        obtain ⟨vl, hvl⟩ : ∃ vl, u.length = vl := ⟨_, rfl⟩
        have hvl2 : vl ≤ 240 := by omega
        rw [hvl] at hVs
        rw [hV] at hU1
        rw [hU]
        have hl32 : l.length ≤ 256 := by omega
        clear hm hU l1 l2 l3 hul
        by_cases h255 : m = 255
        · have hE : rdOne (b :: u) = some (Sl.none, u) := by simp only [rdOne]; rw [if_pos (HM.out.trans h255)]
          have D2 := Lib.hid (rdSt_step D.out hE)
          have hb : ((m : Int) == 255) = true := by simp [h255]
          have HV := Lib.hid hV
          have Hvl := Lib.hid hvl
          clear h255 hE hV hvl
          go_wp2_with (at_builtin; refine grow_new slotElem rfl (.tmp 35) (.tmp 37) rfl w1.heap.size _ _ l.length (flat l) rfl (by exact R.out) 1 #[.bool false, .string ⟨#[]⟩] rfl rfl (by simp [Value.oneCell']) (by omega) (by omega) Bw.out.size ?_; intro v6 w6 R6 g6 b6)
          go_roundw
          case rel => exact ⟨k + 1, l ++ [Sl.none], u, by omega, by go_num, by rw [HV.out], D2, Lib.hid (RowS.snoc R6), Lib.hid (Bw.out.trans b6)⟩
          case measure => simp [intOf]; omega
        · have hb : ((m : Int) == 255) = false := by simp; omega
          by_cases hlong : vl < m
          · have HR : Hid (pgDecR (pgDec S) = (0, [], 4)) := Lib.hid (by
              have hE : rdOne (b :: u) = none := by
                simp only [rdOne]; rw [if_neg (by rw [HM.out]; exact h255), if_pos (by rw [HM.out, hvl]; exact hlong)]
              have h1 := rdSt_mono (rdSt_stop D.out hE) (show k + 1 ≤ lim by omega)
              unfold pgDec
              rw [if_pos HS.out, HR9.out, HLIM.out, h1]; rfl)
            clear h255 hV hvl
            go_wp2_with ((with_reducible refine at_store rfl ?_); refine wpList_put_row rfl _ _ _ rfl rfl w.heap.size _ rfl rfl _ _ ZR.out (by kernel_rfl) rfl (by first | kernel_rfl | simp [Value.oneCell']) ?_; intro w8 Z8 B8)
            (try simp only [Exit.inBlock, Exit.then])
            refine bodyPost_ret (v := .tuple #[.agg #[.int .i64 0, .slice none 0 0], .int .i64 4]) ?_ rfl ⟨none, 0, 0, by rw [HR.out], by rw [HR.out]; exact IsSlots.nil _, ?_⟩
            · refine Eq.trans (results_cell_one (p := 2) (u := 3) ?_ _ _ w.heap.size _ _ _ fs ?_ Z8 Hu.out (by kernel_rfl)) ?_
              all_goals rfl
            · have hq := B1.out.trans (Bw.out.mono (by omega))
              exact hq.trans (B8.below (Nat.le_refl _) hq.size)
          · have hE : rdOne (b :: u) = some (⟨true, bs (u.take m)⟩, u.drop m) := by
              simp only [rdOne]; rw [if_neg (by rw [HM.out]; exact h255), if_neg (by rw [HM.out, hvl]; exact hlong), HM.out]
            have D2 := Lib.hid (rdSt_step D.out hE)
            have hV1 : V.extract 0 m = bs (u.take m) := by rw [← hV]; exact bs_take u m
            have hV2 : V.extract m vl = bs (u.drop m) := by rw [← hV]; exact bs_skip u m vl hvl.symm
            obtain ⟨X, hX⟩ : ∃ X, bs (u.take m) = X := ⟨_, rfl⟩
            rw [hX] at hV1 D2
            obtain ⟨Y, hY⟩ : ∃ Y, bs (u.drop m) = Y := ⟨_, rfl⟩
            rw [hY] at hV2
            have HY := Lib.hid hY
            clear h255 hE hV hvl hX hY
            go_wp2_with (at_builtin; refine grow_new slotElem rfl (.tmp 45) (.tmp 50) rfl w1.heap.size _ _ l.length (flat l) rfl (by exact R.out) 1 #[.bool true, .string X] rfl rfl (by simp [Value.oneCell']) (by omega) (by omega) Bw.out.size ?_; intro v6 w6 R6 g6 b6)
            go_roundw
            case rel => exact ⟨k + 1, l ++ [⟨true, X⟩], u.drop m, by omega, by go_num, by rw [HY.out], D2, Lib.hid (RowS.snoc R6), Lib.hid (Bw.out.trans b6)⟩
            case measure => simp [intOf]; omega
    · obtain rfl : k = lim := by omega
      obtain ⟨l1, l2, l3⟩ := rdSt_len D.out
      obtain ⟨A, cap, rfl, I⟩ := R.out.slots (fun x hx => by have := l3 x hx; omega)
      have HPD : Hid (pgDec S = if slGood N l = true ∧ pgBytes N l = S then some ((N : Int), l) else none) := Lib.hid (by
        unfold pgDec
        rw [if_pos HS.out, HR9.out, HLIM.out, D.out, HL8.out, HN.out])
      have HI := Lib.hid I
      clear l1 l2 l3 I R D HLIM HR9 HL8 HN HS CH
      have hcapA := HI.out.cap
      have hmostA := HI.out.most
      by_cases hbig : 1099511627776 < N
      · have HR : Hid (pgDecR (pgDec S) = (0, [], 4)) := Lib.hid (by
          rw [HPD.out, if_neg]; rfl
          rintro ⟨hg, _⟩
          have := ((slGood_iff _ _).1 hg).1; omega)
        have hb : (N : Int) > 1099511627776 := by omega
        obtain ⟨q, hq⟩ : ∃ q, IntKind.i64.wrap (N : Int) = q := ⟨_, rfl⟩
        have CE := fun w h => penc_any q A l.length cap l w h
        obtain ⟨E, hE⟩ : ∃ E, pgEnc q l = E := ⟨_, rfl⟩
        rw [hE] at CE
        obtain ⟨E1, E2⟩ := E
        simp only at CE
        replace CE := Lib.hid CE
        clear hE
        go_upto_region 20 with (fail)
        have Q4 := Lib.hid (Has.new wr (.cells #[.int .i64 q, .slice A l.length cap] 29))
        have Z4 := Lib.hid (ZR.out.alloc (.cells #[.int .i64 q, .slice A l.length cap] 29))
        have I4 := Lib.hid (HI.out.alloc (.cells #[.int .i64 q, .slice A l.length cap] 29))
        have B4 := Lib.hid (bup (B1.out.trans (Bw.out.mono (Nat.le_of_lt hz1))) (bnew wr (.cells #[.int .i64 q, .slice A l.length cap] 29)))
        generalize World.alloc wr (.cells #[.int .i64 q, .slice A l.length cap] 29) = w4 at Q4 Z4 I4 B4 ⊢
        have q0 := Q4.out.cell 0 _ rfl
        have q1 := Q4.out.cell 1 _ rfl
        go_wp2_with fail
        refine (CE.out _ I4.out).mono ?_
        rintro e w5 ⟨rfl, b5⟩
        have Z5 := Lib.hid (Z4.out.below b5)
        have B5 := Lib.hid (bup B4.out b5)
        have Q5 := Lib.hid (Q4.out.below b5)
        have I5 := Lib.hid (I4.out.below b5)
        clear q0 q1 b5 Z4 Q4 I4 B4
        go_wp2_with ((with_reducible refine at_store rfl ?_); refine wpList_put_row rfl _ _ _ rfl rfl w.heap.size _ rfl rfl _ _ Z5.out (by kernel_rfl) rfl (by first | kernel_rfl | simp [Value.oneCell']) ?_; intro w8 Z8 B8)
        (try simp only [Exit.inBlock, Exit.then])
        refine bodyPost_ret (v := .tuple #[.agg #[.int .i64 0, .slice none 0 0], .int .i64 4]) ?_ rfl ⟨none, 0, 0, by rw [HR.out], by rw [HR.out]; exact IsSlots.nil _, ?_⟩
        · refine Eq.trans (results_cell_one (p := 2) (u := 3) ?_ _ _ w.heap.size _ _ _ fs ?_ Z8 Hu.out (by kernel_rfl)) ?_
          all_goals rfl
        · exact B5.out.trans (B8.below (Nat.le_refl _) B5.out.size)
      · have CE := fun w h => penc_any (N : Int) A l.length cap l w h
        have hbs : (N : Int) ≤ 1099511627776 := by omega
        clear hbig
        cases hg : slGood N l with
        | false =>
          have HR : Hid (pgDecR (pgDec S) = (0, [], 4)) := Lib.hid (by
            rw [HPD.out, if_neg]; rfl
            rintro ⟨h, _⟩
            rw [hg] at h; cases h)
          have hE : pgEnc N l = ([], 1) := by simp [pgEnc, hg]
          rw [hE] at CE
          simp only at CE
          obtain ⟨T, hT⟩ : ∃ T, bs [] = T := ⟨_, rfl⟩
          rw [hT] at CE
          replace CE := Lib.hid CE
          clear hE hT hg
          go_upto_region 20 with (fail)
          have Q4 := Lib.hid (Has.new wr (.cells #[.int .i64 (N : Int), .slice A l.length cap] 29))
          have Z4 := Lib.hid (ZR.out.alloc (.cells #[.int .i64 (N : Int), .slice A l.length cap] 29))
          have I4 := Lib.hid (HI.out.alloc (.cells #[.int .i64 (N : Int), .slice A l.length cap] 29))
          have B4 := Lib.hid (bup (B1.out.trans (Bw.out.mono (Nat.le_of_lt hz1))) (bnew wr (.cells #[.int .i64 (N : Int), .slice A l.length cap] 29)))
          generalize World.alloc wr (.cells #[.int .i64 (N : Int), .slice A l.length cap] 29) = w4 at Q4 Z4 I4 B4 ⊢
          have q0 := Q4.out.cell 0 _ rfl
          have q1 := Q4.out.cell 1 _ rfl
          go_wp2_with fail
          refine (CE.out _ I4.out).mono ?_
          rintro e w5 ⟨rfl, b5⟩
          have Z5 := Lib.hid (Z4.out.below b5)
          have B5 := Lib.hid (bup B4.out b5)
          have Q5 := Lib.hid (Q4.out.below b5)
          have I5 := Lib.hid (I4.out.below b5)
          clear q0 q1 b5 Z4 Q4 I4 B4
          go_wp2_with ((with_reducible refine at_store rfl ?_); refine wpList_put_row rfl _ _ _ rfl rfl w.heap.size _ rfl rfl _ _ Z5.out (by kernel_rfl) rfl (by first | kernel_rfl | simp [Value.oneCell']) ?_; intro w8 Z8 B8)
          (try simp only [Exit.inBlock, Exit.then])
          refine bodyPost_ret (v := .tuple #[.agg #[.int .i64 0, .slice none 0 0], .int .i64 4]) ?_ rfl ⟨none, 0, 0, by rw [HR.out], by rw [HR.out]; exact IsSlots.nil _, ?_⟩
          · refine Eq.trans (results_cell_one (p := 2) (u := 3) ?_ _ _ w.heap.size _ _ _ fs ?_ Z8 Hu.out (by kernel_rfl)) ?_
            all_goals rfl
          · exact B5.out.trans (B8.below (Nat.le_refl _) B5.out.size)
        | true =>
          have hE : pgEnc N l = (pgBytes N l, 0) := by simp [pgEnc, hg]
          rw [hE] at CE
          simp only at CE
          by_cases heq : pgBytes N l = S
          · have HR : Hid (pgDecR (pgDec S) = ((N : Int), l, 0)) := Lib.hid (by
              rw [HPD.out, if_pos ⟨hg, heq⟩]; rfl)
            rw [heq, HB.out] at CE
            replace CE := Lib.hid CE
            clear hE hg heq
            go_upto_region 20 with (fail)
            have Q4 := Lib.hid (Has.new wr (.cells #[.int .i64 (N : Int), .slice A l.length cap] 29))
            have Z4 := Lib.hid (ZR.out.alloc (.cells #[.int .i64 (N : Int), .slice A l.length cap] 29))
            have I4 := Lib.hid (HI.out.alloc (.cells #[.int .i64 (N : Int), .slice A l.length cap] 29))
            have B4 := Lib.hid (bup (B1.out.trans (Bw.out.mono (Nat.le_of_lt hz1))) (bnew wr (.cells #[.int .i64 (N : Int), .slice A l.length cap] 29)))
            generalize World.alloc wr (.cells #[.int .i64 (N : Int), .slice A l.length cap] 29) = w4 at Q4 Z4 I4 B4 ⊢
            have q0 := Q4.out.cell 0 _ rfl
            have q1 := Q4.out.cell 1 _ rfl
            go_wp2_with fail
            refine (CE.out _ I4.out).mono ?_
            rintro e w5 ⟨rfl, b5⟩
            have Z5 := Lib.hid (Z4.out.below b5)
            have B5 := Lib.hid (bup B4.out b5)
            have Q5 := Lib.hid (Q4.out.below b5)
            have I5 := Lib.hid (I4.out.below b5)
            clear q0 q1 b5 Z4 Q4 I4 B4
            have q0 := Q5.out.cell 0 _ rfl
            have q1 := Q5.out.cell 1 _ rfl
            go_wp2_with ((with_reducible refine at_store rfl ?_); refine wpList_put_row rfl _ _ _ rfl rfl w.heap.size _ rfl rfl _ _ Z5.out (by kernel_rfl) rfl (by first | kernel_rfl | simp [Value.oneCell']) ?_; intro w8 Z8 B8)
            (try simp only [Exit.inBlock, Exit.then])
            refine bodyPost_ret (v := .tuple #[.agg #[.int .i64 (N : Int), .slice A l.length cap], .int .i64 0]) ?_ rfl ⟨A, l.length, cap, by rw [HR.out], by rw [HR.out]; exact I5.out.apart Z5.out B8, ?_⟩
            · refine Eq.trans (results_cell_one (p := 2) (u := 3) ?_ _ _ w.heap.size _ _ _ fs ?_ Z8 Hu.out (by kernel_rfl)) ?_
              all_goals rfl
            · exact B5.out.trans (B8.below (Nat.le_refl _) B5.out.size)
          · have HR : Hid (pgDecR (pgDec S) = (0, [], 4)) := Lib.hid (by
              rw [HPD.out, if_neg]; rfl
              rintro ⟨_, h⟩
              exact heq h)
            obtain ⟨T, hT⟩ : ∃ T, bs (pgBytes N l) = T := ⟨_, rfl⟩
            have hTB2 : (T.toList == B.toList) = false := by
              rw [← hT, ← HB.out, bs_list, bs_list]
              simpa using heq
            have hTB3 : ¬ T.toList = B.toList := by simpa using hTB2
            rw [hT] at CE
            replace CE := Lib.hid CE
            clear hE hT hg heq
            go_upto_region 20 with (fail)
            have Q4 := Lib.hid (Has.new wr (.cells #[.int .i64 (N : Int), .slice A l.length cap] 29))
            have Z4 := Lib.hid (ZR.out.alloc (.cells #[.int .i64 (N : Int), .slice A l.length cap] 29))
            have I4 := Lib.hid (HI.out.alloc (.cells #[.int .i64 (N : Int), .slice A l.length cap] 29))
            have B4 := Lib.hid (bup (B1.out.trans (Bw.out.mono (Nat.le_of_lt hz1))) (bnew wr (.cells #[.int .i64 (N : Int), .slice A l.length cap] 29)))
            generalize World.alloc wr (.cells #[.int .i64 (N : Int), .slice A l.length cap] 29) = w4 at Q4 Z4 I4 B4 ⊢
            have q0 := Q4.out.cell 0 _ rfl
            have q1 := Q4.out.cell 1 _ rfl
            go_wp2_with fail
            refine (CE.out _ I4.out).mono ?_
            rintro e w5 ⟨rfl, b5⟩
            have Z5 := Lib.hid (Z4.out.below b5)
            have B5 := Lib.hid (bup B4.out b5)
            have Q5 := Lib.hid (Q4.out.below b5)
            have I5 := Lib.hid (I4.out.below b5)
            clear q0 q1 b5 Z4 Q4 I4 B4
            go_wp2_with ((with_reducible refine at_store rfl ?_); refine wpList_put_row rfl _ _ _ rfl rfl w.heap.size _ rfl rfl _ _ Z5.out (by kernel_rfl) rfl (by first | kernel_rfl | simp [Value.oneCell']) ?_; intro w8 Z8 B8)
            (try simp only [Exit.inBlock, Exit.then])
            refine bodyPost_ret (v := .tuple #[.agg #[.int .i64 0, .slice none 0 0], .int .i64 4]) ?_ rfl ⟨none, 0, 0, by rw [HR.out], by rw [HR.out]; exact IsSlots.nil _, ?_⟩
            · refine Eq.trans (results_cell_one (p := 2) (u := 3) ?_ _ _ w.heap.size _ _ _ fs ?_ Z8 Hu.out (by kernel_rfl)) ?_
              all_goals rfl
            · exact B5.out.trans (B8.below (Nat.le_refl _) B5.out.size)
theorem pdec_any (s : ByteArray) (hs : s.size ≤ 9223372036854775807) (w : World) :
    Calls Try.prog 51 #[.string s] w (PageOut (pgDecR (pgDec s.data.toList)) w) := by
  have hl : s.data.toList.length = s.size := Array.length_toList
  by_cases h : s.size = 240
  · exact pdec_in s.data.toList (by omega) w
  · have : pgDec s.data.toList = none := by unfold pgDec; rw [if_neg (by omega)]
    rw [this]
    exact pdec_short s hs h w
end Go.Proofs.Ytakdagmkkelnfaa

/-! The reference's Decode. -/
namespace Go.Proofs.Ytakdagmkkelnfaa
open Go.RowKit
set_option linter.unusedVariables false
set_option linter.unusedSimpArgs false

theorem getN_high {S : List UInt8} (hS : S.length = 240) (h : getN (S.take 8) ≤ 1099511627776) : (S.getD 0 0).toNat = 0 ∧ (S.getD 1 0).toNat = 0 := by
  match S, hS with
  | a0 :: a1 :: a2 :: a3 :: a4 :: a5 :: a6 :: a7 :: r, _ =>
    simp [getN] at h ⊢
    omega
theorem pgDec_high {S : List UInt8} (h : (S.getD 0 0).toNat ≠ 0 ∨ (S.getD 1 0).toNat ≠ 0) : pgDec S = none := by
  cases hd : pgDec S with
  | none => rfl
  | some p =>
    exfalso
    unfold pgDec at hd
    split at hd
    · rename_i hS
      split at hd
      · cases hd
      · split at hd
        · rename_i hg
          have h1 := ((slGood_iff _ _).1 hg.1).1
          have := getN_high hS (by omega)
          omega
        · cases hd
    · cases hd
theorem getN_two {S : List UInt8} (hS : 2 ≤ S.length) (h0 : (S.getD 0 0).toNat = 0) (h1 : (S.getD 1 0).toNat = 0) : getN (S.take 2) = 0 := by
  match S, hS with
  | a0 :: a1 :: r, _ =>
    simp at h0 h1
    simp [getN, h0, h1]
theorem getN_take {S : List UInt8} {i : Nat} (h : i < S.length) : getN (S.take (i + 1)) = getN (S.take i) * 256 + (S.getD i 0).toNat := by
  rw [List.take_add_one, List.getElem?_eq_getElem h]
  simp only [Option.toList]
  rw [getN_snoc, List.getD_eq_getElem?_getD, List.getElem?_eq_getElem h]
  rfl
set_option maxRecDepth 100000 in
set_option maxHeartbeats 8000000 in
theorem rdec_early (S : List UInt8) (hS : S.length ≤ 9223372036854775807) (h : S.length ≠ 240 ∨ (S.length = 240 ∧ (S.getD 0 0).toNat ≠ 0) ∨ (S.length = 240 ∧ (S.getD 0 0).toNat = 0 ∧ (S.getD 1 0).toNat ≠ 0)) (w : World) :
    Calls Try.prog 48 #[.string (bs S)] w (PageOut (0, [], 4) w) := by
  obtain ⟨fs, hpu⟩ := pageUnd
  have Hu := Lib.hid hpu
  clear hpu
  obtain ⟨B, hBe⟩ : ∃ B, bs S = B := ⟨_, rfl⟩
  have hBs : B.size = S.length := by rw [← hBe, bs_size]
  have hat : ∀ k (h : k < B.size), B[k].toNat = (S.getD k 0).toNat := fun k h => by subst hBe; rw [bs_at]
  rw [hBe]
  have cases3 : (B.size ≠ 240) ∨ (∃ h0 : 0 < B.size, B.size = 240 ∧ B[0].toNat ≠ 0) ∨ (∃ (h0 : 0 < B.size) (h1 : 1 < B.size), B.size = 240 ∧ B[0].toNat = 0 ∧ B[1].toNat ≠ 0) := by
    rcases h with h | ⟨h, h0⟩ | ⟨h, h0, h1⟩
    · exact .inl (by omega)
    · exact .inr (.inl ⟨by omega, by omega, by rw [hat]; exact h0⟩)
    · exact .inr (.inr ⟨by omega, by omega, by omega, by rw [hat]; exact h0, by rw [hat]; exact h1⟩)
  clear hat h hBe
  rw [← hBs] at hS
  clear hBs
  rcases cases3 with h | ⟨hz, h, h0⟩ | ⟨hz, hz1, h, h0, h1⟩
  · have hb : ((B.size : Int) != 240) = true := by simp; omega
    go_enter Try.func48, Try.ntmps48
    go_wp2_with ((with_reducible refine at_store rfl ?_); refine wpList_put_row rfl _ _ _ rfl rfl w.heap.size _ rfl rfl _ _ (Has.new w _) (by kernel_rfl) rfl (by first | kernel_rfl | simp [Value.oneCell']) ?_; intro w8 Z8 B8)
    (try simp only [Exit.inBlock, Exit.then])
    refine bodyPost_ret (v := .tuple #[.agg #[.int .i64 0, .slice none 0 0], .int .i64 4]) ?_ rfl ⟨none, 0, 0, rfl, IsSlots.nil _, ?_⟩
    · refine Eq.trans (results_cell_one (p := 2) (u := 3) ?_ _ _ w.heap.size _ _ _ fs ?_ Z8 Hu.out (by kernel_rfl)) ?_
      all_goals rfl
    · exact (bnew w _).trans (B8.below (Nat.le_refl _) (bnew w _).size)
  · have hb : ((B[0].toNat : Int) != 0) = true := by simp; omega
    go_enter Try.func48, Try.ntmps48
    go_wp2_with ((with_reducible refine at_store rfl ?_); refine wpList_put_row rfl _ _ _ rfl rfl w.heap.size _ rfl rfl _ _ (Has.new w _) (by kernel_rfl) rfl (by first | kernel_rfl | simp [Value.oneCell']) ?_; intro w8 Z8 B8)
    (try simp only [Exit.inBlock, Exit.then])
    refine bodyPost_ret (v := .tuple #[.agg #[.int .i64 0, .slice none 0 0], .int .i64 4]) ?_ rfl ⟨none, 0, 0, rfl, IsSlots.nil _, ?_⟩
    · refine Eq.trans (results_cell_one (p := 2) (u := 3) ?_ _ _ w.heap.size _ _ _ fs ?_ Z8 Hu.out (by kernel_rfl)) ?_
      all_goals rfl
    · exact (bnew w _).trans (B8.below (Nat.le_refl _) (bnew w _).size)
  · have hb0 : ((B[0].toNat : Int) != 0) = false := by simp; omega
    have hb : ((B[1].toNat : Int) != 0) = true := by simp; omega
    clear h0
    go_enter Try.func48, Try.ntmps48
    go_wp2_with ((with_reducible refine at_store rfl ?_); refine wpList_put_row rfl _ _ _ rfl rfl w.heap.size _ rfl rfl _ _ (Has.new w _) (by kernel_rfl) rfl (by first | kernel_rfl | simp [Value.oneCell']) ?_; intro w8 Z8 B8)
    (try simp only [Exit.inBlock, Exit.then])
    refine bodyPost_ret (v := .tuple #[.agg #[.int .i64 0, .slice none 0 0], .int .i64 4]) ?_ rfl ⟨none, 0, 0, rfl, IsSlots.nil _, ?_⟩
    · refine Eq.trans (results_cell_one (p := 2) (u := 3) ?_ _ _ w.heap.size _ _ _ fs ?_ Z8 Hu.out (by kernel_rfl)) ?_
      all_goals rfl
    · exact (bnew w _).trans (B8.below (Nat.le_refl _) (bnew w _).size)
theorem RowS.keep {base : Nat} {w w' : World} {v : Value} {q : List Sl} {g : Nat} (h : RowS base w v q) (hb : But g w w') (hg : g < base) : RowS base w' v q := by
  refine ownsRow_other h (row := some g) ⟨hb.os, hb.tape, hb.output, hb.size, fun k hk hne => hb.block k hk (fun e => hne (by rw [e]))⟩ ?_
  intro g' hg' e
  cases e
  have := (World.ownsRow.lt h _ hg').1
  omega
theorem rdOne_at {S : List UInt8} (hS : S.length = 240) {a m : Nat} (ha : a < 240) (hm : (S.getD a 0).toNat = m) :
    rdOne (S.drop a) = if m = 255 then some (Sl.none, S.drop (a + 1)) else if 240 < a + 1 + m then none else some (⟨true, bs ((S.drop (a + 1)).take m)⟩, S.drop (a + 1 + m)) := by
  have hd : S.drop a = S.getD a 0 :: S.drop (a + 1) := by
    rw [List.drop_eq_getElem_cons (by omega), List.getD_eq_getElem?_getD, List.getElem?_eq_getElem (by omega)]; rfl
  rw [hd]
  simp only [rdOne]
  rw [hm, List.length_drop, List.drop_drop, hS]
  by_cases h1 : m = 255
  · rw [if_pos h1, if_pos h1]
  · rw [if_neg h1, if_neg h1]
    by_cases h2 : 240 < a + 1 + m
    · rw [if_pos (by omega), if_pos h2]
    · rw [if_neg (by omega), if_neg h2]
theorem bs_mid (r : List UInt8) (i j : Nat) : (bs r).extract i j = bs ((r.drop i).take (j - i)) := by
  apply ByteArray.ext
  apply Array.ext'
  simp [bs, ByteArray.data_extract, List.extract_eq_take_drop]
set_option maxRecDepth 100000 in
set_option maxHeartbeats 8000000 in
theorem rdec_in (S : List UInt8) (hS : S.length = 240) (h0 : (S.getD 0 0).toNat = 0) (h1 : (S.getD 1 0).toNat = 0) (w : World) :
    Calls Try.prog 48 #[.string (bs S)] w (PageOut (pgDecR (pgDec S)) w) := by
  obtain ⟨fs, hpu⟩ := pageUnd
  have Hu := Lib.hid hpu
  have HS := Lib.hid hS
  obtain ⟨B, hBe⟩ : ∃ B, bs S = B := ⟨_, rfl⟩
  have hB : B.size = 240 := by rw [← hBe, bs_size, hS]
  have hat : ∀ k (h : k < B.size), B[k].toNat = (S.getD k 0).toNat := fun k h => by subst hBe; rw [bs_at]
  have b0l : 0 < B.size := by omega
  have b1l : 1 < B.size := by omega
  have hb0 : ((B[0].toNat : Int) != 0) = false := by rw [hat, h0]; rfl
  have hb1 : ((B[1].toNat : Int) != 0) = false := by rw [hat, h1]; rfl
  have HB := Lib.hid hBe
  have HAT := Lib.hid hat
  have HN2 := Lib.hid (getN_two (by omega) h0 h1)
  have HNT := Lib.hid (fun i (h : i < 240) => getN_take (S := S) (i := i) (by omega))
  have HNL : Hid (∀ i, i ≤ 8 → getN (S.take i) < 281474976710656) := Lib.hid (fun i hi => by
    match S, hS with
    | a0 :: a1 :: a2 :: a3 :: a4 :: a5 :: a6 :: a7 :: r, _ =>
      simp at h0 h1
      have q2 := a2.toNat_lt
      have q3 := a3.toNat_lt
      have q4 := a4.toNat_lt
      have q5 := a5.toNat_lt
      have q6 := a6.toNat_lt
      have q7 := a7.toNat_lt
      match i, hi with
      | 0, _ => simp [getN]
      | 1, _ => simp [getN, h0]
      | 2, _ => simp [getN, h0, h1]
      | 3, _ => simp [getN, h0, h1]; omega
      | 4, _ => simp [getN, h0, h1]; omega
      | 5, _ => simp [getN, h0, h1]; omega
      | 6, _ => simp [getN, h0, h1]; omega
      | 7, _ => simp [getN, h0, h1]; omega
      | 8, _ => simp [getN, h0, h1]; omega)
  rw [hBe]
  clear hBe hS hat h0 h1
  go_enter Try.func48, Try.ntmps48
  go_upto_region 4 with (fail)
  generalize hw1 : World.alloc (World.alloc w _) _ = w1
  have Z := Lib.hid (by rw [← hw1]; exact (Has.new w _).alloc _ : Has w1 w.heap.size (.cells #[.int .i64 0, .slice none 0 0] 29))
  have P := Lib.hid (by rw [← hw1]; exact Has.new1 w _ _ : Has w1 (w.heap.size + 1) (.cells #[.int .i64 0, .slice none 0 0] 29))
  have B1 := Lib.hid (by rw [← hw1]; exact bup (bnew w _) (bnew _ _) : Below w.heap.size w w1)
  have hz1 : w.heap.size + 1 < w1.heap.size := P.out.lt
  clear hw1 hb0 hb1 b0l b1l
  go_wp2_with fail
  go_loopw [5] (fun i wr => ∃ j : Nat, 2 ≤ j ∧ j ≤ 8 ∧ i = .int .i64 j ∧ Hid (Has wr (w.heap.size + 1) (.cells #[.int .i64 (getN (S.take j) : Nat), .slice none 0 0] 29)) ∧ Hid (Has wr w.heap.size (.cells #[.int .i64 0, .slice none 0 0] 29)) ∧ Hid (Below w.heap.size w wr)) (fun i _ => 8 - (intOf i).toNat)
  case atStart => exact ⟨2, by omega, by omega, rfl, by rw [HN2.out]; exact P, Z, B1⟩
  case round =>
    clear P Z B1 hz1
    obtain ⟨j, hj2, hj8, rfl, P, Z, B1⟩ := hrel
    have hz1 : w.heap.size + 1 < wr.heap.size := P.out.lt
    by_cases hlt : j < 8
    · have hjB : j < B.size := by omega
      have hNT := HNT.out j (by omega)
      have hNL := HNL.out j (by omega)
      rw [← HAT.out j hjB] at hNT
      have hbj : B[j].toNat < 256 := B[j].toNat_lt
      have HNJ := Lib.hid hNT
      obtain ⟨x, hx⟩ : ∃ x, getN (S.take j) = x := ⟨_, rfl⟩
      rw [hx] at P hNL HNJ
      clear hNT hx
      have p0 := P.out.cell 0 _ rfl
      have f0 := P.out.free 0
      have hj0 : (0 : Int) ≤ (j : Int) := by omega
      obtain ⟨y, hy⟩ : ∃ y, B[j].toNat = y := ⟨_, rfl⟩
      have hidx : ∀ w, (Instr.index 9 (.string B) (.int .i64 (j : Int))).run Try.prog w = .ok (.int .u8 (y : Int)) w := by
        intro w
        rw [run_index_string (P := Try.prog) w 9 B .i64 j Try.underlying9]
        simp [hjB, ← hy]
      rw [hy] at hbj HNJ
      clear hy
      have hw1 : IntKind.i64.wrap (256 * (x : Int)) = 256 * x := IntWalk.i64_in _ (by omega)
      have hw2 : IntKind.i64.wrap (256 * (x : Int) + y) = 256 * x + y := IntWalk.i64_in _ (by omega)
      have HX : Hid (Has (wr.setCell ⟨w.heap.size + 1, 0, none⟩ (.int .i64 (256 * x + y))) (w.heap.size + 1) (.cells #[.int .i64 (getN (S.take (j + 1)) : Nat), .slice none 0 0] 29)) := Lib.hid (by
        have e := HNJ.out
        rw [show ((getN (S.take (j + 1)) : Nat) : Int) = 256 * x + y by rw [e]; push_cast; omega]
        exact P.out.set 0 _)
      go_upto_region 7 with (fail)
      go_still_tail 9, (by kernel_rfl)
      change wpList _ _ _ _ _ wr.drew
      have P' : Hid (Has wr.drew (w.heap.size + 1) (.cells #[.int .i64 x, .slice none 0 0] 29)) := P
      have ZX : Hid (Has (wr.setCell ⟨w.heap.size + 1, 0, none⟩ (.int .i64 (256 * x + y))) w.heap.size (.cells #[.int .i64 0, .slice none 0 0] 29)) := Lib.hid (Z.out.setOther (by omega) _ _)
      have BX : Hid (Below w.heap.size w (wr.setCell ⟨w.heap.size + 1, 0, none⟩ (.int .i64 (256 * x + y)))) := Lib.hid (B1.out.setCell (p := ⟨w.heap.size + 1, 0, none⟩) (by show w.heap.size ≤ w.heap.size + 1; omega) _)
      go_wp2_with fail
      go_roundw
      case rel => exact ⟨j + 1, by omega, by omega, by go_num, Lib.hid HX.out.drew, Lib.hid ZX.out.drew, Lib.hid BX.out.drew⟩
      case measure => simp [intOf]; omega
    · obtain rfl : j = 8 := by omega
      rw [show ((8 : Nat) : Int) = (8 : Int) from rfl]
      have h8l : 8 < B.size := by omega
      obtain ⟨lim, hlim⟩ : ∃ lim, B[8].toNat = lim := ⟨_, rfl⟩
      have hlim8 : lim < 256 := by rw [← hlim]; exact B[8].toNat_lt
      have HLIM : Hid ((S.getD 8 0).toNat = lim) := Lib.hid (by rw [← HAT.out 8 h8l]; exact hlim)
      have hNL := HNL.out 8 (by omega)
      obtain ⟨N, hN⟩ : ∃ N, getN (S.take 8) = N := ⟨_, rfl⟩
      have HN := Lib.hid hN
      rw [hN] at P hNL
      obtain ⟨w2, rfl⟩ : ∃ w2 : World, w2 = wr := ⟨_, rfl⟩
      have D0 : Hid (rdSt (S.drop 9) 0 = some ([], S.drop 9)) := Lib.hid rfl
      have R0 := Lib.hid (RowS.nil w2.heap.size w2)
      have hHP : Hid (∀ o : Option (List Sl × List UInt8), rdSt (S.drop 9) lim = o → pgDec S = match o with | none => none | some (l, u) => if slGood (N : Int) l = true ∧ pgBytes (N : Int) l = S then some ((N : Int), l) else none) := Lib.hid (fun o ho => by
        unfold pgDec
        rw [if_pos HS.out, HLIM.out, ho, HN.out]
        all_goals (cases o <;> rfl))
      clear hN HN2 HNT HNL hlt hj2 hj8
      go_wp2_with fail
      go_loopw [6, 7] (fun at_ i wr => ∃ (k a : Nat) (l : List Sl) (v : Value), k ≤ lim ∧ 9 ≤ a ∧ a ≤ 240 ∧ at_ = .int .i64 a ∧ i = .int .i64 k ∧ Hid (rdSt (S.drop 9) k = some (l, S.drop a)) ∧ Hid (Has wr (w.heap.size + 1) (.cells #[.int .i64 (N : Int), v] 29)) ∧ Hid (Has wr w.heap.size (.cells #[.int .i64 0, .slice none 0 0] 29)) ∧ Hid (RowS w2.heap.size wr v l) ∧ Hid (Below w.heap.size w wr) ∧ w2.heap.size ≤ wr.heap.size) (fun _ i _ => lim - (intOf i).toNat)
      case atStart => exact ⟨0, 9, [], _, by omega, by omega, by omega, rfl, rfl, D0, P, Z, R0, B1, Nat.le_refl _⟩
      case round =>
        clear D0 P Z R0 B1
        obtain ⟨k, a, l, v, hk, ha9, ha, rfl, rfl, D, P, Z, R, B1, hz2⟩ := hrel
        obtain ⟨A', cap, rfl, hc1, hc2⟩ := R.out.form
        have p0 := P.out.cell 0 _ rfl
        have p1 := P.out.cell 1 _ rfl
        have f1 := P.out.free 1
        by_cases hlt : k < lim
        · by_cases ha2 : 240 ≤ a
          · have HR : Hid (pgDecR (pgDec S) = (0, [], 4)) := Lib.hid (by
              have hd : S.drop a = [] := List.drop_eq_nil_of_le (by rw [HS.out]; exact ha2)
              have h1 := D.out
              rw [hd] at h1
              rw [hHP.out none (rdSt_mono (rdSt_stop h1 rfl) (show k + 1 ≤ lim by omega))]; rfl)
            go_wp2_with ((with_reducible refine at_store rfl ?_); refine wpList_put_row rfl _ _ _ rfl rfl w.heap.size _ rfl rfl _ _ Z.out (by kernel_rfl) rfl (by first | kernel_rfl | simp [Value.oneCell']) ?_; intro w8 Z8 B8)
            (try simp only [Exit.inBlock, Exit.then])
            refine bodyPost_ret (v := .tuple #[.agg #[.int .i64 0, .slice none 0 0], .int .i64 4]) ?_ rfl ⟨none, 0, 0, by rw [HR.out], by rw [HR.out]; exact IsSlots.nil _, ?_⟩
            · refine Eq.trans (results_cell_one (p := 2) (u := 3) ?_ _ _ w.heap.size _ _ _ fs ?_ Z8 Hu.out (by kernel_rfl)) ?_
              all_goals rfl
            · exact B1.out.trans (B8.below (Nat.le_refl _) B1.out.size)
          · have haB : a < B.size := by omega
            obtain ⟨m, hm⟩ : ∃ m, B[a].toNat = m := ⟨_, rfl⟩
            have hm256 : m < 256 := by rw [← hm]; exact B[a].toNat_lt
            have HO := rdOne_at HS.out (show a < 240 by omega) (show (S.getD a 0).toNat = m by rw [← HAT.out a haB]; exact hm)
            obtain ⟨hl1, _, hl3⟩ := rdSt_len D.out
            have hl256 : l.length ≤ 256 := by omega
            clear hl1 hl3
            by_cases h255 : m = 255
            · rw [if_pos h255] at HO
              have D2 := Lib.hid (rdSt_step D.out HO)
              have hb : ((m : Int) == 255) = true := by simp [h255]
              clear HO h255
              go_wp2_with (at_builtin; refine grow_new slotElem rfl (.tmp 56) (.tmp 58) rfl w2.heap.size _ _ l.length (flat l) rfl (by exact R.out) 1 #[.bool false, .string ⟨#[]⟩] rfl rfl (by simp [Value.oneCell']) (by omega) (by omega) hz2 ?_; intro v6 w6 R6 g6 b6; obtain ⟨A6, cap6, rfl, h61, h62⟩ := ownsRow_form R6; have P6 := Lib.hid (P.out.low b6 hz1); have p61 := P6.out.cell 1 _ rfl; have f61 := P6.out.free 1)
              go_roundw
              case rel =>
                have hB6 := B1.out.trans (b6.mono (show w.heap.size ≤ w2.heap.size by omega))
                refine ⟨k + 1, a + 1, l ++ [Sl.none], _, by omega, by omega, by omega, by go_num, by go_num, D2, Lib.hid (P6.out.set 1 _), Lib.hid ((Z.out.low b6 (by omega)).setOther (by omega) _ _), Lib.hid ((RowS.snoc R6).keep (But.set (w.heap.size + 1) 1 _ _) hz1), Lib.hid (hB6.setCell (p := ⟨w.heap.size + 1, 1, none⟩) (by show w.heap.size ≤ w.heap.size + 1; omega) _), ?_⟩
                have := b6.size
                simp; omega
              case measure => simp [intOf]; omega
            · rw [if_neg h255] at HO
              have hb : ((m : Int) == 255) = false := by simp; omega
              by_cases hlong : 240 < a + 1 + m
              · rw [if_pos hlong] at HO
                have HR : Hid (pgDecR (pgDec S) = (0, [], 4)) := Lib.hid (by
                  rw [hHP.out none (rdSt_mono (rdSt_stop D.out HO) (show k + 1 ≤ lim by omega))]; rfl)
                clear HO h255
                go_wp2_with ((with_reducible refine at_store rfl ?_); refine wpList_put_row rfl _ _ _ rfl rfl w.heap.size _ rfl rfl _ _ Z.out (by kernel_rfl) rfl (by first | kernel_rfl | simp [Value.oneCell']) ?_; intro w8 Z8 B8)
                (try simp only [Exit.inBlock, Exit.then])
                refine bodyPost_ret (v := .tuple #[.agg #[.int .i64 0, .slice none 0 0], .int .i64 4]) ?_ rfl ⟨none, 0, 0, by rw [HR.out], by rw [HR.out]; exact IsSlots.nil _, ?_⟩
                · refine Eq.trans (results_cell_one (p := 2) (u := 3) ?_ _ _ w.heap.size _ _ _ fs ?_ Z8 Hu.out (by kernel_rfl)) ?_
                  all_goals rfl
                · exact B1.out.trans (B8.below (Nat.le_refl _) B1.out.size)
              · rw [if_neg hlong] at HO
                have D2 := Lib.hid (rdSt_step D.out HO)
                have hV : B.extract (a + 1) (a + 1 + m) = bs ((S.drop (a + 1)).take m) := by
                  rw [← HB.out, bs_mid, show a + 1 + m - (a + 1) = m by omega]
                obtain ⟨X, hX⟩ : ∃ X, bs ((S.drop (a + 1)).take m) = X := ⟨_, rfl⟩
                rw [hX] at hV D2
                have hV' : B.extract (a + 1) ((a : Int) + 1 + (m : Int)).toNat = X := by rw [show ((a : Int) + 1 + (m : Int)).toNat = a + 1 + m by omega]; exact hV
                clear HO h255 hX
                go_upto_region 20 with (fail)
                have hw1 : IntKind.i64.wrap ((a : Int) + 1 + m) = (a : Int) + 1 + m := IntWalk.i64_in _ (by omega)
                have ha1 : (0 : Int) ≤ (a : Int) + 1 := by omega
                have ha2' : (0 : Int) ≤ (a : Int) + 1 + m := by omega
                have ha3' : (a : Int) + 1 ≤ (a : Int) + 1 + m := by omega
                have ha4' : (a : Int) + 1 + m ≤ 240 := by omega
                have HRow : RowS w2.heap.size (wr.alloc (.cells #[.bool true, .string X] 62)).drew (.slice A' l.length cap) l := ownsRow_below R.out ((bnew wr _).drew)
                have HNew := news_at (Has.new wr (.cells #[.bool true, .string X] 62)).drew
                have HP : Has (wr.alloc (.cells #[.bool true, .string X] 62)).drew (w.heap.size + 1) (.cells #[.int .i64 (N : Int), .slice A' l.length cap] 29) := (P.out.alloc _).drew
                replace HRow := Lib.hid HRow
                replace HNew := Lib.hid HNew
                replace HP := Lib.hid HP
                have HB : w2.heap.size ≤ (wr.alloc (.cells #[.bool true, .string X] 62)).drew.heap.size := by simp; omega
                replace HB := Lib.hid HB
                have hz3 : w.heap.size + 1 < wr.heap.size := by omega
                go_region_law ((refine step_grow_old (w := (wr.alloc (.cells #[.bool true, .string X] 62)).drew) slotElem (by rfl) (.tmp 67) (.tmp 75) (by rfl) w2.heap.size (.slice A' l.length cap) l.length (flat l) (by rfl) HRow.out (some ⟨wr.heap.size, 0, none⟩) 1 1 [.bool true, .string X] (by rfl) rfl (.inr ⟨_, rfl, HNew.out⟩) (by simp [Value.oneCell']) (by omega) (by omega) HB.out ?_; intro v6 w6 R6 g6 b6; obtain ⟨A6, cap6, rfl, h61, h62⟩ := ownsRow_form R6; have P6 := Lib.hid (HP.out.low b6 hz1); have p61 := P6.out.cell 1 _ rfl; have f61 := P6.out.free 1))
                all_goals
                  go_wp2_with fail
                  go_roundw
                  case rel =>
                    have hB6 := ((bup B1.out (bnew wr (.cells #[.bool true, .string X] 62))).drew).trans (b6.mono (show w.heap.size ≤ w2.heap.size by omega))
                    refine ⟨k + 1, a + 1 + m, l ++ [⟨true, X⟩], _, by omega, by omega, by omega, by go_num, by go_num, D2, Lib.hid (P6.out.set 1 _), Lib.hid (((Z.out.alloc _).drew.low b6 (by omega)).setOther (by omega) _ _), Lib.hid ((RowS.snoc R6).keep (But.set (w.heap.size + 1) 1 _ _) hz1), Lib.hid (hB6.setCell (p := ⟨w.heap.size + 1, 1, none⟩) (by show w.heap.size ≤ w.heap.size + 1; omega) _), ?_⟩
                    have := b6.size
                    simp at this ⊢; omega
                  case measure => simp [intOf]; omega
        · obtain rfl : k = lim := by omega
          have HP := Lib.hid (hHP.out _ D.out)
          obtain ⟨hl1, _, hl3⟩ := rdSt_len D.out
          have HI := R.out.slots (fun x hx => by have := hl3 x hx; omega)
          obtain ⟨A2, cap2, hv2, I⟩ := HI
          obtain ⟨rfl, rfl⟩ : A' = A2 ∧ cap = cap2 := by cases hv2; exact ⟨rfl, rfl⟩
          have HI := Lib.hid I
          have HSP := Lib.hid (fun hg => pgDec_split HS.out (by rw [HLIM.out]; exact D.out) hg)
          have HNn := HN.out
          rw [HNn] at HSP
          have CG := fun w h => rgood_any (N : Int) A' l.length cap l w h
          have HLEN : Hid (l.length ≤ 256) := Lib.hid (by omega)
          clear hl1 hl3 hv2 I R D hHP HLIM hlt HNn
          go_wp2_with fail
          go_loop [6] (fun at_ => ∃ b : Nat, a ≤ b ∧ b ≤ 240 ∧ at_ = .int .i64 b ∧ Hid (∀ i, a ≤ i → i < b → (S.getD i 0) = 0)) (fun at_ => 240 - (intOf at_).toNat)
          case atStart => exact ⟨a, by omega, by omega, rfl, Lib.hid (fun i h1 h2 => by omega)⟩
          case round =>
            obtain ⟨b, hab, hb240, rfl, HZ⟩ := hrel
            by_cases hlt : b < 240
            · have hbB : b < B.size := by omega
              obtain ⟨m, hm⟩ : ∃ m, B[b].toNat = m := ⟨_, rfl⟩
              have HM : Hid ((S.getD b 0).toNat = m) := Lib.hid (by rw [← HAT.out b hbB]; exact hm)
              by_cases hm0 : m = 0
              · have HZ2 : Hid (∀ i, a ≤ i → i < b + 1 → (S.getD i 0) = 0) := Lib.hid (fun i h1 h2 => by
                  by_cases e : i = b
                  · subst e; exact UInt8.toNat_inj.1 (HM.out.trans hm0)
                  · exact HZ.out i h1 (by omega))
                have hbb : ((m : Int) != 0) = false := by simp [hm0]
                clear hm0
                go_wp2_with fail
                go_round
                case rel => exact ⟨b + 1, by omega, by omega, by go_num, HZ2⟩
                case measure => simp [intOf]; omega
              · have HR : Hid (pgDecR (pgDec S) = (0, [], 4)) := Lib.hid (by
                  have hp : pgDec S = if slGood (N : Int) l = true ∧ pgBytes (N : Int) l = S then some ((N : Int), l) else none := HP.out
                  rw [hp, if_neg]; rfl
                  rintro ⟨hg, he⟩
                  have hz := (HSP.out hg).1 he (S.getD b 0) (by
                    rw [List.mem_iff_getElem?]
                    refine ⟨b - a, ?_⟩
                    have hbl : b < S.length := by rw [HS.out]; exact hlt
                    rw [List.getElem?_drop, show a + (b - a) = b by omega, List.getD_eq_getElem?_getD, List.getElem?_eq_getElem hbl]; rfl)
                  have := HM.out
                  rw [hz] at this
                  exact hm0 this.symm)
                have hbb : ((m : Int) != 0) = true := by simp; omega
                clear hm0
                go_wp2_with ((with_reducible refine at_store rfl ?_); refine wpList_put_row rfl _ _ _ rfl rfl w.heap.size _ rfl rfl _ _ Z.out (by kernel_rfl) rfl (by first | kernel_rfl | simp [Value.oneCell']) ?_; intro w8 Z8 B8)
                (try simp only [Exit.inBlock, Exit.then])
                refine bodyPost_ret (v := .tuple #[.agg #[.int .i64 0, .slice none 0 0], .int .i64 4]) ?_ rfl ⟨none, 0, 0, by rw [HR.out], by rw [HR.out]; exact IsSlots.nil _, ?_⟩
                · refine Eq.trans (results_cell_one (p := 2) (u := 3) ?_ _ _ w.heap.size _ _ _ fs ?_ Z8 Hu.out (by kernel_rfl)) ?_
                  all_goals rfl
                · exact B1.out.trans (B8.below (Nat.le_refl _) B1.out.size)
            · obtain rfl : b = 240 := by omega
              rw [show ((240 : Nat) : Int) = (240 : Int) from rfl]
              have HZZ : Hid (∀ x ∈ S.drop a, x = 0) := Lib.hid (fun x hx => by
                obtain ⟨i, hi⟩ := List.mem_iff_getElem?.1 hx
                rw [List.getElem?_drop] at hi
                have hil := (List.getElem?_eq_some_iff.1 hi).1
                have := HZ.out (a + i) (by omega) (by rw [HS.out] at hil; exact hil)
                rw [List.getD_eq_getElem?_getD, hi] at this
                exact this)
              have hp : pgDec S = if slGood (N : Int) l = true ∧ pgBytes (N : Int) l = S then some ((N : Int), l) else none := HP.out
              have hcapA := HI.out.cap
              have hmostA := HI.out.most
              cases hg : slGood (N : Int) l with
              | false =>
                rw [hg] at CG hp
                replace CG := Lib.hid CG
                have HR : Hid (pgDecR (pgDec S) = (0, [], 4)) := Lib.hid (by rw [hp, if_neg (by simp)]; rfl)
                clear hp hg
                go_wp2_with fail
                refine (CG.out _ HI.out).mono ?_
                rintro e w5 ⟨rfl, b5⟩
                have Z5 := Lib.hid (Z.out.below b5)
                have B5 := Lib.hid (bup B1.out b5)
                clear b5
                go_wp2_with ((with_reducible refine at_store rfl ?_); refine wpList_put_row rfl _ _ _ rfl rfl w.heap.size _ rfl rfl _ _ Z5.out (by kernel_rfl) rfl (by first | kernel_rfl | simp [Value.oneCell']) ?_; intro w8 Z8 B8)
                (try simp only [Exit.inBlock, Exit.then])
                refine bodyPost_ret (v := .tuple #[.agg #[.int .i64 0, .slice none 0 0], .int .i64 4]) ?_ rfl ⟨none, 0, 0, by rw [HR.out], by rw [HR.out]; exact IsSlots.nil _, ?_⟩
                · refine Eq.trans (results_cell_one (p := 2) (u := 3) ?_ _ _ w.heap.size _ _ _ fs ?_ Z8 Hu.out (by kernel_rfl)) ?_
                  all_goals rfl
                · exact B5.out.trans (B8.below (Nat.le_refl _) B5.out.size)
              | true =>
                have heq := (HSP.out hg).2 HZZ.out
                rw [if_pos ⟨hg, heq⟩] at hp
                rw [hg] at CG
                replace CG := Lib.hid CG
                have HR : Hid (pgDecR (pgDec S) = ((N : Int), l, 0)) := Lib.hid (by rw [hp]; rfl)
                clear hp hg heq
                go_wp2_with fail
                refine (CG.out _ HI.out).mono ?_
                rintro e w5 ⟨rfl, b5⟩
                have Z5 := Lib.hid (Z.out.below b5)
                have P5 := Lib.hid (P.out.below b5)
                have B5 := Lib.hid (bup B1.out b5)
                have I5 := Lib.hid (HI.out.below b5)
                have q0 := P5.out.cell 0 _ rfl
                have q1 := P5.out.cell 1 _ rfl
                clear b5
                go_wp2_with ((with_reducible refine at_store rfl ?_); refine wpList_put_row rfl _ _ _ rfl rfl w.heap.size _ rfl rfl _ _ Z5.out (by kernel_rfl) rfl (by first | kernel_rfl | simp [Value.oneCell']) ?_; intro w8 Z8 B8)
                (try simp only [Exit.inBlock, Exit.then])
                refine bodyPost_ret (v := .tuple #[.agg #[.int .i64 (N : Int), .slice A' l.length cap], .int .i64 0]) ?_ rfl ⟨A', l.length, cap, by rw [HR.out], by rw [HR.out]; exact I5.out.apart Z5.out B8, ?_⟩
                · refine Eq.trans (results_cell_one (p := 2) (u := 3) ?_ _ _ w.heap.size _ _ _ fs ?_ Z8 Hu.out (by kernel_rfl)) ?_
                  all_goals rfl
                · exact B5.out.trans (B8.below (Nat.le_refl _) B5.out.size)
theorem rdec_any (s : ByteArray) (hs : s.size ≤ 9223372036854775807) (w : World) :
    Calls Try.prog 48 #[.string s] w (PageOut (pgDecR (pgDec s.data.toList)) w) := by
  have hl : s.data.toList.length = s.size := Array.length_toList
  by_cases h : s.size = 240
  · by_cases h0 : (s.data.toList.getD 0 0).toNat = 0
    · by_cases h1 : (s.data.toList.getD 1 0).toNat = 0
      · exact rdec_in s.data.toList (by omega) h0 h1 w
      · rw [pgDec_high (.inr h1)]
        exact rdec_early s.data.toList (by omega) (.inr (.inr ⟨by omega, h0, h1⟩)) w
    · rw [pgDec_high (.inl h0)]
      exact rdec_early s.data.toList (by omega) (.inr (.inl ⟨by omega, h0⟩)) w
  · have : pgDec s.data.toList = none := by unfold pgDec; rw [if_neg (by omega)]
    rw [this]
    exact rdec_early s.data.toList (by omega) (.inl (by omega)) w
end Go.Proofs.Ytakdagmkkelnfaa
