/-
  The taker's calls: a number off the beginning of bytes.
-/
import Derived.Test.YtakdagmkkelnfaaEntEnc
import Derived.Test.YtakdagmkkelnfaaBase
import Derived.Test.YtakdagmkkelnfaaEntGood
import Derived.StillTailTactics
import Derived.RegionTactic
/-! The taker's calls: a number off the beginning of bytes. -/
namespace Go.Proofs.Ytakdagmkkelnfaa
open Go.RowKit Go.Sort NibPure

/-- What a number's taking leaves: the number, the rest, whether there was one. -/
def takeI (r : List UInt8) : Int × List UInt8 × Bool :=
  match dec r with
  | some (n, r') => (n, r', true)
  | none => (0, [], false)
theorem takeRes_takeI (r : List UInt8) : takeRes (dec r) = .tuple #[.int .i64 (takeI r).1, .string (bs (takeI r).2.1), .bool (takeI r).2.2] := by
  unfold takeI
  cases dec r with
  | none => rfl
  | some p => rfl
set_option maxRecDepth 100000 in
set_option maxHeartbeats 4000000 in
theorem takerInt_any (b : Nat) (r : List UInt8) (bad : Bool) (w : World) (hr : r.length ≤ 9223372036854775807) (h : Has w b (.cells #[.string (bs r), .bool bad] 101)) :
    Calls Try.prog 70 #[.pointer (some ⟨b, 0, none⟩)] w fun e w' => e = .returned (.int .i64 (takeI r).1) ∧ Has w' b (.cells #[.string (bs (takeI r).2.1), .bool (bad || !(takeI r).2.2)] 101) ∧ But b w w' := by
  have CT := fun w => takeInt_any (bs r) w (by rw [bs_size]; exact hr)
  rw [bs_data, takeRes_takeI] at CT
  have CT := Lib.hid CT
  have h0 := h.cell 0 _ rfl
  have h1 := h.cell 1 _ rfl
  obtain ⟨z, hz⟩ : ∃ z, takeI r = z := ⟨_, rfl⟩
  rw [hz] at CT ⊢
  clear hz
  obtain ⟨n, r2, ok⟩ := z
  simp only at CT ⊢
  clear h0 h1
  cases bad <;>
  · go_enter Try.func70, Try.ntmps70
    have h0 := h.cell 0 _ rfl
    have H := Lib.hid h
    clear h
    go_wp2_with fail
    refine (CT.out _).mono ?_
    rintro e w1 ⟨rfl, m, rfl⟩
    have H := Lib.hid (H.out.draws m)
    have B := Lib.hid (But.of (b := b) (draws_below w m))
    generalize w.drewN m = w1 at *
    clear h0
    have h0 := H.out.cell 0 _ rfl
    have h1 := H.out.cell 1 _ rfl
    have hfr := H.out.free 0
    have hfr1 := H.out.free 1
    go_wp2_with fail
    go_ret
    exact ⟨rfl, (H.out.set 0 _).set 1 _, (B.out.trans (But.set b 0 _ _)).trans (But.set b 1 _ _)⟩
end Go.Proofs.Ytakdagmkkelnfaa

/-! The taker's calls: a slot off the beginning of bytes. -/
namespace Go.Proofs.Ytakdagmkkelnfaa
open Go.RowKit Go.Sort NibPure

/-- What a text's taking leaves: the text, the rest, whether there was one. -/
def takeS (r : List UInt8) : List UInt8 × List UInt8 × Bool :=
  match decS 200 r with
  | some (t, r') => (t, r', true)
  | none => ([], [], false)
theorem takeStrRes_takeS (r : List UInt8) : takeStrRes (decS 200 r) = .tuple #[.string (bs (takeS r).1), .string (bs (takeS r).2.1), .bool (takeS r).2.2] := by
  unfold takeS
  cases decS 200 r with
  | none => rfl
  | some p => rfl
/-- What a slot's taking leaves: used, the data, the rest, whether something was wrong. -/
def takeSlot (r : List UInt8) (bad : Bool) : Bool × List UInt8 × List UInt8 × Bool :=
  if (takeI r).1 = 0 then (false, [], (takeI r).2.1, bad || !(takeI r).2.2)
  else if (takeI r).1 = 1 then (true, (takeS (takeI r).2.1).1, (takeS (takeI r).2.1).2.1, (bad || !(takeI r).2.2) || !(takeS (takeI r).2.1).2.2)
  else (false, [], (takeI r).2.1, true)
theorem takeI_rest (r : List UInt8) : (takeI r).2.1.length ≤ r.length := by
  unfold takeI
  cases h : dec r with
  | none => simp
  | some p =>
    obtain ⟨n, r'⟩ := p
    have := dec_len h
    simp only
    omega
set_option maxRecDepth 100000 in
set_option maxHeartbeats 4000000 in
theorem takerSlot_any (b : Nat) (r : List UInt8) (bad : Bool) (w : World) (hr : r.length ≤ 9223372036854775807) (h : Has w b (.cells #[.string (bs r), .bool bad] 101)) :
    Calls Try.prog 72 #[.pointer (some ⟨b, 0, none⟩)] w fun e w' => e = .returned (.agg #[.bool (takeSlot r bad).1, .string (bs (takeSlot r bad).2.1)]) ∧ Has w' b (.cells #[.string (bs (takeSlot r bad).2.2.1), .bool (takeSlot r bad).2.2.2] 101) ∧ But b w w' := by
  have hlt := h.lt
  have CI := fun w h => takerInt_any b r bad w hr h
  have CS := fun w => takeStr_any (bs (takeI r).2.1) 200 w (by rw [bs_size]; have := takeI_rest r; omega)
  rw [bs_data, takeStrRes_takeS] at CS
  obtain ⟨z, hz⟩ : ∃ z, takeSlot r bad = z := ⟨_, rfl⟩
  have hz' := hz
  rw [hz]
  unfold takeSlot at hz
  obtain ⟨y, hy⟩ : ∃ y, takeI r = y := ⟨_, rfl⟩
  rw [hy] at hz CI CS
  clear hy hz'
  obtain ⟨n, r1, ok⟩ := y
  simp only at hz CI CS
  obtain ⟨y, hy⟩ : ∃ y, takeS r1 = y := ⟨_, rfl⟩
  rw [hy] at hz CS
  clear hy
  obtain ⟨t, r2, ok2⟩ := y
  simp only at hz CS
  obtain ⟨bad1, hb1⟩ : ∃ c, (bad || !ok) = c := ⟨_, rfl⟩
  rw [hb1] at hz CI
  clear hb1
  have CI := Lib.hid CI
  have CS := Lib.hid CS
  obtain ⟨fs, hu⟩ := slotUnd
  have Hu := Lib.hid hu
  clear hu
  by_cases k0 : n = 0
  · rw [if_pos k0] at hz
    subst k0 hz
    have H := Lib.hid h
    clear h
    go_enter Try.func72, Try.ntmps72
    go_wp2_with fail
    refine (CI.out _ (H.out.alloc _)).mono ?_
    rintro e w1 ⟨rfl, G, B⟩
    have S := (Has.new w _).but B (by omega)
    have B := (But.of (bnew w _)).trans B
    have h0 := S.cell 0 _ rfl
    have h1 := S.cell 1 _ rfl
    have f0 := S.free 0
    have f1 := S.free 1
    go_wp2_with fail
    (try simp only [Exit.inBlock, Exit.then])
    refine bodyPost_ret (v := .agg #[.bool false, .string (bs [])]) ?_ rfl ⟨rfl, ?_, ?_⟩
    · exact results_cell_row rfl _ _ w.heap.size _ _ _ _ rfl ((S.set 0 _).set 1 _) Hu.out rfl (by kernel_rfl)
    · exact (G.setOther (by omega) 0 _).setOther (by omega) 1 _
    · exact (B.setNew (Nat.le_refl _) 0 _).setNew (Nat.le_refl _) 1 _
  by_cases k1 : n = 1
  · rw [if_neg k0, if_pos k1] at hz
    clear k0
    subst k1 hz
    have H := Lib.hid h
    clear h
    cases bad1 <;>
    · go_enter Try.func72, Try.ntmps72
      go_wp2_with fail
      refine (CI.out _ (H.out.alloc _)).mono ?_
      rintro e w1 ⟨rfl, G, B⟩
      have S := (Has.new w _).but B (by omega)
      have B := (But.of (bnew w _)).trans B
      have q0 := G.cell 0 _ rfl
      go_wp2_with fail
      refine (CS.out _).mono ?_
      rintro e w2 ⟨rfl, m, rfl⟩
      have G := Lib.hid (G.draws m)
      have S := Lib.hid (S.draws m)
      have B := Lib.hid (B.trans (But.of (b := b) (draws_below w1 m)))
      generalize w1.drewN m = w2 at *
      clear q0
      have q0 := G.out.cell 0 _ rfl
      have q1 := G.out.cell 1 _ rfl
      have qf0 := G.out.free 0
      have qf1 := G.out.free 1
      have h0 := S.out.cell 0 _ rfl
      have h1 := S.out.cell 1 _ rfl
      have f0 := S.out.free 0
      have f1 := S.out.free 1
      have hne : w.heap.size ≠ b := by omega
      have hne' : b ≠ w.heap.size := by omega
      go_wp2_with fail
      (try simp only [Exit.inBlock, Exit.then])
      refine bodyPost_ret (v := .agg #[.bool true, .string (bs t)]) ?_ rfl ⟨rfl, ?_, ?_⟩
      · exact results_cell_row rfl _ _ w.heap.size _ _ _ _ rfl ((((S.out.setOther hne 0 _).setOther hne 1 _).set 0 _).set 1 _) Hu.out rfl (by kernel_rfl)
      · exact (((G.out.set 0 _).set 1 _).setOther hne' 0 _).setOther hne' 1 _
      · exact (((B.out.trans (But.set b 0 _ _)).trans (But.set b 1 _ _)).setNew (Nat.le_refl _) 0 _).setNew (Nat.le_refl _) 1 _
  rw [if_neg k0, if_neg k1] at hz
  subst hz
  have H := Lib.hid h
  have n0 : (n == 0) = false := by simpa using k0
  have n1 : (n == 1) = false := by simpa using k1
  clear h k0 k1
  go_enter Try.func72, Try.ntmps72
  go_wp2_with fail
  refine (CI.out _ (H.out.alloc _)).mono ?_
  rintro e w1 ⟨rfl, G, B⟩
  have S := (Has.new w _).but B (by omega)
  have B := (But.of (bnew w _)).trans B
  have h0 := S.cell 0 _ rfl
  have h1 := S.cell 1 _ rfl
  have f0 := S.free 0
  have f1 := S.free 1
  have q1 := G.cell 1 _ rfl
  have qf1 := G.free 1
  have hne : w.heap.size ≠ b := by omega
  have hne' : b ≠ w.heap.size := by omega
  go_wp2_with fail
  (try simp only [Exit.inBlock, Exit.then])
  refine bodyPost_ret (v := .agg #[.bool false, .string (bs [])]) ?_ rfl ⟨rfl, ?_, ?_⟩
  · exact results_cell_row rfl _ _ w.heap.size _ _ _ _ rfl (((S.setOther hne 1 _).set 0 _).set 1 _) Hu.out rfl (by kernel_rfl)
  · exact ((G.set 1 _).setOther hne' 0 _).setOther hne' 1 _
  · exact ((B.trans (But.set b 1 _ _)).setNew (Nat.le_refl _) 0 _).setNew (Nat.le_refl _) 1 _
end Go.Proofs.Ytakdagmkkelnfaa

/-! The entry that bytes begin with, in plain words: number by number, slot by slot. -/
namespace Go.Proofs.Ytakdagmkkelnfaa
open Go.RowKit Go.Sort NibPure

def Ent.setNum (x : Ent) : Nat → Int → Ent
  | 0, n => { x with kind := n }
  | 1, n => { x with cl := n }
  | 2, n => { x with ep := n }
  | 3, n => { x with n := n }
  | 4, n => { x with lsn := n }
  | 5, n => { x with prev := n }
  | 6, n => { x with page := n }
  | 7, n => { x with slot := n }
  | _, n => { x with next := n }
theorem row_set (x : Ent) (i : Nat) (h : i < 9) (n : Int) : x.row.setIfInBounds (offs i) (.int .i64 n) = (x.setNum i n).row := by
  match i, h with
  | 0, _ => rfl | 1, _ => rfl | 2, _ => rfl | 3, _ => rfl | 4, _ => rfl | 5, _ => rfl | 6, _ => rfl | 7, _ => rfl | 8, _ => rfl
def Ent.zero : Ent := ⟨0, 0, 0, 0, 0, 0, 0, 0, false, ⟨#[]⟩, false, ⟨#[]⟩, 0⟩
/-- What is read after so many numbers. -/
def stN (s : List UInt8) : Nat → Ent × List UInt8 × Bool
  | 0 => (Ent.zero, s, false)
  | n + 1 => ((stN s n).1.setNum n (takeI (stN s n).2.1).1, (takeI (stN s n).2.1).2.1, (stN s n).2.2 || !(takeI (stN s n).2.1).2.2)
theorem stN_len (s : List UInt8) (n : Nat) : (stN s n).2.1.length ≤ s.length := by
  induction n with
  | zero => exact Nat.le_refl _
  | succ n ih => exact Nat.le_trans (takeI_rest _) ih
theorem setNum_kind (x : Ent) (i : Nat) (n : Int) : (x.setNum (i + 1) n).kind = x.kind := by
  match i with
  | 0 => rfl | 1 => rfl | 2 => rfl | 3 => rfl | 4 => rfl | 5 => rfl | 6 => rfl | _ + 7 => rfl
theorem stN_kind (s : List UInt8) (n : Nat) : (stN s (n + 1)).1.kind = (stN s 1).1.kind := by
  induction n with
  | zero => rfl
  | succ n ih =>
    have h : (stN s (n + 1 + 1)).1 = (stN s (n + 1)).1.setNum (n + 1) (takeI (stN s (n + 1)).2.1).1 := rfl
    rw [h, setNum_kind, ih]
/-- What is read behind the numbers. -/
def stEnd (s : List UInt8) : Ent × List UInt8 × Bool :=
  let st := stN s (stN s 1).1.many
  if st.1.kind = 1 ∨ st.1.kind = 2 then
    let a := takeSlot st.2.1 st.2.2
    let b := takeSlot a.2.2.1 a.2.2.2
    ({ st.1 with wu := a.1, wd := bs a.2.1, iu := b.1, ix := bs b.2.1 }, b.2.2.1, b.2.2.2)
  else st
/-- The entry that bytes begin with, and the rest. -/
def decE (s : List UInt8) : Option (Ent × List UInt8) := if (stEnd s).2.2 = true ∨ (stEnd s).1.good = false then none else some ((stEnd s).1, (stEnd s).2.1)
def decERes : Option (Ent × List UInt8) → Value
  | some (x, r) => .tuple #[x.val, .string (bs r), .int .i64 0]
  | none => .tuple #[Ent.zero.val, .string (bs []), .int .i64 4]

end Go.Proofs.Ytakdagmkkelnfaa

/-! The entry that bytes begin with: entry.Decode. -/
namespace Go.Proofs.Ytakdagmkkelnfaa
open Go.RowKit Go.Sort NibPure

set_option linter.unusedVariables false
theorem takeS_len (r : List UInt8) : (takeS r).1.length ≤ r.length ∧ (takeS r).2.1.length ≤ r.length := by
  unfold takeS
  cases h : decS 200 r with
  | none => simp
  | some p =>
    obtain ⟨t, r'⟩ := p
    simp only
    unfold decS at h
    cases hd : dec r with
    | none => rw [hd] at h; cases h
    | some q =>
      obtain ⟨n, u⟩ := q
      rw [hd] at h
      simp only at h
      have := dec_len hd
      split at h
      · simp at h; obtain ⟨rfl, rfl⟩ := h; simp; omega
      · cases h
theorem takeSlot_len (r : List UInt8) (bad : Bool) : (takeSlot r bad).2.1.length ≤ r.length ∧ (takeSlot r bad).2.2.1.length ≤ r.length := by
  have h1 := takeI_rest r
  have h2 := takeS_len (takeI r).2.1
  unfold takeSlot
  split
  · simp only [List.length_nil]; omega
  · split
    · simp only; omega
    · simp only [List.length_nil]; omega
theorem stN_slots' (s : List UInt8) (n : Nat) : (stN s n).1.wd.size = 0 ∧ (stN s n).1.ix.size = 0 := by
  have hs : ∀ (x : Ent) (j : Nat) (v : Int), (x.setNum j v).wd = x.wd ∧ (x.setNum j v).ix = x.ix := by
    intro x j v
    match j with
    | 0 => exact ⟨rfl, rfl⟩ | 1 => exact ⟨rfl, rfl⟩ | 2 => exact ⟨rfl, rfl⟩ | 3 => exact ⟨rfl, rfl⟩ | 4 => exact ⟨rfl, rfl⟩ | 5 => exact ⟨rfl, rfl⟩ | 6 => exact ⟨rfl, rfl⟩ | 7 => exact ⟨rfl, rfl⟩ | _ + 8 => exact ⟨rfl, rfl⟩
  induction n with
  | zero => exact ⟨rfl, rfl⟩
  | succ n ih =>
    have e : (stN s (n + 1)).1 = (stN s n).1.setNum n (takeI (stN s n).2.1).1 := rfl
    rw [e, (hs _ _ _).1, (hs _ _ _).2]; exact ih
set_option maxRecDepth 100000 in
set_option maxHeartbeats 4000000 in
theorem decode_any (s : ByteArray) (hs : s.size ≤ 9223372036854775807) (w : World) :
    Calls Try.prog 52 #[.string s] w fun e w' => e = .returned (decERes (decE s.data.toList)) ∧ Below w.heap.size w w' := by
  obtain ⟨S, hS⟩ : ∃ S, s.data.toList = S := ⟨_, rfl⟩
  have hSs : s = bs S := by rw [← hS]; rfl
  have hSl : S.length ≤ 9223372036854775807 := by rw [← hS]; have : s.data.toList.length = s.size := Array.length_toList; omega
  rw [hS]
  subst hSs
  clear hS hs
  obtain ⟨fs, hu⟩ := entUnd
  have Hu := Lib.hid hu
  clear hu
  obtain ⟨R, hR⟩ : ∃ R, decERes (decE S) = R := ⟨_, rfl⟩
  rw [hR]
  have HR := Lib.hid hR
  clear hR
  have CI := Lib.hid fun b r bad w hr h => takerInt_any b r bad w hr h
  have C0 := fun b w h => takerInt_any b S false w hSl h
  have e1 : (takeI S).1 = (stN S 1).1.kind := rfl
  have e2 : (takeI S).2.1 = (stN S 1).2.1 := rfl
  have e3 : (false || !(takeI S).2.2) = (stN S 1).2.2 := rfl
  have e4 : (stN S 1).1 = ⟨(stN S 1).1.kind, 0, 0, 0, 0, 0, 0, 0, false, ⟨#[]⟩, false, ⟨#[]⟩, 0⟩ := rfl
  rw [e1, e2, e3] at C0
  have C0 := Lib.hid C0
  have E4 := Lib.hid e4
  clear e1 e2 e3 e4
  obtain ⟨K, hK⟩ : ∃ K, (stN S 1).1.kind = K := ⟨_, rfl⟩
  rw [hK] at C0 E4
  have HK := Lib.hid hK
  clear hK
  go_enter Try.func52, Try.ntmps52
  go_wp2_with fail
  refine (C0.out _ _ (Has.new1 _ _ _)).mono ?_
  rintro e w1 ⟨rfl, T, B⟩
  have Z := ((Has.new w _).alloc _).but B (by omega)
  have B1 := Lib.hid ((bup (bnew w _) (bnew _ _)).trans (B.below (by omega) (by simp; omega)))
  have z1 := Z.lt
  have z2 := T.lt
  clear B
  replace Z := Lib.hid Z
  replace T := Lib.hid T
  obtain ⟨L, hL⟩ : ∃ L : Nat, (if K = 1 ∨ K = 2 then 9 else 6) = L := ⟨_, rfl⟩
  have hL9 : L ≤ 9 := by rw [← hL]; split <;> omega
  have hL6 : 6 ≤ L := by rw [← hL]; split <;> omega
  have CF := fun b w h => fields_any b K w h
  rw [hL] at CF
  replace CF := Lib.hid CF
  have HL := Lib.hid hL
  clear hL
  have X := Lib.hid (Has.new w1 (.cells #[.int .i64 K, .int .i64 0, .int .i64 0, .int .i64 0, .int .i64 0, .int .i64 0, .int .i64 0, .int .i64 0, .bool false, .string ⟨#[]⟩, .bool false, .string ⟨#[]⟩, .int .i64 0] 64))
  go_wp2_with fail
  refine (CF.out _ _ (X.out.cell 0 _ rfl)).mono ?_
  rintro e w2 ⟨rfl, F, B2⟩
  replace X := Lib.hid (X.out.below B2)
  replace Z := Lib.hid ((Z.out.alloc _).below B2)
  replace T := Lib.hid ((T.out.alloc _).below B2)
  have B := Lib.hid (B1.out.trans (((bup (bnew w1 _) B2)).mono B1.out.size))
  have z3 := X.out.lt
  have z4 := F.lt
  clear B1 B2
  simp only [World.size_alloc] at F z4
  replace F := Lib.hid F
  clear C0 CF
  go_wp2_with fail
  go_loopw [18] (fun i wr => ∃ j : Nat, j + 1 ≤ L ∧ i = .int .i64 j ∧ Has wr (w.heap.size + 1) (.cells #[.string (bs (stN S (j + 1)).2.1), .bool (stN S (j + 1)).2.2] 101) ∧ Has wr w1.heap.size (.cells (stN S (j + 1)).1.row 64) ∧ Has wr (w1.heap.size + 1) (.cells (ptrs w1.heap.size) 105) ∧ Has wr w.heap.size (.cells Ent.zero.row 64) ∧ Below w.heap.size w wr) (fun i _ => L - 1 - (intOf i).toNat)
  case atStart => exact ⟨0, by omega, rfl, T.out, by rw [E4.out]; exact X.out, F.out, Z.out, B.out⟩
  case round =>
    clear T X F Z B
    obtain ⟨j, hj, rfl, T, X, F, Z, B⟩ := hrel
    by_cases hlt : j < L - 1
    · have hsl := stN_len S (j + 1)
      have hN : stN S (j + 1 + 1) = ((stN S (j + 1)).1.setNum (j + 1) (takeI (stN S (j + 1)).2.1).1, (takeI (stN S (j + 1)).2.1).2.1, (stN S (j + 1)).2.2 || !(takeI (stN S (j + 1)).2.1).2.2) := rfl
      have HN := Lib.hid hN
      clear hN
      generalize stN S (j + 1) = st at *
      obtain ⟨x, r, bad⟩ := st
      simp only at T X hsl
      have ci := fun v h => CI.out (w.heap.size + 1) r bad v (by omega) h
      have hN := HN.out
      simp only at hN
      generalize takeI r = y at *
      obtain ⟨n, r2, ok⟩ := y
      simp only at ci hN
      generalize (bad || !ok) = bad2 at *
      have HN := Lib.hid hN
      clear hN
      have hp : wr.cell? ⟨w1.heap.size + 1, 1 + j, none⟩ = some (.pointer (some ⟨w1.heap.size, offs (j + 1), none⟩)) := by
        rw [show 1 + j = j + 1 by omega]
        exact F.cell (j + 1) _ (ptrs_at _ (j + 1) (by omega))
      replace T := Lib.hid T; replace X := Lib.hid X; replace F := Lib.hid F; replace Z := Lib.hid Z; replace B := Lib.hid B
      replace ci := Lib.hid ci
      have ho : j + 1 < 9 := by omega
      have Ho := Lib.hid (show offs (j + 1) = offs (j + 1) from rfl)
      clear Ho
      have RA := Lib.hid (row_at x (j + 1) ho)
      have RS := Lib.hid (row_set x (j + 1) ho n)
      generalize offs (j + 1) = oo at *
      generalize x.num (j + 1) = nn at *
      generalize x.setNum (j + 1) n = x2 at *

      go_wp2_with fail
      refine (ci.out _ T.out).mono ?_
      rintro e w3 ⟨rfl, T3, Bt⟩
      have X3 := X.out.but Bt (by omega)
      have F3 := Lib.hid (F.out.but Bt (by omega))
      have Z3 := Lib.hid (Z.out.but Bt (by omega))
      have B3 := Lib.hid (B.out.trans (Bt.below (by omega) B.out.size))
      have hx : w3.cell? ⟨w1.heap.size, oo, none⟩ = some (.int .i64 nn) := X3.cell _ _ RA.out
      have hf := X3.free oo
      have X4 := X3.set oo (.int .i64 n)
      rw [RS.out] at X4
      have T3' := Lib.hid T3; have X4' := Lib.hid X4
      clear Bt X3 hp T3 X4
      go_wp2_with fail
      go_roundw
      case rel =>
        refine ⟨j + 1, by omega, by go_num, ?_⟩
        rw [HN.out]
        exact ⟨T3'.out.setOther (by omega) _ _, X4'.out, F3.out.setOther (by omega) _ _, Z3.out.setOther (by omega) _ _, B3.out.setCell (p := ⟨w1.heap.size, oo, none⟩) (by show w.heap.size ≤ w1.heap.size; omega) _⟩
      case measure => simp [intOf]; omega
    · have hjl : j + 1 = L := by omega
      rw [hjl] at T X
      have hkk : (stN S L).1.kind = K := by
        have := stN_kind S j
        rw [hjl] at this
        rw [this]; exact HK.out
      have hmany : (stN S 1).1.many = L := by unfold Ent.many; rw [HK.out]; exact HL.out
      have hE : stEnd S = stEnd S := rfl
      conv at hE => rhs; unfold stEnd
      simp only at hE
      rw [hmany] at hE
      have hsl := stN_len S L
      have hz := stN_slots' S L
      clear hj hjl F CI C0 E4 HK HL hmany hL9 hL6 z3 z4
      generalize stN S L = st at *
      obtain ⟨⟨k, c, ep, nn, ln, p, pg, sl, wu, wd, iu, ix, nx⟩, r, be⟩ := st
      simp only [Ent.row] at T X hkk hE hsl hz
      subst hkk
      obtain ⟨hz1, hz2⟩ := hz
      by_cases k12 : k = 1 ∨ k = 2
      · rw [if_pos k12] at hE
        have hy1 := takeSlot_len r be
        have CS1 := Lib.hid (fun v h => takerSlot_any (w.heap.size + 1) r be v (by omega) h)
        generalize takeSlot r be = y1 at *
        obtain ⟨u1, d1, r1, b1⟩ := y1
        simp only at hE hy1 CS1
        have hy2 := takeSlot_len r1 b1
        have CS2 := Lib.hid (fun v h => takerSlot_any (w.heap.size + 1) r1 b1 v (by omega) h)
        generalize takeSlot r1 b1 = y2 at *
        obtain ⟨u2, d2, r2, b2⟩ := y2
        simp only at hE hy2 CS2
        replace hz1 : (bs d1).size ≤ 9223372036854775807 := by rw [bs_size]; omega
        replace hz2 : (bs d2).size ≤ 9223372036854775807 := by rw [bs_size]; omega
        have HE := Lib.hid hE
        have hne : w.heap.size + 1 ≠ w1.heap.size := by omega
        have hnz : w.heap.size ≠ w1.heap.size := by omega
        have hle : w.heap.size ≤ w1.heap.size := by omega
        clear hE hy1 hy2 hsl hSl
        rcases k12 with rfl | rfl
        · have Z0 := Lib.hid Z; have T0 := Lib.hid T; have X0 := Lib.hid X; have B0 := Lib.hid B
          clear T X Z B
          have xk := X0.out.cell 0 _ rfl
          go_wp2_with fail
          refine (CS1.out _ T0.out).mono ?_
          rintro e w3 ⟨rfl, T3, b3⟩
          have X3 := X0.out.but b3 (by omega)
          have Z3 := Lib.hid (Z0.out.but b3 (by omega))
          have B3 := Lib.hid (B0.out.trans (b3.below (by omega) B0.out.size))
          replace T3 := Lib.hid T3
          clear xk b3 T0 X0 Z0 B0
          have x8 := X3.cell 8 _ rfl
          have x9 := X3.cell 9 _ rfl
          have f8 := X3.free 8
          have f9 := X3.free 9
          replace X3 := Lib.hid X3
          go_wp2_with fail
          refine (CS2.out _ ((T3.out.setOther hne 8 _).setOther hne 9 _)).mono ?_
          rintro e w5 ⟨rfl, T5, b5⟩
          have X5 : Has w5 w1.heap.size (.cells #[.int .i64 1, .int .i64 c, .int .i64 ep, .int .i64 nn, .int .i64 ln, .int .i64 p, .int .i64 pg, .int .i64 sl, .bool u1, .string (bs d1), .bool iu, .string ix, .int .i64 nx] 64) := ((X3.out.set 8 (.bool u1)).set 9 (.string (bs d1))).but b5 (by omega)
          have Z5 := Lib.hid (((Z3.out.setOther hnz 8 (.bool u1)).setOther hnz 9 (.string (bs d1))).but b5 (by omega))
          have B5 := Lib.hid (((B3.out.setCell (p := ⟨w1.heap.size, 8, none⟩) hle (.bool u1)).setCell (p := ⟨w1.heap.size, 9, none⟩) hle (.string (bs d1))).trans (b5.below (by omega) (by have := B3.out.size; simp; omega)))
          replace T5 := Lib.hid T5
          clear x8 x9 f8 f9 b5 T3 X3 Z3 B3
          have x8 := X5.cell 10 _ rfl
          have x9 := X5.cell 11 _ rfl
          have f8 := X5.free 10
          have f9 := X5.free 11
          replace X5 := Lib.hid X5
          go_upto_region 11 with (fail)
          generalize hw6 : World.setCell _ _ _ = w6
          have X : Hid (Has w6 w1.heap.size (.cells #[.int .i64 1, .int .i64 c, .int .i64 ep, .int .i64 nn, .int .i64 ln, .int .i64 p, .int .i64 pg, .int .i64 sl, .bool u1, .string (bs d1), .bool u2, .string (bs d2), .int .i64 nx] 64)) := Lib.hid (by rw [← hw6]; exact (X5.out.set 10 (.bool u2)).set 11 (.string (bs d2)))
          have T := Lib.hid ((T5.out.setOther hne 10 (.bool u2)).setOther hne 11 (.string (bs d2)))
          have Z := Lib.hid ((Z5.out.setOther hnz 10 (.bool u2)).setOther hnz 11 (.string (bs d2)))
          have B := Lib.hid ((B5.out.setCell (p := ⟨w1.heap.size, 10, none⟩) hle (.bool u2)).setCell (p := ⟨w1.heap.size, 11, none⟩) hle (.string (bs d2)))
          rw [hw6] at T Z B
          clear hw6 x8 x9 f8 f9 T5 X5 Z5 B5
          have CG := fun v => good_any ⟨1, c, ep, nn, ln, p, pg, sl, u1, bs d1, u2, bs d2, nx⟩ hz1 hz2 v
          simp only [Ent.val, Ent.row] at CG
          obtain ⟨a0, a1, a2, a3, a4, a5, a6, a7, a8, a9, a10, a11, a12⟩ := EntAt.of X.out
          have t0 := T.out.cell 0 _ rfl
          have t1 := T.out.cell 1 _ rfl
          cases b2 with
          | true =>
            have HRR : Hid (R = .tuple #[Ent.zero.val, .string (bs []), .int .i64 4]) := Lib.hid (by rw [← HR.out]; unfold decE; rw [HE.out, if_pos (by simp)]; rfl)
            clear CG
            go_wp2_with ((with_reducible refine at_store rfl ?_); refine wpList_put_row rfl _ _ _ rfl rfl w.heap.size _ rfl rfl _ _ Z.out (by kernel_rfl) rfl (by first | kernel_rfl | simp [Value.oneCell']) ?_; intro w8 Z8 B8)
            (try simp only [Exit.then])
            refine bodyPost_ret (v := .tuple #[.agg Ent.zero.row, .string (bs []), .int .i64 4]) ?_ rfl ⟨by rw [HRR.out]; rfl, ?_⟩
            · refine Eq.trans (results_cell_two (p := 2) (u := 3) (v := 4) ?_ _ _ w.heap.size _ _ _ fs ?_ Z8 Hu.out (by kernel_rfl)) ?_
              all_goals rfl
            · exact B.out.trans (B8.below (Nat.le_refl _) B.out.size)
          | false =>
            cases hg : Ent.good ⟨1, c, ep, nn, ln, p, pg, sl, u1, bs d1, u2, bs d2, nx⟩ with
            | false =>
              have HRR : Hid (R = .tuple #[Ent.zero.val, .string (bs []), .int .i64 4]) := Lib.hid (by rw [← HR.out]; unfold decE; rw [HE.out, if_pos (by simp [hg])]; rfl)
              rw [hg] at CG
              have CG' := Lib.hid CG
              clear hg CG
              go_wp2_with fail
              refine (CG'.out _).mono ?_
              rintro e w7 ⟨rfl, b7⟩
              have Z := Lib.hid (Z.out.below b7)
              have B := Lib.hid (bup B.out b7)
              clear a0 a1 a2 a3 a4 a5 a6 a7 a8 a9 a10 a11 a12 t0 t1 b7
              go_wp2_with ((with_reducible refine at_store rfl ?_); refine wpList_put_row rfl _ _ _ rfl rfl w.heap.size _ rfl rfl _ _ Z.out (by kernel_rfl) rfl (by first | kernel_rfl | simp [Value.oneCell']) ?_; intro w8 Z8 B8)
              (try simp only [Exit.then])
              refine bodyPost_ret (v := .tuple #[.agg Ent.zero.row, .string (bs []), .int .i64 4]) ?_ rfl ⟨by rw [HRR.out]; rfl, ?_⟩
              · refine Eq.trans (results_cell_two (p := 2) (u := 3) (v := 4) ?_ _ _ w.heap.size _ _ _ fs ?_ Z8 Hu.out (by kernel_rfl)) ?_
                all_goals rfl
              · exact B.out.trans (B8.below (Nat.le_refl _) B.out.size)
            | true =>
              have HRR : Hid (R = .tuple #[.agg #[.int .i64 1, .int .i64 c, .int .i64 ep, .int .i64 nn, .int .i64 ln, .int .i64 p, .int .i64 pg, .int .i64 sl, .bool u1, .string (bs d1), .bool u2, .string (bs d2), .int .i64 nx], .string (bs r2), .int .i64 0]) := Lib.hid (by rw [← HR.out]; unfold decE; rw [HE.out, if_neg (by simp [hg])]; rfl)
              rw [hg] at CG
              have CG' := Lib.hid CG
              clear hg CG
              go_wp2_with fail
              refine (CG'.out _).mono ?_
              rintro e w7 ⟨rfl, b7⟩
              have X7 := X.out.below b7
              have T7 := T.out.below b7
              have Z7 := Lib.hid (Z.out.below b7)
              have B7 := Lib.hid (bup B.out b7)
              clear a0 a1 a2 a3 a4 a5 a6 a7 a8 a9 a10 a11 a12 t0 t1 b7
              obtain ⟨a0, a1, a2, a3, a4, a5, a6, a7, a8, a9, a10, a11, a12⟩ := EntAt.of X7
              have t0 := T7.cell 0 _ rfl
              clear X7 T7
              go_wp2_with fail
              have Zz := EntAt.of (show Has w7 w.heap.size (.cells #[.int .i64 0, .int .i64 0, .int .i64 0, .int .i64 0, .int .i64 0, .int .i64 0, .int .i64 0, .int .i64 0, .bool false, .string ⟨#[]⟩, .bool false, .string ⟨#[]⟩, .int .i64 0] 64) from Z7.out)
              obtain ⟨z0, z1, z2, z3, z4, z5, z6, z7, z8, z9, z10, z11, z12⟩ := Zz
              have f0 := Z7.out.free 0
              have f1 := Z7.out.free 1
              have f2 := Z7.out.free 2
              have f3 := Z7.out.free 3
              have f4 := Z7.out.free 4
              have f5 := Z7.out.free 5
              have f6 := Z7.out.free 6
              have f7 := Z7.out.free 7
              have f8 := Z7.out.free 8
              have f9 := Z7.out.free 9
              have f10 := Z7.out.free 10
              have f11 := Z7.out.free 11
              have f12 := Z7.out.free 12
              go_region
              all_goals
                generalize hw : World.drew _ = wz
                have hw' : (setList w.heap.size 0 [.int .i64 1, .int .i64 c, .int .i64 ep, .int .i64 nn, .int .i64 ln, .int .i64 p, .int .i64 pg, .int .i64 sl, .bool u1, .string (bs d1), .bool u2, .string (bs d2), .int .i64 nx] w7).drew = wz := hw
                have Z9 := (setList_row (vs := [.int .i64 1, .int .i64 c, .int .i64 ep, .int .i64 nn, .int .i64 ln, .int .i64 p, .int .i64 pg, .int .i64 sl, .bool u1, .string (bs d1), .bool u2, .string (bs d2), .int .i64 nx]) Z7.out rfl).drew
                have B9 := (setList_below (Nat.le_refl w.heap.size) [.int .i64 1, .int .i64 c, .int .i64 ep, .int .i64 nn, .int .i64 ln, .int .i64 p, .int .i64 pg, .int .i64 sl, .bool u1, .string (bs d1), .bool u2, .string (bs d2), .int .i64 nx] 0 _ B7.out).drew
                rw [hw'] at Z9 B9
                clear hw hw' z0 z1 z2 z3 z4 z5 z6 z7 z8 z9 z10 z11 z12 f0 f1 f2 f3 f4 f5 f6 f7 f8 f9 f10 f11 f12
                (try simp only [Exit.then])
                go_wp2_with fail
                refine bodyPost_ret (v := .tuple #[.agg #[.int .i64 1, .int .i64 c, .int .i64 ep, .int .i64 nn, .int .i64 ln, .int .i64 p, .int .i64 pg, .int .i64 sl, .bool u1, .string (bs d1), .bool u2, .string (bs d2), .int .i64 nx], .string (bs r2), .int .i64 0]) ?_ rfl ⟨by rw [HRR.out], ?_⟩
                · refine Eq.trans (results_cell_two (p := 2) (u := 3) (v := 4) ?_ _ _ w.heap.size _ _ _ fs ?_ Z9 Hu.out (by kernel_rfl)) ?_
                  all_goals rfl
                · exact B9
        · have Z0 := Lib.hid Z; have T0 := Lib.hid T; have X0 := Lib.hid X; have B0 := Lib.hid B
          clear T X Z B
          have xk := X0.out.cell 0 _ rfl
          go_wp2_with fail
          refine (CS1.out _ T0.out).mono ?_
          rintro e w3 ⟨rfl, T3, b3⟩
          have X3 := X0.out.but b3 (by omega)
          have Z3 := Lib.hid (Z0.out.but b3 (by omega))
          have B3 := Lib.hid (B0.out.trans (b3.below (by omega) B0.out.size))
          replace T3 := Lib.hid T3
          clear xk b3 T0 X0 Z0 B0
          have x8 := X3.cell 8 _ rfl
          have x9 := X3.cell 9 _ rfl
          have f8 := X3.free 8
          have f9 := X3.free 9
          replace X3 := Lib.hid X3
          go_wp2_with fail
          refine (CS2.out _ ((T3.out.setOther hne 8 _).setOther hne 9 _)).mono ?_
          rintro e w5 ⟨rfl, T5, b5⟩
          have X5 : Has w5 w1.heap.size (.cells #[.int .i64 2, .int .i64 c, .int .i64 ep, .int .i64 nn, .int .i64 ln, .int .i64 p, .int .i64 pg, .int .i64 sl, .bool u1, .string (bs d1), .bool iu, .string ix, .int .i64 nx] 64) := ((X3.out.set 8 (.bool u1)).set 9 (.string (bs d1))).but b5 (by omega)
          have Z5 := Lib.hid (((Z3.out.setOther hnz 8 (.bool u1)).setOther hnz 9 (.string (bs d1))).but b5 (by omega))
          have B5 := Lib.hid (((B3.out.setCell (p := ⟨w1.heap.size, 8, none⟩) hle (.bool u1)).setCell (p := ⟨w1.heap.size, 9, none⟩) hle (.string (bs d1))).trans (b5.below (by omega) (by have := B3.out.size; simp; omega)))
          replace T5 := Lib.hid T5
          clear x8 x9 f8 f9 b5 T3 X3 Z3 B3
          have x8 := X5.cell 10 _ rfl
          have x9 := X5.cell 11 _ rfl
          have f8 := X5.free 10
          have f9 := X5.free 11
          replace X5 := Lib.hid X5
          go_upto_region 11 with (fail)
          generalize hw6 : World.setCell _ _ _ = w6
          have X : Hid (Has w6 w1.heap.size (.cells #[.int .i64 2, .int .i64 c, .int .i64 ep, .int .i64 nn, .int .i64 ln, .int .i64 p, .int .i64 pg, .int .i64 sl, .bool u1, .string (bs d1), .bool u2, .string (bs d2), .int .i64 nx] 64)) := Lib.hid (by rw [← hw6]; exact (X5.out.set 10 (.bool u2)).set 11 (.string (bs d2)))
          have T := Lib.hid ((T5.out.setOther hne 10 (.bool u2)).setOther hne 11 (.string (bs d2)))
          have Z := Lib.hid ((Z5.out.setOther hnz 10 (.bool u2)).setOther hnz 11 (.string (bs d2)))
          have B := Lib.hid ((B5.out.setCell (p := ⟨w1.heap.size, 10, none⟩) hle (.bool u2)).setCell (p := ⟨w1.heap.size, 11, none⟩) hle (.string (bs d2)))
          rw [hw6] at T Z B
          clear hw6 x8 x9 f8 f9 T5 X5 Z5 B5
          have CG := fun v => good_any ⟨2, c, ep, nn, ln, p, pg, sl, u1, bs d1, u2, bs d2, nx⟩ hz1 hz2 v
          simp only [Ent.val, Ent.row] at CG
          obtain ⟨a0, a1, a2, a3, a4, a5, a6, a7, a8, a9, a10, a11, a12⟩ := EntAt.of X.out
          have t0 := T.out.cell 0 _ rfl
          have t1 := T.out.cell 1 _ rfl
          cases b2 with
          | true =>
            have HRR : Hid (R = .tuple #[Ent.zero.val, .string (bs []), .int .i64 4]) := Lib.hid (by rw [← HR.out]; unfold decE; rw [HE.out, if_pos (by simp)]; rfl)
            clear CG
            go_wp2_with ((with_reducible refine at_store rfl ?_); refine wpList_put_row rfl _ _ _ rfl rfl w.heap.size _ rfl rfl _ _ Z.out (by kernel_rfl) rfl (by first | kernel_rfl | simp [Value.oneCell']) ?_; intro w8 Z8 B8)
            (try simp only [Exit.then])
            refine bodyPost_ret (v := .tuple #[.agg Ent.zero.row, .string (bs []), .int .i64 4]) ?_ rfl ⟨by rw [HRR.out]; rfl, ?_⟩
            · refine Eq.trans (results_cell_two (p := 2) (u := 3) (v := 4) ?_ _ _ w.heap.size _ _ _ fs ?_ Z8 Hu.out (by kernel_rfl)) ?_
              all_goals rfl
            · exact B.out.trans (B8.below (Nat.le_refl _) B.out.size)
          | false =>
            cases hg : Ent.good ⟨2, c, ep, nn, ln, p, pg, sl, u1, bs d1, u2, bs d2, nx⟩ with
            | false =>
              have HRR : Hid (R = .tuple #[Ent.zero.val, .string (bs []), .int .i64 4]) := Lib.hid (by rw [← HR.out]; unfold decE; rw [HE.out, if_pos (by simp [hg])]; rfl)
              rw [hg] at CG
              have CG' := Lib.hid CG
              clear hg CG
              go_wp2_with fail
              refine (CG'.out _).mono ?_
              rintro e w7 ⟨rfl, b7⟩
              have Z := Lib.hid (Z.out.below b7)
              have B := Lib.hid (bup B.out b7)
              clear a0 a1 a2 a3 a4 a5 a6 a7 a8 a9 a10 a11 a12 t0 t1 b7
              go_wp2_with ((with_reducible refine at_store rfl ?_); refine wpList_put_row rfl _ _ _ rfl rfl w.heap.size _ rfl rfl _ _ Z.out (by kernel_rfl) rfl (by first | kernel_rfl | simp [Value.oneCell']) ?_; intro w8 Z8 B8)
              (try simp only [Exit.then])
              refine bodyPost_ret (v := .tuple #[.agg Ent.zero.row, .string (bs []), .int .i64 4]) ?_ rfl ⟨by rw [HRR.out]; rfl, ?_⟩
              · refine Eq.trans (results_cell_two (p := 2) (u := 3) (v := 4) ?_ _ _ w.heap.size _ _ _ fs ?_ Z8 Hu.out (by kernel_rfl)) ?_
                all_goals rfl
              · exact B.out.trans (B8.below (Nat.le_refl _) B.out.size)
            | true =>
              have HRR : Hid (R = .tuple #[.agg #[.int .i64 2, .int .i64 c, .int .i64 ep, .int .i64 nn, .int .i64 ln, .int .i64 p, .int .i64 pg, .int .i64 sl, .bool u1, .string (bs d1), .bool u2, .string (bs d2), .int .i64 nx], .string (bs r2), .int .i64 0]) := Lib.hid (by rw [← HR.out]; unfold decE; rw [HE.out, if_neg (by simp [hg])]; rfl)
              rw [hg] at CG
              have CG' := Lib.hid CG
              clear hg CG
              go_wp2_with fail
              refine (CG'.out _).mono ?_
              rintro e w7 ⟨rfl, b7⟩
              have X7 := X.out.below b7
              have T7 := T.out.below b7
              have Z7 := Lib.hid (Z.out.below b7)
              have B7 := Lib.hid (bup B.out b7)
              clear a0 a1 a2 a3 a4 a5 a6 a7 a8 a9 a10 a11 a12 t0 t1 b7
              obtain ⟨a0, a1, a2, a3, a4, a5, a6, a7, a8, a9, a10, a11, a12⟩ := EntAt.of X7
              have t0 := T7.cell 0 _ rfl
              clear X7 T7
              go_wp2_with fail
              have Zz := EntAt.of (show Has w7 w.heap.size (.cells #[.int .i64 0, .int .i64 0, .int .i64 0, .int .i64 0, .int .i64 0, .int .i64 0, .int .i64 0, .int .i64 0, .bool false, .string ⟨#[]⟩, .bool false, .string ⟨#[]⟩, .int .i64 0] 64) from Z7.out)
              obtain ⟨z0, z1, z2, z3, z4, z5, z6, z7, z8, z9, z10, z11, z12⟩ := Zz
              have f0 := Z7.out.free 0
              have f1 := Z7.out.free 1
              have f2 := Z7.out.free 2
              have f3 := Z7.out.free 3
              have f4 := Z7.out.free 4
              have f5 := Z7.out.free 5
              have f6 := Z7.out.free 6
              have f7 := Z7.out.free 7
              have f8 := Z7.out.free 8
              have f9 := Z7.out.free 9
              have f10 := Z7.out.free 10
              have f11 := Z7.out.free 11
              have f12 := Z7.out.free 12
              go_region
              all_goals
                generalize hw : World.drew _ = wz
                have hw' : (setList w.heap.size 0 [.int .i64 2, .int .i64 c, .int .i64 ep, .int .i64 nn, .int .i64 ln, .int .i64 p, .int .i64 pg, .int .i64 sl, .bool u1, .string (bs d1), .bool u2, .string (bs d2), .int .i64 nx] w7).drew = wz := hw
                have Z9 := (setList_row (vs := [.int .i64 2, .int .i64 c, .int .i64 ep, .int .i64 nn, .int .i64 ln, .int .i64 p, .int .i64 pg, .int .i64 sl, .bool u1, .string (bs d1), .bool u2, .string (bs d2), .int .i64 nx]) Z7.out rfl).drew
                have B9 := (setList_below (Nat.le_refl w.heap.size) [.int .i64 2, .int .i64 c, .int .i64 ep, .int .i64 nn, .int .i64 ln, .int .i64 p, .int .i64 pg, .int .i64 sl, .bool u1, .string (bs d1), .bool u2, .string (bs d2), .int .i64 nx] 0 _ B7.out).drew
                rw [hw'] at Z9 B9
                clear hw hw' z0 z1 z2 z3 z4 z5 z6 z7 z8 z9 z10 z11 z12 f0 f1 f2 f3 f4 f5 f6 f7 f8 f9 f10 f11 f12
                (try simp only [Exit.then])
                go_wp2_with fail
                refine bodyPost_ret (v := .tuple #[.agg #[.int .i64 2, .int .i64 c, .int .i64 ep, .int .i64 nn, .int .i64 ln, .int .i64 p, .int .i64 pg, .int .i64 sl, .bool u1, .string (bs d1), .bool u2, .string (bs d2), .int .i64 nx], .string (bs r2), .int .i64 0]) ?_ rfl ⟨by rw [HRR.out], ?_⟩
                · refine Eq.trans (results_cell_two (p := 2) (u := 3) (v := 4) ?_ _ _ w.heap.size _ _ _ fs ?_ Z9 Hu.out (by kernel_rfl)) ?_
                  all_goals rfl
                · exact B9
      · have k1 : (k == 1) = false := by simp at k12 ⊢; exact k12.1
        have k2 : (k == 2) = false := by simp at k12 ⊢; exact k12.2
        rw [if_neg k12] at hE
        have HE := Lib.hid hE
        replace T := Lib.hid T; replace X := Lib.hid X; replace Z := Lib.hid Z; replace B := Lib.hid B
        clear k12 hE
        replace hz1 : wd.size ≤ 9223372036854775807 := by omega
        replace hz2 : ix.size ≤ 9223372036854775807 := by omega
        have CG := fun v => good_any ⟨k, c, ep, nn, ln, p, pg, sl, wu, wd, iu, ix, nx⟩ hz1 hz2 v
        simp only [Ent.val, Ent.row] at CG
        obtain ⟨a0, a1, a2, a3, a4, a5, a6, a7, a8, a9, a10, a11, a12⟩ := EntAt.of X.out
        have t0 := T.out.cell 0 _ rfl
        have t1 := T.out.cell 1 _ rfl
        cases be with
        | true =>
          have HRR : Hid (R = .tuple #[Ent.zero.val, .string (bs []), .int .i64 4]) := Lib.hid (by rw [← HR.out]; unfold decE; rw [HE.out, if_pos (by simp)]; rfl)
          clear CG
          go_wp2_with ((with_reducible refine at_store rfl ?_); refine wpList_put_row rfl _ _ _ rfl rfl w.heap.size _ rfl rfl _ _ Z.out (by kernel_rfl) rfl (by first | kernel_rfl | simp [Value.oneCell']) ?_; intro w8 Z8 B8)
          (try simp only [Exit.then])
          refine bodyPost_ret (v := .tuple #[.agg Ent.zero.row, .string (bs []), .int .i64 4]) ?_ rfl ⟨by rw [HRR.out]; rfl, ?_⟩
          · refine Eq.trans (results_cell_two (p := 2) (u := 3) (v := 4) ?_ _ _ w.heap.size _ _ _ fs ?_ Z8 Hu.out (by kernel_rfl)) ?_
            all_goals rfl
          · exact B.out.trans (B8.below (Nat.le_refl _) B.out.size)
        | false =>
          cases hg : Ent.good ⟨k, c, ep, nn, ln, p, pg, sl, wu, wd, iu, ix, nx⟩ with
          | false =>
            have HRR : Hid (R = .tuple #[Ent.zero.val, .string (bs []), .int .i64 4]) := Lib.hid (by rw [← HR.out]; unfold decE; rw [HE.out, if_pos (by simp [hg])]; rfl)
            rw [hg] at CG
            have CG' := Lib.hid CG
            clear hg CG
            go_wp2_with fail
            refine (CG'.out _).mono ?_
            rintro e w7 ⟨rfl, b7⟩
            have Z := Lib.hid (Z.out.below b7)
            have B := Lib.hid (bup B.out b7)
            clear a0 a1 a2 a3 a4 a5 a6 a7 a8 a9 a10 a11 a12 t0 t1 b7
            go_wp2_with ((with_reducible refine at_store rfl ?_); refine wpList_put_row rfl _ _ _ rfl rfl w.heap.size _ rfl rfl _ _ Z.out (by kernel_rfl) rfl (by first | kernel_rfl | simp [Value.oneCell']) ?_; intro w8 Z8 B8)
            (try simp only [Exit.then])
            refine bodyPost_ret (v := .tuple #[.agg Ent.zero.row, .string (bs []), .int .i64 4]) ?_ rfl ⟨by rw [HRR.out]; rfl, ?_⟩
            · refine Eq.trans (results_cell_two (p := 2) (u := 3) (v := 4) ?_ _ _ w.heap.size _ _ _ fs ?_ Z8 Hu.out (by kernel_rfl)) ?_
              all_goals rfl
            · exact B.out.trans (B8.below (Nat.le_refl _) B.out.size)
          | true =>
            have HRR : Hid (R = .tuple #[.agg #[.int .i64 k, .int .i64 c, .int .i64 ep, .int .i64 nn, .int .i64 ln, .int .i64 p, .int .i64 pg, .int .i64 sl, .bool wu, .string wd, .bool iu, .string ix, .int .i64 nx], .string (bs r), .int .i64 0]) := Lib.hid (by rw [← HR.out]; unfold decE; rw [HE.out, if_neg (by simp [hg])]; rfl)
            rw [hg] at CG
            have CG' := Lib.hid CG
            clear hg CG
            go_wp2_with fail
            refine (CG'.out _).mono ?_
            rintro e w7 ⟨rfl, b7⟩
            have X7 := X.out.below b7
            have T7 := T.out.below b7
            have Z7 := Lib.hid (Z.out.below b7)
            have B7 := Lib.hid (bup B.out b7)
            clear a0 a1 a2 a3 a4 a5 a6 a7 a8 a9 a10 a11 a12 t0 t1 b7
            obtain ⟨a0, a1, a2, a3, a4, a5, a6, a7, a8, a9, a10, a11, a12⟩ := EntAt.of X7
            have t0 := T7.cell 0 _ rfl
            clear X7 T7
            go_wp2_with fail
            have Zz := EntAt.of (show Has w7 w.heap.size (.cells #[.int .i64 0, .int .i64 0, .int .i64 0, .int .i64 0, .int .i64 0, .int .i64 0, .int .i64 0, .int .i64 0, .bool false, .string ⟨#[]⟩, .bool false, .string ⟨#[]⟩, .int .i64 0] 64) from Z7.out)
            obtain ⟨z0, z1, z2, z3, z4, z5, z6, z7, z8, z9, z10, z11, z12⟩ := Zz
            have f0 := Z7.out.free 0
            have f1 := Z7.out.free 1
            have f2 := Z7.out.free 2
            have f3 := Z7.out.free 3
            have f4 := Z7.out.free 4
            have f5 := Z7.out.free 5
            have f6 := Z7.out.free 6
            have f7 := Z7.out.free 7
            have f8 := Z7.out.free 8
            have f9 := Z7.out.free 9
            have f10 := Z7.out.free 10
            have f11 := Z7.out.free 11
            have f12 := Z7.out.free 12
            go_region
            all_goals
              generalize hw : World.drew _ = wz
              have hw' : (setList w.heap.size 0 [.int .i64 k, .int .i64 c, .int .i64 ep, .int .i64 nn, .int .i64 ln, .int .i64 p, .int .i64 pg, .int .i64 sl, .bool wu, .string wd, .bool iu, .string ix, .int .i64 nx] w7).drew = wz := hw
              have Z9 := (setList_row (vs := [.int .i64 k, .int .i64 c, .int .i64 ep, .int .i64 nn, .int .i64 ln, .int .i64 p, .int .i64 pg, .int .i64 sl, .bool wu, .string wd, .bool iu, .string ix, .int .i64 nx]) Z7.out rfl).drew
              have B9 := (setList_below (Nat.le_refl w.heap.size) [.int .i64 k, .int .i64 c, .int .i64 ep, .int .i64 nn, .int .i64 ln, .int .i64 p, .int .i64 pg, .int .i64 sl, .bool wu, .string wd, .bool iu, .string ix, .int .i64 nx] 0 _ B7.out).drew
              rw [hw'] at Z9 B9
              clear hw hw' z0 z1 z2 z3 z4 z5 z6 z7 z8 z9 z10 z11 z12 f0 f1 f2 f3 f4 f5 f6 f7 f8 f9 f10 f11 f12
              (try simp only [Exit.then])
              go_wp2_with fail
              refine bodyPost_ret (v := .tuple #[.agg #[.int .i64 k, .int .i64 c, .int .i64 ep, .int .i64 nn, .int .i64 ln, .int .i64 p, .int .i64 pg, .int .i64 sl, .bool wu, .string wd, .bool iu, .string ix, .int .i64 nx], .string (bs r), .int .i64 0]) ?_ rfl ⟨by rw [HRR.out], ?_⟩
              · refine Eq.trans (results_cell_two (p := 2) (u := 3) (v := 4) ?_ _ _ w.heap.size _ _ _ fs ?_ Z9 Hu.out (by kernel_rfl)) ?_
                all_goals rfl
              · exact B9
end Go.Proofs.Ytakdagmkkelnfaa
