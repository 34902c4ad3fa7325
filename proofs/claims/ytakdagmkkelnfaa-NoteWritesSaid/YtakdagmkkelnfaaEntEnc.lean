/-
  The places of an entry's numbers.
-/
import Derived.Test.YtakdagmkkelnfaaEntA
import Derived.StillTailTactics
import Derived.Deep.Cut
import Derived.Test.YtakdagmkkelnfaaNib
import Derived.Test.YtakdagmkkelnfaaEntGood
/-! The places of an entry's numbers. -/
namespace Go.Proofs.Ytakdagmkkelnfaa
open Go.RowKit Go.Sort

/-- The places of an entry's numbers, of an entry that begins a block. -/
def ptrs (b : Nat) : Array Value := #[.pointer (some ⟨b, 0, none⟩), .pointer (some ⟨b, 1, none⟩), .pointer (some ⟨b, 2, none⟩), .pointer (some ⟨b, 3, none⟩), .pointer (some ⟨b, 4, none⟩), .pointer (some ⟨b, 5, none⟩), .pointer (some ⟨b, 6, none⟩), .pointer (some ⟨b, 7, none⟩), .pointer (some ⟨b, 12, none⟩)]
set_option maxRecDepth 100000 in
set_option maxHeartbeats 4000000 in
theorem fields_in (b : Nat) (k : Int) (len : Int) (w : World) (h0 : w.cell? ⟨b, 0, none⟩ = some (.int .i64 k)) (hk : ((k != 1) = false ∧ (k != 2) = true ∧ len = 9) ∨ ((k != 1) = true ∧ (k != 2) = false ∧ len = 9) ∨ ((k != 1) = true ∧ (k != 2) = true ∧ len = 6)) :
    Calls Try.prog 71 #[.pointer (some ⟨b, 0, none⟩)] w fun r w' => r = .returned (.slice (some ⟨w.heap.size, 0, none⟩) len.toNat 9) ∧ Has w' w.heap.size (.cells (ptrs b) 105) ∧ Below w.heap.size w w' := by
  have H0 := Lib.hid h0
  rcases hk with ⟨k1, k2, rfl⟩ | ⟨k1, k2, rfl⟩ | ⟨k1, k2, rfl⟩ <;>
  · go_enter Try.func71, Try.ntmps71
    go_wp2_with fail
    go_still_tail 30, (by kernel_rfl)
    change wpList _ _ _ _ _ w.drew
    clear h0
    go_upto_region 2 with (fail)
    generalize hw3 : World.drew _ = w3
    have hH : Has w3 w.heap.size (.cells (ptrs b) 105) := by rw [← hw3]; exact (Has.new w _).drew
    have hB : Below w.heap.size w w3 := by rw [← hw3]; exact ((Below.refl w.heap.size w).alloc (Nat.le_refl _) _).drew
    clear hw3
    have h0 : w3.cell? ⟨b, 0, none⟩ = some (.int .i64 k) := by rw [hB.cell (block_lt_of_cell H0.out)]; exact H0.out
    go_wp2_with fail
    go_ret
    exact ⟨rfl, hH, hB⟩
theorem fields_any (b : Nat) (k : Int) (w : World) (h0 : w.cell? ⟨b, 0, none⟩ = some (.int .i64 k)) :
    Calls Try.prog 71 #[.pointer (some ⟨b, 0, none⟩)] w fun r w' => r = .returned (.slice (some ⟨w.heap.size, 0, none⟩) (if k = 1 ∨ k = 2 then 9 else 6) 9) ∧ Has w' w.heap.size (.cells (ptrs b) 105) ∧ Below w.heap.size w w' := by
  by_cases k1 : k = 1
  · subst k1; exact fields_in b 1 9 w h0 (.inl ⟨rfl, rfl, rfl⟩)
  by_cases k2 : k = 2
  · subst k2; exact fields_in b 2 9 w h0 (.inr (.inl ⟨rfl, rfl, rfl⟩))
  rw [if_neg (by simp [k1, k2])]
  exact fields_in b k 6 w h0 (.inr (.inr ⟨by simpa using k1, by simpa using k2, rfl⟩))
end Go.Proofs.Ytakdagmkkelnfaa

/-! A slot's bytes, both answers. -/
namespace Go.Proofs.Ytakdagmkkelnfaa
open Go.RowKit Go.Sort NibPure

/-- A slot's bytes. -/
def slotEnc (u : Bool) (d : List UInt8) : List UInt8 := if u then enc 1 ++ encS d else enc 0
theorem slotEnc_len (u : Bool) (d : List UInt8) : (slotEnc u d).length ≤ d.length + 20 := by
  unfold slotEnc encS
  have h1 := enc_len 1
  have h0 := enc_len 0
  have h2 := enc_len (d.length : Int)
  split <;> simp <;> omega
theorem slot_add {P : Program} (d : ByteArray) (hd : d.size ≤ 4611686018427387904) (w : World) : (Op.stringOp .add (bs (enc 1)) (bs (encS d.data.toList))).run P w = .ok (.string (bs (slotEnc true d.data.toList))) w := by
  have h1 := enc_len 1
  have h2 := enc_len (d.size : Int)
  have e : d.data.toList.length = d.size := Array.length_toList
  rw [run_string_add_sum w _ _ (by rw [bs_size, bs_size]; unfold encS; simp only [List.length_append]; rw [e]; omega)]
  rw [show slotEnc true d.data.toList = enc 1 ++ encS d.data.toList from rfl, bs_append]
set_option maxRecDepth 100000 in
set_option maxHeartbeats 4000000 in
theorem slot_any (u : Bool) (d : ByteArray) (hd : d.size ≤ 4611686018427387904) (w : World) :
    Calls Try.prog 74 #[.agg #[.bool u, .string d]] w fun r w' => r = .returned (.string (bs (slotEnc u d.data.toList))) ∧ Below w.heap.size w w' := by
  cases u
  case false =>
    go_enter Try.func74, Try.ntmps74
    go_wp2_with (go_at_call 60; (with_reducible refine (nibInt_any 0 _ (by omega) (by omega)).mono ?_); rintro e w1 ⟨rfl, g1⟩)
    go_ret
    exact ⟨rfl, bup (bnew _ _) g1⟩
  case true =>
    have hadd := fun w => slot_add (P := Try.prog) d hd w
    go_enter Try.func74, Try.ntmps74
    go_wp2_with fail
    generalize hw1 : World.alloc w _ = w1
    have H1 : Has w1 w.heap.size (.cells #[.bool true, .string d] 62) := by rw [← hw1]; exact Has.new _ _
    have g1 : Below w.heap.size w w1 := by rw [← hw1]; exact bnew _ _
    clear hw1
    have a1 := cell_regrown (H1.cell 1 (.string d) rfl)
    have c1 := fun x os => Calls.regrown_of (nibInt_any 1 (grow (redrawn w1 x) os) (by omega) (by omega))
    have c2 := fun x os => Calls.regrown_of (nibStr_any d (grow (redrawn w1 x) os) (by omega))
    refine wp_region_quiet_below (by kernel_rfl) (by kernel_rfl) ?_
    repeat (quiet_step (first | exact c1 _ _ | exact c2 _ _))
    refine wpQuiet_nil ?_
    intro _ hw4
    obtain ⟨⟨dq, osq⟩, hw5⟩ := hw4
    subst hw5
    go_wp2_with fail
    go_ret
    exact ⟨rfl, bup g1 (below_regrown _ _ _)⟩
end Go.Proofs.Ytakdagmkkelnfaa

/-! An entry's bytes: entry.Encode. -/
namespace Go.Proofs.Ytakdagmkkelnfaa
open Go.RowKit Go.Sort NibPure

/-- An entry's numbers by their places in the row. -/
def Ent.num (x : Ent) : Nat → Int
  | 0 => x.kind | 1 => x.cl | 2 => x.ep | 3 => x.n | 4 => x.lsn | 5 => x.prev | 6 => x.page | 7 => x.slot | _ => x.next
def offs (i : Nat) : Nat := if i = 8 then 12 else i
theorem ptrs_at (b i : Nat) (h : i < 9) : (ptrs b)[i]? = some (.pointer (some ⟨b, offs i, none⟩)) := by
  match i, h with
  | 0, _ => rfl | 1, _ => rfl | 2, _ => rfl | 3, _ => rfl | 4, _ => rfl | 5, _ => rfl | 6, _ => rfl | 7, _ => rfl | 8, _ => rfl
theorem row_at (x : Ent) (i : Nat) (h : i < 9) : x.row[offs i]? = some (.int .i64 (x.num i)) := by
  match i, h with
  | 0, _ => rfl | 1, _ => rfl | 2, _ => rfl | 3, _ => rfl | 4, _ => rfl | 5, _ => rfl | 6, _ => rfl | 7, _ => rfl | 8, _ => rfl
def Ent.many (x : Ent) : Nat := if x.kind = 1 ∨ x.kind = 2 then 9 else 6
def Ent.nums (x : Ent) (n : Nat) : List UInt8 := (List.range n).flatMap fun i => enc (x.num i)
theorem Ent.nums_succ (x : Ent) (n : Nat) : x.nums (n + 1) = x.nums n ++ enc (x.num n) := by
  simp [Ent.nums, List.range_succ]
theorem Ent.nums_len (x : Ent) (n : Nat) : (x.nums n).length ≤ 10 * n := by
  induction n with
  | zero => simp [Ent.nums]
  | succ n ih =>
    rw [Ent.nums_succ, List.length_append]
    have := enc_len (x.num n)
    omega
def Ent.tail (x : Ent) : List UInt8 := if x.kind ≤ 2 then slotEnc x.wu x.wd.data.toList ++ slotEnc x.iu x.ix.data.toList else []
/-- An entry's bytes. -/
def Ent.bytes (x : Ent) : List UInt8 := x.nums x.many ++ x.tail
def Ent.encRes (x : Ent) : Value := if x.good then .tuple #[.string (bs x.bytes), .int .i64 0] else .tuple #[.string (bs []), .int .i64 1]
theorem good_facts (x : Ent) (h : x.good = true) : (∀ i, i < 9 → 0 ≤ x.num i ∧ x.num i ≤ 1099511627776) ∧ 1 ≤ x.kind ∧ x.kind ≤ 4 ∧ x.wd.size ≤ 200 ∧ x.ix.size ≤ 200 := by
  obtain ⟨k, c, e, n, l, p, pg, sl, wu, wd, iu, ix, nx⟩ := x
  have hz : ∀ d : ByteArray, d.toList.isEmpty = true → d.size = 0 := by
    intro d hd
    rw [ByteArray.toList_eq] at hd
    have := List.isEmpty_iff.1 hd
    have e : d.data.toList.length = d.size := Array.length_toList
    rw [this] at e
    exact e.symm
  simp only [Ent.good, Bool.and_eq_true, Ent.known, knownB, Ent.lsnB, Ent.prevB, decide_eq_true_eq, Ent.changeB, Ent.pageB, Ent.placeB, Ent.nextB, Ent.plainB, slotB] at h
  obtain ⟨⟨⟨h1, h2, h3⟩, h4, h5⟩, h6⟩ := h
  have H : 1 ≤ k ∧ k ≤ 4 ∧ 0 ≤ pg ∧ pg ≤ 1023 ∧ 0 ≤ sl ∧ sl ≤ 31 ∧ 0 ≤ nx ∧ nx ≤ 1099511627776 ∧ wd.size ≤ 200 ∧ ix.size ≤ 200 := by
    split at h6
    · simp only [Bool.and_eq_true, decide_eq_true_eq] at h6
      omega
    · split at h6
      · simp only [Bool.and_eq_true, decide_eq_true_eq] at h6
        omega
      · split at h6
        · simp only [Bool.and_eq_true, decide_eq_true_eq] at h6
          have := hz wd h6.2.1
          have := hz ix h6.2.2
          omega
        · exact absurd h6 (by simp)
  refine ⟨?_, H.1, H.2.1, H.2.2.2.2.2.2.2.2.1, H.2.2.2.2.2.2.2.2.2⟩
  intro i hi
  match i, hi with
  | 0, _ => show 0 ≤ k ∧ k ≤ _; omega
  | 1, _ => show 0 ≤ c ∧ c ≤ _; omega
  | 2, _ => show 0 ≤ e ∧ e ≤ _; omega
  | 3, _ => show 0 ≤ n ∧ n ≤ _; omega
  | 4, _ => show 0 ≤ l ∧ l ≤ _; omega
  | 5, _ => show 0 ≤ p ∧ p ≤ _; omega
  | 6, _ => show 0 ≤ pg ∧ pg ≤ _; omega
  | 7, _ => show 0 ≤ sl ∧ sl ≤ _; omega
  | 8, _ => show 0 ≤ nx ∧ nx ≤ _; omega
theorem add_lists' {P : Program} (a b : List UInt8) (h : a.length + b.length ≤ 9223372036854775807) (w : World) : (Op.stringOp .add (bs a) (bs b)).run P w = .ok (.string (bs (a ++ b))) w := by
  rw [run_string_add_sum w _ _ (by rw [bs_size, bs_size]; exact h), bs_append]

set_option maxRecDepth 100000 in
set_option maxHeartbeats 4000000 in
theorem encode_any (x : Ent) (hw : x.wd.size ≤ 4611686018427387904) (hi : x.ix.size ≤ 4611686018427387904) (w : World) :
    Calls Try.prog 63 #[x.val] w fun r w' => r = .returned x.encRes ∧ Below w.heap.size w w' := by
  have CG := fun w => good_any x (by omega) (by omega) w
  cases hg : x.good with
  | false =>
    rw [hg] at CG
    have CG := Lib.hid CG
    have HR : Hid (x.encRes = .tuple #[.string (bs []), .int .i64 1]) := Lib.hid (by simp [Ent.encRes, hg])
    clear hg
    obtain ⟨k, c, e, n, l, p, pg, sl, wu, wd, iu, ix, nx⟩ := x
    simp only [Ent.val, Ent.row] at CG ⊢
    go_enter Try.func63, Try.ntmps63
    go_wp2_with fail
    refine (CG.out _).mono ?_
    rintro e w1 ⟨rfl, g1⟩
    go_wp2_with fail
    go_ret2
    exact ⟨by rw [HR.out]; rfl, bup (bnew _ _) g1⟩
  | true =>
    rw [hg] at CG
    have CG := Lib.hid CG
    rw [show x.encRes = .tuple #[.string (bs x.bytes), .int .i64 0] by simp [Ent.encRes, hg]]
    obtain ⟨hn, hk1, hk4, hws, his⟩ := good_facts x hg
    clear hg hw hi
    obtain ⟨X, hX⟩ : ∃ X, X = x := ⟨_, rfl⟩
    rw [show x.bytes = X.bytes by rw [hX]]
    have hnX := hn
    rw [← hX] at hnX
    have Hn := Lib.hid hnX
    have HX := Lib.hid hX
    clear hn hnX hX
    obtain ⟨k, c, e, n, l, p, pg, sl, wu, wd, iu, ix, nx⟩ := x
    simp only [Ent.val, Ent.row] at CG hk1 hk4 hws his ⊢
    have Hk := Lib.hid (And.intro hk1 (And.intro hk4 (And.intro hws his)))
    clear hk1 hk4 hws his
    obtain ⟨L, hL⟩ : ∃ L : Nat, (if k = 1 ∨ k = 2 then 9 else 6) = L := ⟨_, rfl⟩
    have hL9 : L ≤ 9 := by rw [← hL]; split <;> omega
    have HLm : Hid (X.many = L) := Lib.hid (by rw [HX.out]; exact hL)
    have CF := fun b w h => fields_any b k w h
    rw [hL] at CF
    have CF := Lib.hid CF
    clear hL
    go_enter Try.func63, Try.ntmps63
    go_wp2_with fail
    refine (CG.out _).mono ?_
    rintro e' w1 ⟨rfl, g1⟩
    have H1 := (Has.new w _).below g1
    go_wp2_with fail
    refine (CF.out _ _ (H1.cell 0 _ rfl)).mono ?_
    rintro e' w2 ⟨rfl, Hf, g2⟩
    have H2 := H1.below g2
    have hb1 : w.heap.size < w2.heap.size := H2.lt
    have hb2 : w1.heap.size < w2.heap.size := Hf.lt
    go_wp2_with fail
    go_loopw [4, 12] (fun s i wr => ∃ j : Nat, j ≤ L ∧ i = .int .i64 j ∧ s = .string (bs (X.nums j)) ∧ Below w2.heap.size w2 wr) (fun _ i _ => L - (intOf i).toNat)
    case atStart => exact ⟨0, by omega, rfl, rfl, Below.refl _ _⟩
    case round =>
      obtain ⟨j, hj, rfl, rfl, hb⟩ := hrel
      have Hf3 := Hf.below hb
      have H3 := H2.below hb
      by_cases hlt : j < L
      · have hp : wr.cell? ⟨w1.heap.size, j, none⟩ = some (.pointer (some ⟨w.heap.size, offs j, none⟩)) := Hf3.cell j _ (ptrs_at _ j (by omega))
        have hc : wr.cell? ⟨w.heap.size, offs j, none⟩ = some (.int .i64 (X.num j)) := by
          refine H3.cell (offs j) _ ?_
          have := row_at X j (by omega)
          rw [HX.out] at this ⊢
          exact this
        have hz := Hn.out j (by omega)
        obtain ⟨z, hze⟩ : ∃ z, z = X.num j := ⟨_, rfl⟩
        rw [← hze] at hc hz
        have hadd := fun w => add_lists' (P := Try.prog) (X.nums j) (enc z) (by have := X.nums_len j; have := enc_len z; omega) w
        have Hb := Lib.hid hb
        have Hze := Lib.hid hze
        clear hb hze Hf3 H3
        go_wp2_with (go_at_call 60; (with_reducible refine (nibInt_any z _ (by omega) (by omega)).mono ?_); rintro e w3 ⟨rfl, b3⟩)
        go_roundw
        case rel =>
          refine ⟨j + 1, by omega, by go_num, ?_, Hb.out.trans (b3.mono Hb.out.size)⟩
          rw [X.nums_succ, ← Hze.out]
        case measure => simp [intOf]; omega
      · have hjl : j = L := by omega
        subst hjl
        clear hj hlt
        obtain ⟨a0, a1, a2, a3, a4, a5, a6, a7, a8, a9, a10, a11, a12⟩ := EntAt.of H3
        have hB : Below w.heap.size w wr := bup (bup (bup (bnew _ _) g1) g2) hb
        have hws := Hk.out.2.2.1
        have his := Hk.out.2.2.2
        have hlj := X.nums_len j
        clear Hf3 hb Hf H2 H1 g2 g1 hb1 hb2
        by_cases hk2 : k ≤ 2
        · have hT : Hid (X.bytes = X.nums j ++ (slotEnc wu wd.data.toList ++ slotEnc iu ix.data.toList)) := Lib.hid (by
            unfold Ent.bytes Ent.tail
            rw [HLm.out, HX.out]
            simp only [hk2, if_true])
          have c1 := fun d os => Calls.regrown_of (slot_any wu wd (by omega) (grow (redrawn wr d) os))
          have c2 := fun d os => Calls.regrown_of (slot_any iu ix (by omega) (grow (redrawn wr d) os))
          obtain ⟨l1, hl1⟩ : ∃ l, slotEnc wu wd.data.toList = l := ⟨_, rfl⟩
          obtain ⟨l2, hl2⟩ : ∃ l, slotEnc iu ix.data.toList = l := ⟨_, rfl⟩
          have n1 : l1.length ≤ 220 := by
            have := slotEnc_len wu wd.data.toList
            rw [hl1] at this
            have e : wd.data.toList.length = wd.size := Array.length_toList
            omega
          have n2 : l2.length ≤ 220 := by
            have := slotEnc_len iu ix.data.toList
            rw [hl2] at this
            have e : ix.data.toList.length = ix.size := Array.length_toList
            omega
          rw [hl1] at c1 hT
          rw [hl2] at c2 hT
          have hadd1 := fun w => add_lists' (P := Try.prog) l1 l2 (by omega) w
          have hadd2 := fun w => add_lists' (P := Try.prog) (X.nums j) (l1 ++ l2) (by simp; omega) w
          have a8 := cell_regrown a8
          have a9 := cell_regrown a9
          have a10 := cell_regrown a10
          have a11 := cell_regrown a11
          clear hl1 hl2 hlj n1 n2 hws his
          go_wp2_with fail
          refine wp_region_quiet_below (by kernel_rfl) (by kernel_rfl) ?_
          repeat (quiet_step (first | (with_reducible exact c1 _ _) | (with_reducible exact c2 _ _)))
          refine wpQuiet_nil ?_
          intro _ hw4
          obtain ⟨⟨dq, osq⟩, hw5⟩ := hw4
          subst hw5
          go_wp2_with fail
          go_ret2
          exact ⟨by rw [hT.out]; rfl, bup hB (below_regrown _ _ _)⟩
        · have hT : Hid (X.bytes = X.nums j) := Lib.hid (by
            unfold Ent.bytes Ent.tail
            rw [HLm.out, HX.out]
            simp only [hk2, if_false, List.append_nil])
          go_wp2_with fail
          go_ret2
          exact ⟨by rw [hT.out]; rfl, hB⟩
end Go.Proofs.Ytakdagmkkelnfaa

/-! What an entry costs: entry.Cost. -/
namespace Go.Proofs.Ytakdagmkkelnfaa
open Go.RowKit Go.Sort NibPure

def Ent.cost (x : Ent) : Int := if x.good then 1 + ((x.bytes.length : Int) + 231) / 232 else 0
theorem bytes_len (x : Ent) (h : x.good = true) : x.bytes.length ≤ 540 := by
  obtain ⟨_, _, _, h1, h2⟩ := good_facts x h
  have a := x.nums_len x.many
  have m : x.many ≤ 9 := by unfold Ent.many; split <;> omega
  have b1 := slotEnc_len x.wu x.wd.data.toList
  have b2 := slotEnc_len x.iu x.ix.data.toList
  have e1 : x.wd.data.toList.length = x.wd.size := Array.length_toList
  have e2 : x.ix.data.toList.length = x.ix.size := Array.length_toList
  unfold Ent.bytes Ent.tail
  split
  · simp only [List.length_append]; omega
  · simp only [List.length_append, List.length_nil]; omega
end Go.Proofs.Ytakdagmkkelnfaa
