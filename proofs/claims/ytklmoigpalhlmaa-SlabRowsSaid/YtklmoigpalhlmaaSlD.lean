/-
  What a slot has; whether two images are the same; what is more than is asked.
-/
import Derived.Test.YtklmoigpalhlmaaSlC
import Derived.Test.YtklmoigpalhlmaaStore
import Derived.Laws.StructEq
namespace Go.Proofs.Ytklmoigpalhlmaa
open Go.RowKit
set_option linter.unusedVariables false

theorem eqFields_step {P : Program} {w : World} {d : Nat} {xs ys : Array Value} {f : Field} {fs : List Field} {a b : Value} {r s : Bool} (hn : f.name ≠ "_") (ha : (part f.type xs f.offset).run P w = .ok a w) (hb : (part f.type ys f.offset).run P w = .ok b w)
    (hr : (Op.equalIn d f.type a b).run P w = .ok r w) (hs : (Op.eqFields d xs ys fs).run P w = .ok s w) : (Op.eqFields d xs ys (f :: fs)).run P w = .ok (r && s) w := by
  simp only [Op.eqFields, hn, ne_eq, not_false_eq_true, if_true, Sem.run_bind, ha, hb, hr, Result.andThen_ok]
  cases r <;> simp [hs]
theorem eqFields_nil {P : Program} {w : World} {d : Nat} {xs ys : Array Value} : (Op.eqFields d xs ys []).run P w = .ok true w := by simp [Op.eqFields]
/-- Whether two slots are the same. -/
def slEq (x y : Sl) : Bool := x.u == y.u && (x.d.toList == y.d.toList && true)
theorem slEqIn (d : Nat) (x y : Sl) (w : World) : (Op.equalIn (d + 2) 33 (.agg #[.bool x.u, .string x.d]) (.agg #[.bool y.u, .string y.d])).run Try.prog w = .ok (slEq x y) w := by
  obtain ⟨u, a⟩ := x
  obtain ⟨v, b⟩ := y
  rw [run_equalIn_agg w (d + 1) _ _ _ (by simp [Program.fieldsOf, Try.underlying33]) (by kernel_rfl)]
  simp only [Program.fieldsOf, Try.underlying33]
  refine eqFields_step (by decide) (a := .bool u) (b := .bool v) (by go_simp) (by go_simp) (by go_simp) ?_
  refine eqFields_step (by decide) (a := .string a) (b := .string b) (by go_simp) (by go_simp) (by go_simp) eqFields_nil
theorem slNeqBin (x y : Sl) (w : World) : (binOp .neq 33 (.agg #[.bool x.u, .string x.d]) (.agg #[.bool y.u, .string y.d])).run Try.prog w = .ok (.bool (!slEq x y)) w := by
  rw [run_neq_struct, slEqIn 9998 x y w]
  rfl
theorem slEqBin (x y : Sl) (w : World) : (binOp .eql 33 (.agg #[.bool x.u, .string x.d]) (.agg #[.bool y.u, .string y.d])).run Try.prog w = .ok (.bool (slEq x y)) w := by
  rw [run_eql_struct, slEqIn 9998 x y w]
  rfl
theorem bytes_same (a b : ByteArray) : (a.toList == b.toList) = true ↔ a = b := by
  rw [ByteArray.toList_eq, ByteArray.toList_eq, beq_iff_eq]
  constructor
  · intro h; apply ByteArray.ext; apply Array.ext'; exact h
  · rintro rfl; rfl
theorem slEq_iff (x y : Sl) : slEq x y = true ↔ x = y := by
  obtain ⟨u, a⟩ := x
  obtain ⟨v, b⟩ := y
  unfold slEq
  rw [Bool.and_true, Bool.and_eq_true, bytes_same]
  simp
/-- What a slot of an image has. -/
def slAt (lsn : Int) (l : List Sl) (k : Int) : Sl := if slGood lsn l = true ∧ 0 ≤ k ∧ k < l.length then l.getD k.toNat Sl.none else Sl.none
theorem slAt_in {lsn : Int} {l : List Sl} {k : Nat} {x : Sl} (hg : slGood lsn l = true) (hx : l[k]? = some x) : slAt lsn l k = x := by
  have hk := (List.getElem?_eq_some_iff.1 hx).1
  unfold slAt
  rw [if_pos ⟨hg, by omega, by omega⟩]
  simp [List.getD, hx]
theorem slAt_out {lsn : Int} {l : List Sl} {k : Int} (h : slGood lsn l = false ∨ k < 0 ∨ (l.length : Int) ≤ k) : slAt lsn l k = Sl.none := by
  unfold slAt
  rw [if_neg]
  rintro ⟨a, b, c⟩
  rcases h with h | h | h
  · rw [a] at h; cases h
  · omega
  · omega
theorem slotUnd : ∃ fs, Try.prog.underlying 33 = some (.struct fs) := ⟨_, Try.underlying33⟩
theorem pageUnd : ∃ fs, Try.prog.underlying 24 = some (.struct fs) := ⟨_, Try.underlying24⟩
set_option maxRecDepth 100000 in
set_option maxHeartbeats 1000000 in
theorem pat_any (lsn : Int) (A : Option Addr) (n c : Nat) (l : List Sl) (k : Int) (w : World) (h : IsSlots w A n c l) :
    Calls Try.prog 21 #[.agg #[.int .i64 lsn, .slice A n c], .int .i64 k] w fun r w' => r = .returned (.agg #[.bool (slAt lsn l k).u, .string (slAt lsn l k).d]) ∧ Below w.heap.size w w' := by
  have CG := Lib.hid (fun w h => pgood_any lsn A n c l w h)
  have hcap := h.cap
  have hmost := h.most
  have hlen := h.len
  obtain ⟨fs, hu⟩ := slotUnd
  have Hu := Lib.hid hu
  have H := Lib.hid h
  clear h hu
  obtain ⟨g, hg⟩ : ∃ g, slGood lsn l = g := ⟨_, rfl⟩
  rw [hg] at CG
  have hm := fun h => slAt_out (lsn := lsn) (l := l) (k := k) h
  rw [hg] at hm
  have Hg := Lib.hid hg
  clear hg
  by_cases hin : g = true ∧ 0 ≤ k ∧ k < n
  · obtain ⟨rfl, hk0, hkn⟩ := hin
    obtain ⟨j, rfl⟩ : ∃ j : Nat, k = j := ⟨k.toNat, by omega⟩
    obtain ⟨b, off, x, rfl, hx, hbl, h1, h2, hs⟩ := H.out.at (show j < n by omega)
    rw [slAt_in Hg.out hx]
    clear hx hm
    go_enter Try.func21, Try.ntmps21
    go_wp2_with fail
    refine (CG.out _ ((H.out.alloc _).alloc _)).mono ?_
    rintro e w1 ⟨rfl, b1⟩
    have Z := (Has.new1 w _ _).below b1
    have P := ((Has.new w _).alloc _).below b1
    have p1 := P.cell 1 _ rfl
    have B := bup (bup (bnew w _) (bnew _ _)) b1
    have c1 := (B.cell (p := ⟨b, off + j * 2, none⟩) hbl).trans h1
    have c2 := (B.cell (p := ⟨b, off + j * 2 + 1, none⟩) hbl).trans h2
    have z0 := Z.cell 0 _ rfl
    have z1 := Z.cell 1 _ rfl
    have f0 := Z.free 0
    have f1 := Z.free 1
    replace Z := Lib.hid Z
    replace B := Lib.hid B
    clear h1 h2 b1 P
    go_wp2_with fail
    (try simp only [Exit.inBlock, Exit.then])
    refine bodyPost_ret (v := .agg #[.bool x.u, .string x.d]) ?_ rfl ⟨rfl, ?_⟩
    · exact results_cell_row rfl _ _ (w.heap.size + 1) _ _ _ _ rfl ((Z.out.set 0 _).set 1 _) Hu.out rfl (by kernel_rfl)
    · exact (B.out.setCell (p := ⟨w.heap.size + 1, 0, none⟩) (by simp) _).setCell (p := ⟨w.heap.size + 1, 1, none⟩) (by simp) _
  · rw [hm (by
      rcases Bool.eq_false_or_eq_true g with h | h
      · by_cases h2 : k < 0
        · exact .inr (.inl h2)
        · exact .inr (.inr (by simp [h] at hin; omega))
      · exact .inl h)]
    clear hm
    have key : Hid ((g = false) ∨ (g = true ∧ k < 0) ∨ (g = true ∧ ¬ k < 0 ∧ (n : Int) ≤ k)) := Lib.hid (by
      cases g with
      | false => exact .inl rfl
      | true =>
        by_cases h2 : k < 0
        · exact .inr (.inl ⟨rfl, h2⟩)
        · exact .inr (.inr ⟨rfl, h2, by simp at hin; omega⟩))
    clear hin
    rcases key.out with rfl | ⟨rfl, hk⟩ | ⟨rfl, hk0, hk⟩ <;>
    · clear key
      go_enter Try.func21, Try.ntmps21
      go_wp2_with fail
      refine (CG.out _ ((H.out.alloc _).alloc _)).mono ?_
      rintro e w1 ⟨rfl, b1⟩
      have Z := (Has.new1 w _ _).below b1
      have P := ((Has.new w _).alloc _).below b1
      have p1 := P.cell 1 _ rfl
      have B := bup (bup (bnew w _) (bnew _ _)) b1
      have z0 := Z.cell 0 _ rfl
      have z1 := Z.cell 1 _ rfl
      have f0 := Z.free 0
      have f1 := Z.free 1
      replace Z := Lib.hid Z
      replace B := Lib.hid B
      clear b1 P
      go_wp2_with fail
      (try simp only [Exit.inBlock, Exit.then])
      refine bodyPost_ret (v := .agg #[.bool false, .string ⟨#[]⟩]) ?_ rfl ⟨rfl, ?_⟩
      · exact results_cell_row rfl _ _ (w.heap.size + 1) _ _ _ _ rfl ((Z.out.set 0 _).set 1 _) Hu.out rfl (by kernel_rfl)
      · exact (B.out.setCell (p := ⟨w.heap.size + 1, 0, none⟩) (by simp) _).setCell (p := ⟨w.heap.size + 1, 1, none⟩) (by simp) _
set_option maxRecDepth 100000 in
set_option maxHeartbeats 1000000 in
theorem rat_any (lsn : Int) (A : Option Addr) (n c : Nat) (l : List Sl) (k : Int) (w : World) (h : IsSlots w A n c l) :
    Calls Try.prog 22 #[.agg #[.int .i64 lsn, .slice A n c], .int .i64 k] w fun r w' => r = .returned (.agg #[.bool (slAt lsn l k).u, .string (slAt lsn l k).d]) ∧ Below w.heap.size w w' := by
  have CG := Lib.hid (fun w h => rgood_any lsn A n c l w h)
  have hcap := h.cap
  have hmost := h.most
  have hlen := h.len
  obtain ⟨fs, hu⟩ := slotUnd
  have Hu := Lib.hid hu
  have H := Lib.hid h
  clear h hu
  obtain ⟨g, hg⟩ : ∃ g, slGood lsn l = g := ⟨_, rfl⟩
  rw [hg] at CG
  have hm := fun h => slAt_out (lsn := lsn) (l := l) (k := k) h
  rw [hg] at hm
  have Hg := Lib.hid hg
  clear hg
  by_cases hin : g = true ∧ 0 ≤ k ∧ k < n
  · obtain ⟨rfl, hk0, hkn⟩ := hin
    obtain ⟨j, rfl⟩ : ∃ j : Nat, k = j := ⟨k.toNat, by omega⟩
    obtain ⟨b, off, x, rfl, hx, hbl, h1, h2, hs⟩ := H.out.at (show j < n by omega)
    rw [slAt_in Hg.out hx]
    clear hx hm
    go_enter Try.func22, Try.ntmps22
    go_wp2_with fail
    refine (CG.out _ ((H.out.alloc _).alloc _)).mono ?_
    rintro e w1 ⟨rfl, b1⟩
    have Z := (Has.new1 w _ _).below b1
    have P := ((Has.new w _).alloc _).below b1
    have p1 := P.cell 1 _ rfl
    have B := bup (bup (bnew w _) (bnew _ _)) b1
    have c1 := (B.cell (p := ⟨b, off + j * 2, none⟩) hbl).trans h1
    have c2 := (B.cell (p := ⟨b, off + j * 2 + 1, none⟩) hbl).trans h2
    have z0 := Z.cell 0 _ rfl
    have z1 := Z.cell 1 _ rfl
    have f0 := Z.free 0
    have f1 := Z.free 1
    replace Z := Lib.hid Z
    replace B := Lib.hid B
    clear h1 h2 b1 P
    go_wp2_with fail
    (try simp only [Exit.inBlock, Exit.then])
    refine bodyPost_ret (v := .agg #[.bool x.u, .string x.d]) ?_ rfl ⟨rfl, ?_⟩
    · exact results_cell_row rfl _ _ (w.heap.size + 1) _ _ _ _ rfl ((Z.out.set 0 _).set 1 _) Hu.out rfl (by kernel_rfl)
    · exact (B.out.setCell (p := ⟨w.heap.size + 1, 0, none⟩) (by simp) _).setCell (p := ⟨w.heap.size + 1, 1, none⟩) (by simp) _
  · rw [hm (by
      rcases Bool.eq_false_or_eq_true g with h | h
      · by_cases h2 : k < 0
        · exact .inr (.inl h2)
        · exact .inr (.inr (by simp [h] at hin; omega))
      · exact .inl h)]
    clear hm
    have key : Hid ((g = false) ∨ (g = true ∧ k < 0) ∨ (g = true ∧ ¬ k < 0 ∧ (n : Int) ≤ k)) := Lib.hid (by
      cases g with
      | false => exact .inl rfl
      | true =>
        by_cases h2 : k < 0
        · exact .inr (.inl ⟨rfl, h2⟩)
        · exact .inr (.inr ⟨rfl, h2, by simp at hin; omega⟩))
    clear hin
    rcases key.out with rfl | ⟨rfl, hk⟩ | ⟨rfl, hk0, hk⟩ <;>
    · clear key
      go_enter Try.func22, Try.ntmps22
      go_wp2_with fail
      refine (CG.out _ ((H.out.alloc _).alloc _)).mono ?_
      rintro e w1 ⟨rfl, b1⟩
      have Z := (Has.new1 w _ _).below b1
      have P := ((Has.new w _).alloc _).below b1
      have p1 := P.cell 1 _ rfl
      have B := bup (bup (bnew w _) (bnew _ _)) b1
      have z0 := Z.cell 0 _ rfl
      have z1 := Z.cell 1 _ rfl
      have f0 := Z.free 0
      have f1 := Z.free 1
      replace Z := Lib.hid Z
      replace B := Lib.hid B
      clear b1 P
      go_wp2_with fail
      (try simp only [Exit.inBlock, Exit.then])
      refine bodyPost_ret (v := .agg #[.bool false, .string ⟨#[]⟩]) ?_ rfl ⟨rfl, ?_⟩
      · exact results_cell_row rfl _ _ (w.heap.size + 1) _ _ _ _ rfl ((Z.out.set 0 _).set 1 _) Hu.out rfl (by kernel_rfl)
      · exact (B.out.setCell (p := ⟨w.heap.size + 1, 0, none⟩) (by simp) _).setCell (p := ⟨w.heap.size + 1, 1, none⟩) (by simp) _
/-- Whether two lists of slots are the same. -/
def slsEq : List Sl → List Sl → Bool
  | [], [] => true
  | x :: xs, y :: ys => slEq x y && slsEq xs ys
  | _, _ => false
theorem slsEq_iff (a b : List Sl) : slsEq a b = true ↔ a = b := by
  induction a generalizing b with
  | nil => cases b <;> simp [slsEq]
  | cons x xs ih =>
    cases b with
    | nil => simp [slsEq]
    | cons y ys => simp [slsEq, slEq_iff, ih]
def pgSame (k : Int) (a : List Sl) (m : Int) (b : List Sl) : Bool := k == m && slsEq a b
theorem pgSame_iff (k m : Int) (a b : List Sl) : pgSame k a m b = true ↔ k = m ∧ a = b := by simp [pgSame, slsEq_iff]
theorem take_same {a b : List Sl} {k : Nat} {x y : Sl} (hx : a[k]? = some x) (hy : b[k]? = some y) (h : a.take k = b.take k) (he : slEq x y = true) : a.take (k + 1) = b.take (k + 1) := by
  rw [List.take_add_one, List.take_add_one, h, hx, hy, (slEq_iff x y).1 he]
theorem not_same {a b : List Sl} {k : Nat} {x y : Sl} (hx : a[k]? = some x) (hy : b[k]? = some y) (he : slEq x y = false) : slsEq a b = false := by
  cases h : slsEq a b with
  | false => rfl
  | true =>
    have := (slsEq_iff a b).1 h
    subst this
    rw [hx] at hy
    have h2 := (slEq_iff x y).2 (by simpa using hy)
    rw [h2] at he; cases he
set_option maxRecDepth 100000 in
set_option maxHeartbeats 2000000 in
theorem psame_any (l1 : Int) (A1 : Option Addr) (n1 c1 : Nat) (a : List Sl) (l2 : Int) (A2 : Option Addr) (n2 c2 : Nat) (b : List Sl) (w : World) (h1 : IsSlots w A1 n1 c1 a) (h2 : IsSlots w A2 n2 c2 b) :
    Calls Try.prog 24 #[.agg #[.int .i64 l1, .slice A1 n1 c1], .agg #[.int .i64 l2, .slice A2 n2 c2]] w fun r w' => r = .returned (.bool (pgSame l1 a l2 b)) ∧ Below w.heap.size w w' := by
  have hcap1 := h1.cap
  have hmost1 := h1.most
  have hlen1 := h1.len
  have hcap2 := h2.cap
  have hmost2 := h2.most
  have hlen2 := h2.len
  have H1 := Lib.hid h1
  have H2 := Lib.hid h2
  clear h1 h2
  obtain ⟨G, hG⟩ : ∃ G, pgSame l1 a l2 b = G := ⟨_, rfl⟩
  rw [hG]
  have HG := Lib.hid hG
  clear hG
  by_cases hl : l1 = l2
  · by_cases hn : n1 = n2
    · subst hl hn
      go_enter Try.func24, Try.ntmps24
      go_wp2_with fail
      generalize hw1 : World.alloc _ _ = w1
      have B1 : Below w.heap.size w w1 := by rw [← hw1]; exact bup (bnew _ _) (bnew _ _)
      have K1 : Has w1 w.heap.size (.cells #[.int .i64 l1, .slice A1 n1 c1] 24) := by rw [← hw1]; exact (Has.new _ _).alloc _
      have K2 : Has w1 (w.heap.size + 1) (.cells #[.int .i64 l1, .slice A2 n1 c2] 24) := by rw [← hw1]; exact Has.new1 _ _ _
      clear hw1
      have J1 := Lib.hid (H1.out.below B1)
      have J2 := Lib.hid (H2.out.below B1)
      replace K1 := Lib.hid K1
      replace K2 := Lib.hid K2
      replace B1 := Lib.hid B1
      go_loopw [5] (fun i wr => ∃ (k : Nat), k ≤ n1 ∧ i = .int .i64 k ∧ Hid (a.take k = b.take k) ∧ Below w1.heap.size w1 wr) (fun i _ => n1 - (intOf i).toNat)
      case atStart => exact ⟨0, by omega, rfl, Lib.hid rfl, Below.refl _ _⟩
      case round =>
        obtain ⟨k, hk, rfl, Hn, hb⟩ := hrel
        have k1 := (K1.out.below hb).cell 1 _ rfl
        have k2 := (K2.out.below hb).cell 1 _ rfl
        by_cases hlt : k < n1
        · obtain ⟨b1, o1, x, rfl, hx, hb1, x1, x2, hs1⟩ := (J1.out.below hb).at hlt
          obtain ⟨b2, o2, y, rfl, hy, hb2, y1, y2, hs2⟩ := (J2.out.below hb).at hlt
          have i1 : (0 : Int) ≤ (k : Int) := by omega
          have i2 : (k : Int) < (n1 : Int) := by omega
          have Hb := Lib.hid hb
          clear hb
          have CE := fun w => slNeqBin x y w
          cases he : slEq x y with
          | false =>
            have HX := Lib.hid (not_same hx hy he)
            rw [he] at CE
            have HE := Lib.hid he
            clear hx hy he
            go_wp2_with fail
            go_quiet (fail)
            go_wp2_with fail
            go_ret
            exact ⟨by rw [← HG.out, pgSame, HX.out]; simp, bup B1.out (bup Hb.out (draws_below _ _))⟩
          | true =>
            have HX := Lib.hid (take_same hx hy Hn.out he)
            rw [he] at CE
            have HE := Lib.hid he
            clear hx hy he
            go_wp2_with fail
            go_quiet (fail)
            go_wp2_with fail
            go_roundw
            case rel => exact ⟨k + 1, by omega, by go_num, HX, bup Hb.out (draws_below _ _)⟩
            case measure => simp [intOf]; omega
        · have HX : Hid (slsEq a b = true) := Lib.hid (by
            rw [slsEq_iff]
            have := Hn.out
            rw [List.take_of_length_le (by omega), List.take_of_length_le (by omega)] at this
            exact this)
          go_wp2_with fail
          go_ret
          exact ⟨by rw [← HG.out, pgSame, HX.out]; simp, bup B1.out hb⟩
    · subst hl
      have HR : Hid (G = false) := Lib.hid (by
        rw [← HG.out]
        cases hp : pgSame l1 a l1 b with
        | false => rfl
        | true => have := ((pgSame_iff _ _ _ _).1 hp).2; rw [this] at hlen1; omega)
      go_enter Try.func24, Try.ntmps24
      go_wp2_with fail
      all_goals
        first
        | (exfalso; omega)
        | (go_ret
           exact ⟨by rw [HR.out]; rfl, bup (bnew _ _) (bnew _ _)⟩)
  · have HR : Hid (G = false) := Lib.hid (by rw [← HG.out]; simp [pgSame, hl])
    have hne : (l1 != l2) = true := by simpa using hl
    clear hl
    go_enter Try.func24, Try.ntmps24
    go_wp2_with fail
    go_ret
    exact ⟨by rw [HR.out]; rfl, bup (bnew _ _) (bnew _ _)⟩
end Go.Proofs.Ytklmoigpalhlmaa
