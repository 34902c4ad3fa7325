/-
  A page's bytes, gathered in a row of 240: what an append leaves.
-/
import Derived.Test.YtakdagmkkelnfaaSlD
import Derived.Test.YtakdagmkkelnfaaBase
import Derived.Deep.CutRange
import Derived.Deep.RegionLaw
import Derived.Outline
/-! A page's bytes, gathered in a row of 240: what an append leaves. -/
namespace Go.Proofs.Ytakdagmkkelnfaa
open Go.RowKit
set_option linter.unusedVariables false
set_option linter.unusedSimpArgs false

/-- Bytes, and nothing behind them up to 240. -/
def fill240 (l : List UInt8) : List UInt8 := l ++ List.replicate (240 - l.length) 0
theorem fill240_len (l : List UInt8) (h : l.length ≤ 240) : (fill240 l).length = 240 := by simp [fill240]; omega
theorem byteVals_append (l m : List UInt8) : byteVals (l ++ m) = byteVals l ++ byteVals m := by simp [byteVals]
theorem byteVals_take (l : List UInt8) (n : Nat) : byteVals (l.take n) = (byteVals l).take n := by simp [byteVals]
theorem byteVals_drop (l : List UInt8) (n : Nat) : byteVals (l.drop n) = (byteVals l).drop n := by simp [byteVals]
theorem byteVals_one (l : List UInt8) : ∀ v ∈ byteVals l, v.oneCell' = true := by
  intro v hv
  simp [byteVals] at hv
  obtain ⟨b, _, rfl⟩ := hv
  rfl
theorem fill240_more (l m : List UInt8) (h : l.length + m.length ≤ 240) : (fill240 l).take l.length ++ m ++ (fill240 l).drop (l.length + m.length) = fill240 (l ++ m) := by
  unfold fill240
  rw [List.take_left, List.append_assoc, List.append_assoc]
  congr 2
  rw [List.drop_append, List.drop_eq_nil_of_le (by omega), List.nil_append, List.drop_replicate]
  congr 1
  simp; omega
/-- Block g is a row of 240 bytes that begins with these. -/
def Buf (w : World) (g : Nat) (l : List UInt8) : Prop := l.length ≤ 240 ∧ Has w g (.cells (byteVals (fill240 l)).toArray 5)
theorem Buf.but {w w' : World} {g b : Nat} {l : List UInt8} (h : Buf w g l) (hb : But b w w') (hne : g ≠ b) : Buf w' g l := ⟨h.1, h.2.but hb hne⟩
theorem Buf.below {w w' : World} {g : Nat} {l : List UInt8} (h : Buf w g l) (hb : Below w.heap.size w w') : Buf w' g l := ⟨h.1, h.2.below hb⟩
theorem Buf.drew {w : World} {g : Nat} {l : List UInt8} (h : Buf w g l) : Buf w.drew g l := h
theorem Buf.alloc {w : World} {g : Nat} {l : List UInt8} (h : Buf w g l) (o : Obj) : Buf (w.alloc o) g l := ⟨h.1, h.2.alloc o⟩
theorem run_append_in {P : Program} {w : World} {t ty e : TypeId} {i : TypeInfo} (ht : P.underlying t = some (.slice e)) (hi : P.info? e = some i) (h1 : i.size = 1) {g n cap : Nat} {ad : Addr} {m c : Nat} {cur news : List Value} {te : TypeId}
    (hg : Has w g (.cells cur.toArray te)) (hl : news.length = m) (hnews : ∀ j u, news[j]? = some u → w.cell? (ad.add j) = some u) (ho : ∀ u ∈ news, u.oneCell' = true) (hroom : n + m ≤ cap) (hc : n + m ≤ cur.length) :
    (Builtin.append_ #[t, t] ty #[.slice (some ⟨g, 0, none⟩) n cap, .slice (some ad) m c]).run P w = .ok (.slice (some ⟨g, 0, none⟩) (n + m) cap) (w.setRow g (cur.take n ++ news ++ cur.drop (n + m)).toArray) := by
  have hfc := run_firstCells_some (P := P) w i.size m ad m c news (by rw [h1, Nat.mul_one]; exact hl) hnews
  have hst := run_storeCells_at P g n te news 0 cur.toArray w hg (by simp; omega) ho
  rw [h1] at hfc
  simp only [Nat.add_zero] at hst
  have ea : (⟨g, 0, none⟩ : Addr).add n = ⟨g, n, none⟩ := by unfold Addr.add; split <;> simp_all
  simp [Builtin.append_, run_underlying ht, sizeOf, typeInfo, hi, h1, Builtin.lenOf, hroom, hfc, ea, hst, hl]
theorem run_append_str {P : Program} {w : World} {t tx ty e : TypeId} {i : TypeInfo} (ht : P.underlying t = some (.slice e)) (htx : P.underlying tx = some .string) (hi : P.info? e = some i) (h1 : i.size = 1) {g n cap : Nat} {s : ByteArray} {cur : List Value} {te : TypeId}
    (hg : Has w g (.cells cur.toArray te)) (hroom : n + s.size ≤ cap) (hc : n + s.size ≤ cur.length) :
    (Builtin.append_ #[t, tx] ty #[.slice (some ⟨g, 0, none⟩) n cap, .string s]).run P w = .ok (.slice (some ⟨g, 0, none⟩) (n + s.size) cap) (w.setRow g (cur.take n ++ byteVals s.data.toList ++ cur.drop (n + s.size)).toArray) := by
  have hln : (byteVals s.data.toList).length = s.size := by rw [byteVals_len]; exact Array.length_toList
  have hst := run_storeCells_at P g n te (byteVals s.data.toList) 0 cur.toArray w hg (by simp; omega) (byteVals_one _)
  simp only [Nat.add_zero, hln] at hst
  have ea : (⟨g, 0, none⟩ : Addr).add n = ⟨g, n, none⟩ := by unfold Addr.add; split <;> simp_all
  have hex : (s.extract 0 s.size).data.map (fun b => Value.int .u8 (b.toNat : Int)) = (byteVals s.data.toList).toArray := by
    apply Array.ext'
    simp [byteVals, ByteArray.data_extract]
  simp [Builtin.append_, run_underlying ht, run_underlying htx, sizeOf, typeInfo, hi, h1, Builtin.lenOf, hroom, Builtin.firstCells, ea]
  have e2 : List.take s.size (List.map (fun b => Value.int .u8 (b.toNat : Int)) s.data.toList) = byteVals s.data.toList := List.take_of_length_le (by simp)
  rw [e2, hst]
  simp [List.append_assoc]
theorem Buf.more {w w' : World} {g : Nat} {l m : List UInt8} (h : l.length + m.length ≤ 240) (hw : w' = w.setRow g ((byteVals (fill240 l)).take l.length ++ byteVals m ++ (byteVals (fill240 l)).drop (l.length + m.length)).toArray) (hb : Buf w g l) : Buf w' g (l ++ m) := by
  subst hw
  refine ⟨by simpa using h, ?_⟩
  have := Has.setRow hb.2 ((byteVals (fill240 l)).take l.length ++ byteVals m ++ (byteVals (fill240 l)).drop (l.length + m.length)).toArray
  rw [← byteVals_take, ← byteVals_drop, ← byteVals_append, ← byteVals_append, fill240_more l m h] at this
  rw [← byteVals_take, ← byteVals_drop, ← byteVals_append, ← byteVals_append, fill240_more l m h]
  exact this
section
variable {ops : Array Oper} {rest : List Oper} {o : Oper} {a : Act} {w : World} {Q : Exit → Act → World → Prop} {K : Act → World → Prop} {E : Prop}
theorem buf_len (l : List UInt8) (h : l.length ≤ 240) : (byteVals (fill240 l)).length = 240 := by rw [byteVals_len, fill240_len l h]
/-- One byte more. -/
theorem buf_byte (hgd : o.guard = none) (s x : Operand) (ho : o.op = .call { callee := .builtin .append, args := #[s, x], argTypes := #[37, 37] }) (g : Nat) (l : List UInt8) (m : Nat) (c : UInt8) (k : Int)
    (hs : a.eval s = .slice (some ⟨g, 0, none⟩) m 240) (p : Nat) (hx : a.eval x = .slice (some ⟨p, 0, none⟩) 1 1) (hp : p = w.heap.size) (hb : Buf w g l) (hm : m = l.length) (hk : k = (c.toNat : Int)) (hl : l.length < 240)
    (h : ∀ w', Buf w' g (l ++ [c]) → But g w w' → wpList Try.prog ops Q rest (a.put o.dst (.slice (some ⟨g, 0, none⟩) (m + 1) 240)) w') : wpList Try.prog ops Q (o :: rest) a (w.alloc (.cells #[.int .u8 k] 5)) := by
  obtain ⟨i, hi, hz0, hz1, hz2⟩ := info_parts info8
  subst hm hk hp
  have hB := hb.alloc (.cells #[.int .u8 (c.toNat : Int)] 5)
  have hrun := run_append_in (P := Try.prog) (ty := o.type) (c := 1) (cap := 240) (n := l.length) (m := 1) (news := byteVals [c]) (ad := ⟨w.heap.size, 0, none⟩) Try.underlying37 hi hz1 hB.2 rfl (by
    intro j u hj
    match j, hj with
    | 0, hj =>
      simp [byteVals] at hj
      subst hj
      exact (Has.new w _).cell 0 _ rfl) (byteVals_one _) (by omega) (by rw [buf_len l hb.1]; omega)
  refine wpList_plain hgd fun K hK => ?_
  unfold Oper.wp
  simp [execOp, ho, resolve, invoke, builtin, hs, hx, hrun, Result.andThen]
  refine hK _ _ (h _ (Buf.more (l := l) (m := [c]) (by simp; omega) (by simp) hB) ?_)
  exact (But.of (bnew w _)).trans (But.setRow g _ _)
/-- A text more. -/
theorem buf_text (hgd : o.guard = none) (s x : Operand) (ho : o.op = .call { callee := .builtin .append, args := #[s, x], argTypes := #[37, 9] }) (g : Nat) (l : List UInt8) (m : Nat) (d : ByteArray)
    (hs : a.eval s = .slice (some ⟨g, 0, none⟩) m 240) (hx : a.eval x = .string d) (hb : Buf w g l) (hm : m = l.length) (hl : l.length + d.size ≤ 240)
    (h : ∀ w', Buf w' g (l ++ d.data.toList) → But g w w' → wpList Try.prog ops Q rest (a.put o.dst (.slice (some ⟨g, 0, none⟩) (m + d.size) 240)) w') : wpList Try.prog ops Q (o :: rest) a w := by
  obtain ⟨i, hi, hz0, hz1, hz2⟩ := info_parts info8
  subst hm
  have hd : d.data.toList.length = d.size := Array.length_toList
  have hrun := run_append_str (P := Try.prog) (ty := o.type) (s := d) (cap := 240) (n := l.length) Try.underlying37 Try.underlying9 hi hz1 hb.2 hl (by rw [buf_len l hb.1]; omega)
  refine wpList_plain hgd fun K hK => ?_
  unfold Oper.wp
  simp [execOp, ho, resolve, invoke, builtin, hs, hx, hrun, Result.andThen]
  exact hK _ _ (h _ (Buf.more (l := l) (m := d.data.toList) (by omega) (by simp [hd]) hb) (But.setRow g _ _))
/-- The same at a step of a region that draws its order. -/
theorem step_buf_text (hgd : o.guard = none) (s x : Operand) (ho : o.op = .call { callee := .builtin .append, args := #[s, x], argTypes := #[37, 9] }) (g : Nat) (l : List UInt8) (m : Nat) (d : ByteArray)
    (hs : a.eval s = .slice (some ⟨g, 0, none⟩) m 240) (hx : a.eval x = .string d) (hb : Buf w g l) (hm : m = l.length) (hl : l.length + d.size ≤ 240)
    (h : ∀ w', Buf w' g (l ++ d.data.toList) → But g w w' → K (a.put o.dst (.slice (some ⟨g, 0, none⟩) (m + d.size) 240)) w') : if Region.wanted o (yielded ops a.tmps) = true then Oper.wp Try.prog o a w K Q else E := by
  have hw : Region.wanted o (yielded ops a.tmps) = true := by simp [Region.wanted, hgd]
  rw [if_pos hw]
  obtain ⟨i, hi, hz0, hz1, hz2⟩ := info_parts info8
  subst hm
  have hd : d.data.toList.length = d.size := Array.length_toList
  have hrun := run_append_str (P := Try.prog) (ty := o.type) (s := d) (cap := 240) (n := l.length) Try.underlying37 Try.underlying9 hi hz1 hb.2 hl (by rw [buf_len l hb.1]; omega)
  unfold Oper.wp
  simp [execOp, ho, resolve, invoke, builtin, hs, hx, hrun, Result.andThen]
  exact h _ (Buf.more (l := l) (m := d.data.toList) (by omega) (by simp [hd]) hb) (But.setRow g _ _)
end
/-- The row, made. -/
theorem Buf.made (w : World) : Buf (w.alloc (.cells (List.replicate 240 (.int .u8 0)).toArray 5)) w.heap.size [] := by
  refine ⟨by simp, ?_⟩
  have e : byteVals (fill240 []) = List.replicate 240 (.int .u8 0) := by
    unfold fill240 byteVals
    rw [List.nil_append, List.length_nil, List.map_replicate]
    rfl
  rw [e]; exact Has.new _ _
theorem Buf.text {w : World} {g : Nat} {l : List UInt8} (h : Buf w g l) : (convert 37 9 (.slice (some ⟨g, 0, none⟩) 240 240)).run Try.prog w = .ok (.string (bs (fill240 l))) w := by
  have := bytes_back (l := fill240 l) (more := []) (cap := 240) (by rw [List.append_nil]; exact h.2)
  rw [fill240_len l h.1] at this
  exact this
/-- A slot's bytes. -/
def Sl.enc (x : Sl) : List UInt8 := if x.u then UInt8.ofNat x.d.size :: x.d.data.toList else [255]
def slsEnc (l : List Sl) : List UInt8 := l.flatMap Sl.enc
theorem slsEnc_snoc (l : List Sl) (k : Nat) (x : Sl) (h : l[k]? = some x) : slsEnc (l.take (k + 1)) = slsEnc (l.take k) ++ x.enc := by
  rw [List.take_add_one, h]; simp [slsEnc]
theorem enc_size {x : Sl} (h : x.odd = false) : x.enc.length = 1 + x.d.size := by
  have hl : x.d.data.toList.length = x.d.size := Array.length_toList
  unfold Sl.enc
  split
  · simp; omega
  · rename_i hu
    simp [Sl.odd, hu] at h
    have h2 := h.1
    rw [ByteArray.toList_eq] at h2
    have h3 : x.d.size = 0 := by rw [← hl, h2]; rfl
    simp [h3]
theorem slsEnc_size (l : List Sl) (h : l.any Sl.odd = false) : (slsEnc l).length = slSum l := by
  induction l with
  | nil => rfl
  | cons a l ih =>
    have h1 : a.odd = false ∧ l.any Sl.odd = false := by simpa using h
    have e : slsEnc (a :: l) = a.enc ++ slsEnc l := rfl
    have e2 : slSum (a :: l) = (1 + a.d.size) + slSum l := rfl
    rw [e, e2, List.length_append, enc_size h1.1, ih h1.2]
/-- A page's head. -/
def pgHead (lsn : Int) (n : Nat) : List UInt8 := highN lsn.toNat 8 ++ [UInt8.ofNat n]
theorem pgHead_len (lsn : Int) (n : Nat) : (pgHead lsn n).length = 9 := by simp [pgHead, highN_len]
/-- A page's bytes. -/
def pgBody (lsn : Int) (l : List Sl) : List UInt8 := pgHead lsn l.length ++ slsEnc l
def pgBytes (lsn : Int) (l : List Sl) : List UInt8 := fill240 (pgBody lsn l)
def pgEnc (lsn : Int) (l : List Sl) : List UInt8 × Int := if slGood lsn l then (pgBytes lsn l, 0) else ([], 1)
theorem pgBody_len {lsn : Int} {l : List Sl} (h : slGood lsn l = true) : (pgBody lsn l).length = slSize l := by
  rw [pgBody, List.length_append, pgHead_len, slsEnc_size l ((slGood_iff lsn l).1 h).2.2.1]; rfl
theorem pgBytes_len {lsn : Int} {l : List Sl} (h : slGood lsn l = true) : (pgBytes lsn l).length = 240 := fill240_len _ (by rw [pgBody_len h]; exact ((slGood_iff lsn l).1 h).2.2.2.2)
theorem pgBody_take {lsn : Int} {l : List Sl} (h : slGood lsn l = true) (k : Nat) : (pgHead lsn l.length ++ slsEnc (l.take k)).length ≤ 240 := by
  have h1 := pgBody_len h
  have h2 := ((slGood_iff lsn l).1 h).2.2.2.2
  have e : slsEnc l = slsEnc (l.take k) ++ slsEnc (l.drop k) := by
    unfold slsEnc
    rw [← List.flatMap_append, List.take_append_drop]
  rw [pgBody, e] at h1
  simp only [List.length_append] at h1 ⊢
  omega
end Go.Proofs.Ytakdagmkkelnfaa

/-! slab.Encode. -/
namespace Go.Proofs.Ytakdagmkkelnfaa
open Go.RowKit
set_option linter.unusedVariables false
set_option linter.unusedSimpArgs false

set_option maxRecDepth 100000 in
set_option maxHeartbeats 8000000 in
theorem penc_any (lsn : Int) (A : Option Addr) (n c : Nat) (l : List Sl) (w : World) (h : IsSlots w A n c l) :
    Calls Try.prog 62 #[.agg #[.int .i64 lsn, .slice A n c]] w fun r w' => r = .returned (.tuple #[.string (bs (pgEnc lsn l).1), .int .i64 (pgEnc lsn l).2]) ∧ Below w.heap.size w w' := by
  have CG := Lib.hid (fun w h => pgood_any lsn A n c l w h)
  cases hg : slGood lsn l with
  | false =>
    have HR : Hid (pgEnc lsn l = ([], 1)) := Lib.hid (by simp [pgEnc, hg])
    rw [hg] at CG
    have H := Lib.hid h
    clear h hg
    go_enter Try.func62, Try.ntmps62
    go_wp2_with fail
    refine (CG.out _ (H.out.alloc _)).mono ?_
    rintro e w1 ⟨rfl, b1⟩
    go_wp2_with fail
    go_ret2
    exact ⟨by rw [HR.out]; rfl, bup (bnew _ _) b1⟩
  | true =>
    have HR : Hid (pgEnc lsn l = (pgBytes lsn l, 0)) := Lib.hid (by simp [pgEnc, hg])
    rw [hg] at CG
    obtain ⟨hg1, hg2, hg3, hg4, hg5⟩ := (slGood_iff lsn l).1 hg
    have hlen := h.len
    have hcap := h.cap
    have hmost := h.most
    have HT := Lib.hid (fun k => pgBody_take hg k)
    have HO := Lib.hid (any_odd_sizes hg3)
    obtain ⟨z, rfl⟩ : ∃ z : Nat, lsn = z := ⟨lsn.toNat, by omega⟩
    have hz : z ≤ 1099511627776 := by omega
    have hn32 : n ≤ 32 := by omega
    have CP : Hid (∀ w, Calls Try.prog 35 #[.int .u64 (z : Int), .int .i64 8] w fun e w' => e = .returned (.string (bs (highN z 8))) ∧ Below w.heap.size w w') := Lib.hid (fun w => hput_any z 8 (by omega) (by omega) (by omega) w)
    have hmk : ∀ w, (Instr.makeSlice 37 (.int .i64 0) (.int .i64 240)).run Try.prog w = .ok (.slice (some ⟨w.heap.size, 0, none⟩) 0 240) (w.alloc (.cells (List.replicate 240 (.int .u8 0)).toArray 5)) := fun w => makeBytes 0 (by omega) 240 (by omega) (by omega) w
    obtain ⟨F0, hF0⟩ : ∃ F, (List.replicate 240 (Value.int .u8 0)).toArray = F := ⟨_, rfl⟩
    rw [hF0] at hmk
    have HM := fun w => Buf.made w
    rw [hF0] at HM
    replace HM := Lib.hid HM
    obtain ⟨hb, hhb⟩ : ∃ hb, highN z 8 = hb := ⟨_, rfl⟩
    have hhl : hb.length = 8 := by rw [← hhb, highN_len]
    have hhs : (bs hb).size = 8 := by rw [bs_size, hhl]
    rw [hhb] at CP
    have HH := Lib.hid hhb
    have H := Lib.hid h
    have Hlen := Lib.hid hlen
    have Hhl := Lib.hid hhl
    clear h hg hg1 hg2 hg3 hg4 hg5 hF0 hhb hlen hhl
    go_enter Try.func62, Try.ntmps62
    go_wp2_with fail
    refine (CG.out _ (H.out.alloc _)).mono ?_
    rintro e w1 ⟨rfl, b1⟩
    have P := ((Has.new w _).below b1)
    have p0 := P.cell 0 _ rfl
    have B := Lib.hid (bup (bnew w _) b1)
    have hh : w.heap.size < w1.heap.size := P.lt
    replace P := Lib.hid P
    clear b1
    go_upto_region 3 with fail
    go_cut [4] from 10 to 15 (fun v wx => ∃ g, v = .slice (some ⟨g, 0, none⟩) 8 240 ∧ w1.heap.size ≤ g ∧ Hid (Buf wx g hb) ∧ Hid (Below w1.heap.size w1 wx))
    case first =>
      have hwz : IntKind.u64.wrap (z : Int) = (z : Int) := by rw [IntKind.wrap_u64]; omega
      go_region_law (first
        | (refine step_buf_text (by rfl) (.tmp 10) (.tmp 14) (by rfl) _ [] 0 (bs hb) (by rfl) (by rfl) (by first | exact (HM.out w1).drew.below b5 | exact HM.out _) rfl (by simp [hhs]) ?_; intro w6 G6 B6)
        | (go_simp; go_at_call 35; (with_reducible refine (CP.out _).mono ?_); rintro e w5 ⟨rfl, b5⟩))
      all_goals
        go_wp2_with fail
        go_meet
        refine ⟨_, rfl, ?_, Lib.hid (by rw [List.nil_append] at G6; exact G6), Lib.hid ?_⟩
        · first | exact Nat.le_refl _ | (have := b5.size; simpa using this)
        · first
          | (have hq := bup ((bnew w1 _).drew) b5
             exact hq.trans (B6.below (Nat.le_refl _) hq.size))
          | (have hq := bup (bup ((Below.refl w1.heap.size w1).drew) b5) (bnew w5 (.cells F0 5))
             exact hq.trans (B6.below (by have := b5.size; simpa using this) hq.size))
    case rest =>
    obtain ⟨g, rfl, hg1, G, B1⟩ := hcut
    have P1 := (P.out.below B1.out)
    have p1 := P1.cell 1 _ rfl
    replace B := Lib.hid (bup B.out B1.out)
    clear p0 B1
    have hgw : w.heap.size < g := by omega
    have hl9 : (hb ++ [UInt8.ofNat n]).length = 9 := by simp [Hhl.out]
    have h8 : 8 = hb.length := Hhl.out.symm
    have H8 := Lib.hid h8
    clear h8
    go_upto_region 5 with ((refine buf_byte rfl (.tmp 16) (.tmp 21) rfl g hb 8 (UInt8.ofNat n) _ rfl _ rfl (by simp) G.out H8.out ?_ (by rw [Hhl.out]; omega) ?_); (first | (simp; omega) | skip); try (intro w3 G3 B3))
    have p3 := (P1.but B3 (by omega)).cell 1 _ rfl
    have B0 := Lib.hid (B.out.trans (B3.below (by omega) B.out.size))
    have Hq : Hid (9 = (hb ++ [UInt8.ofNat n]).length ∧ hb ++ [UInt8.ofNat n] = pgHead z n ++ slsEnc (l.take 0)) := Lib.hid ⟨hl9.symm, by simp [pgHead, HH.out, slsEnc]⟩
    replace G3 := Lib.hid G3
    clear G B P1 p1 B3 hl9 H8 hg1 P
    go_wp2_with fail
    go_loopw [4, 26] (fun v i wr => ∃ (k m : Nat) (q : List UInt8), k ≤ n ∧ i = .int .i64 k ∧ v = .slice (some ⟨g, 0, none⟩) m 240 ∧ Hid (m = q.length ∧ q = pgHead z n ++ slsEnc (l.take k)) ∧ Hid (Buf wr g q) ∧ Hid (Below w.heap.size w wr)) (fun _ i _ => n - (intOf i).toNat)
    case atStart => exact ⟨0, 9, _, by omega, rfl, rfl, Hq, G3, B0⟩
    case round =>
      clear G3 B0 p3 Hq
      obtain ⟨k, m, q, hk, rfl, rfl, Hq, G, B⟩ := hrel
      have hgl : g < wr.heap.size := G.out.2.lt
      by_cases hlt : k < n
      · obtain ⟨b, off, x, rfl, hx, hbl, h1, h2, hs⟩ := (H.out.below B.out).at hlt
        have hT := HT.out (k + 1)
        rw [Hlen.out, slsEnc_snoc l k x hx, ← List.append_assoc, ← Hq.out.2] at hT
        have hsz := HO.out x (List.mem_of_getElem? hx)
        have HX : Hid (q ++ x.enc = pgHead z n ++ slsEnc (l.take (k + 1))) := Lib.hid (by rw [slsEnc_snoc l k x hx, ← List.append_assoc, ← Hq.out.2])
        have hmq := Hq.out.1
        have Hm := Lib.hid hmq
        clear hx
        obtain ⟨u, d⟩ := x
        simp only at h1 h2 hs hsz
        have hd : d.data.toList.length = d.size := Array.length_toList
        cases u with
        | false =>
          have hT2 : m < 240 := by simp [Sl.enc] at hT; omega
          have Ht := Lib.hid (show q.length < 240 by omega)
          clear hT hmq
          go_wp2_with ((refine buf_byte rfl (.tmp 33) (.tmp 34) rfl g q m 255 _ rfl _ rfl (by simp) (G.out.alloc _) Hm.out (by rfl) Ht.out ?_; intro w4 G4 B4))
          go_roundw
          case rel =>
            have hB := bup B.out (bnew wr (.cells #[.bool false, .string d] 62))
            exact ⟨k + 1, m + 1, q ++ [255], by omega, by go_num, rfl, Lib.hid ⟨by simp [Hm.out], HX.out⟩, Lib.hid G4, Lib.hid (hB.trans (B4.below (by omega) hB.size))⟩
          case measure => simp [intOf]; omega
        | true =>
          have hT2 : m + 1 + d.size ≤ 240 := by simp [Sl.enc] at hT; omega
          have Ht := Lib.hid (show q.length < 240 by omega)
          have Ht2 := Lib.hid (show (q ++ [UInt8.ofNat d.size]).length + d.size ≤ 240 by simp; omega)
          have Hm2 := Lib.hid (show m + 1 = (q ++ [UInt8.ofNat d.size]).length by simp; omega)
          clear hT hmq hd
          go_upto_region 11 with ((refine buf_byte rfl (.tmp 36) (.tmp 41) rfl g q m (UInt8.ofNat d.size) _ rfl _ rfl (by simp) (G.out.alloc _) Hm.out ?_ Ht.out ?_); (first | (simp; omega) | skip); try (intro w4 G4 B4))
          have K4 := ((Has.new wr (.cells #[.bool true, .string d] 62)).but B4 (by omega))
          have a1 := K4.cell 1 _ rfl
          replace G4 := Lib.hid G4
          clear K4
          go_wp2_with ((refine buf_text rfl (.tmp 43) (.tmp 45) rfl g (q ++ [UInt8.ofNat d.size]) (m + 1) d rfl rfl G4.out Hm2.out Ht2.out ?_; intro w5 G5 B5))
          go_roundw
          case rel =>
            have hB := bup B.out (bnew wr (.cells #[.bool true, .string d] 62))
            have hB4 := hB.trans (B4.below (by omega) hB.size)
            refine ⟨k + 1, m + 1 + d.size, q ++ [UInt8.ofNat d.size] ++ d.data.toList, by omega, by go_num, rfl, Lib.hid ⟨?_, ?_⟩, Lib.hid G5, Lib.hid (hB4.trans (B5.below (by omega) hB4.size))⟩
            · have hd : d.data.toList.length = d.size := Array.length_toList
              rw [List.length_append, ← Hm2.out, hd]
            · rw [← HX.out, List.append_assoc]; rfl
          case measure => simp [intOf]; omega
      · have hkn : l.take k = l := List.take_of_length_le (by rw [Hlen.out]; omega)
        rw [hkn] at Hq
        have HQ : Hid (q = pgBody z l) := Lib.hid (by rw [Hq.out.2, pgBody, Hlen.out])
        have hcv := G.out.text
        have hm240 : m ≤ 240 := by rw [Hq.out.1]; exact G.out.1
        clear hkn
        go_wp2_with fail
        go_ret2
        exact ⟨by rw [HR.out, pgBytes, ← HQ.out]; rfl, B.out⟩
end Go.Proofs.Ytakdagmkkelnfaa

/-! The reference's Encode. -/
namespace Go.Proofs.Ytakdagmkkelnfaa
open Go.RowKit
set_option linter.unusedVariables false
set_option linter.unusedSimpArgs false

theorem RowB.form {base : Nat} {w : World} {v : Value} {l : List UInt8} (h : RowB base w v l) : ∃ A cap, v = .slice A l.length cap ∧ l.length ≤ cap ∧ cap ≤ 9223372036854775807 := by
  rcases h.2 with ⟨rfl, h0⟩ | ⟨g, cap, cur, rfl, _, _, h1, h2, _⟩
  · exact ⟨none, 0, by rw [h0], by omega, by omega⟩
  · exact ⟨_, cap, rfl, h1, by unfold maxLen at h2; omega⟩
theorem RowB.below {base B : Nat} {w w' : World} {v : Value} {l : List UInt8} (h : RowB base w v l) (hb : Below w.heap.size w w') : RowB base w' v l := by
  have hg : w.grownBy w' none := ⟨hb.os, hb.tape, hb.output, hb.size, fun k hk _ => hb.block k hk⟩
  exact World.ownsRow.kept h hg (by cases v.ownBlock <;> simp)
theorem highN_take (n j : Nat) (hj : j < 8) : (highN n 8).take (8 - (j + 1)) ++ [UInt8.ofNat (n / 256 ^ j % 256)] = (highN n 8).take (8 - j) := by
  have h : (highN n 8)[8 - (j + 1)]? = some (UInt8.ofNat (n / 256 ^ j % 256)) := by
    unfold highN hiK
    rw [List.getElem?_map, List.getElem?_range (by omega)]
    simp only [Option.map_some, Option.some.injEq]
    rw [if_pos (by omega), show 8 - 1 - (8 - (j + 1)) = j by omega]
  rw [show 8 - j = 8 - (j + 1) + 1 by omega, List.take_add_one, h]
  rfl
theorem u8_is (m : Nat) (h : m < 256) : (m : Int) = ((UInt8.ofNat m).toNat : Int) := by
  rw [UInt8.toNat_ofNat', Nat.mod_eq_of_lt h]
theorem u8_pow (z j : Nat) : (z : Int) / 2 ^ (8 * j) % 256 = ((UInt8.ofNat (z / 256 ^ j % 256)).toNat : Int) := by
  rw [pow_form]; exact u8_is _ (Nat.mod_lt _ (by omega))
theorem fill240_step (b : List UInt8) (m : Nat) : b ++ List.replicate (m + 1) 0 = (b ++ List.replicate m 0) ++ [0] := by
  rw [List.replicate_succ', List.append_assoc]
def sliceLenN : Value → Nat
  | .slice _ n _ => n
  | _ => 0
set_option maxRecDepth 100000 in
set_option maxHeartbeats 8000000 in
theorem renc_any (lsn : Int) (A : Option Addr) (n c : Nat) (l : List Sl) (w : World) (h : IsSlots w A n c l) :
    Calls Try.prog 40 #[.agg #[.int .i64 lsn, .slice A n c]] w fun r w' => r = .returned (.tuple #[.string (bs (pgEnc lsn l).1), .int .i64 (pgEnc lsn l).2]) ∧ Below w.heap.size w w' := by
  have CG := Lib.hid (fun w h => rgood_any lsn A n c l w h)
  cases hg : slGood lsn l with
  | false =>
    have HR : Hid (pgEnc lsn l = ([], 1)) := Lib.hid (by simp [pgEnc, hg])
    rw [hg] at CG
    have H := Lib.hid h
    clear h hg
    go_enter Try.func40, Try.ntmps40
    go_wp2_with fail
    refine (CG.out _ (H.out.alloc _)).mono ?_
    rintro e w1 ⟨rfl, b1⟩
    go_wp2_with fail
    go_ret2
    exact ⟨by rw [HR.out]; rfl, bup (bnew _ _) b1⟩
  | true =>
    have HR : Hid (pgEnc lsn l = (pgBytes lsn l, 0)) := Lib.hid (by simp [pgEnc, hg])
    rw [hg] at CG
    obtain ⟨hg1, hg2, hg3, hg4, hg5⟩ := (slGood_iff lsn l).1 hg
    have hlen := h.len
    have hcap := h.cap
    have hmost := h.most
    have HT := Lib.hid (fun k => pgBody_take hg k)
    have HO := Lib.hid (any_odd_sizes hg3)
    have HL : Hid ((pgBody lsn l).length ≤ 240) := Lib.hid (by rw [pgBody_len hg]; exact hg5)
    obtain ⟨z, rfl⟩ : ∃ z : Nat, lsn = z := ⟨lsn.toNat, by omega⟩
    have hz : z ≤ 1099511627776 := by omega
    have hn32 : n ≤ 32 := by omega
    have H := Lib.hid h
    have Hlen := Lib.hid hlen
    have hz8 : (highN z 8).length = 8 := highN_len z 8
    have HZ8 := Lib.hid hz8
    clear h hg hg1 hg2 hg3 hg4 hg5 hlen hz8
    go_enter Try.func40, Try.ntmps40
    go_wp2_with fail
    refine (CG.out _ (H.out.alloc _)).mono ?_
    rintro e w1 ⟨rfl, b1⟩
    have P := Lib.hid ((Has.new w _).below b1)
    have B := Lib.hid (bup (bnew w _) b1)
    have H1 := Lib.hid ((H.out.alloc _).below b1)
    clear b1
    go_wp2_with fail
    have R0 := Lib.hid (RowB.empty w1.heap.size w1 (Nat.le_refl _))
    go_loopw [4, 5] (fun v i wr => ∃ m : Nat, m ≤ 8 ∧ i = .int .i64 (8 * (m : Int) - 8) ∧ Hid (RowB w1.heap.size wr v ((highN z 8).take (8 - m))) ∧ Hid (Below w1.heap.size w1 wr)) (fun _ i _ => (intOf i + 8).toNat)
    case atStart => exact ⟨8, by omega, rfl, R0, Lib.hid (bnew w1 _)⟩
    case round =>
      clear R0
      obtain ⟨m, hm, rfl, R, B1⟩ := hrel
      have P1 := Lib.hid (P.out.below B1.out)
      have p0 := P1.out.cell 0 _ rfl
      have p1 := P1.out.cell 1 _ rfl
      by_cases hm0 : m = 0
      · subst hm0
        rw [show (8 * ((0 : Nat) : Int) - 8) = -8 by rfl]
        have R2 : Hid (RowB w1.heap.size wr u4 (highN z 8)) := Lib.hid (by have := R.out; rwa [List.take_of_length_le (by rw [HZ8.out]; omega)] at this)
        have hl8 := HZ8.out
        have HE : Hid (highN z 8 ++ [UInt8.ofNat n] = pgHead z n ++ slsEnc (l.take 0)) := Lib.hid (by simp [pgHead, slsEnc])
        clear R
        go_wp2_with (at_builtin; refine append_byte rfl (.tmp 24) (.tmp 29) rfl w1.heap.size wr _ (highN z 8) (UInt8.ofNat n) _ rfl rfl R2.out (by simp; omega) (by omega) B1.out.size ?_; intro v3 w3 R3 b3)
        have P3 := Lib.hid (P.out.below (B1.out.trans b3))
        have B3 := Lib.hid (B1.out.trans b3)
        rw [HE.out] at R3
        replace R3 := Lib.hid R3
        clear b3 p0 p1 P1 B1 R2 HE hl8
        go_loopw [4, 6, 7] (fun v i u wr => ∃ k : Nat, k ≤ n ∧ i = .int .i64 k ∧ Hid (RowB w1.heap.size wr v (pgHead z n ++ slsEnc (l.take k))) ∧ Hid (Below w1.heap.size w1 wr)) (fun _ i _ _ => n - (intOf i).toNat)
        case atStart => exact ⟨0, by omega, rfl, R3, B3⟩
        case round =>
          clear R3 B3 P3
          obtain ⟨k, hk, rfl, R, B1⟩ := hrel
          have P1 := Lib.hid (P.out.below B1.out)
          have p1 := P1.out.cell 1 _ rfl
          have hT0 := HT.out k
          rw [Hlen.out] at hT0
          by_cases hlt : k < n
          · obtain ⟨b, off, x, rfl, hx, hbl, h1, h2, hs⟩ := H1.out.at hlt
            have h3 := (B1.out.cell (p := ⟨b, off + k * 2 + 1, none⟩) hbl).trans h2
            have h4 := (B1.out.cell (p := ⟨b, off + k * 2, none⟩) hbl).trans h1
            have hsz := HO.out x (List.mem_of_getElem? hx)
            have HX := Lib.hid (slsEnc_snoc l k x hx)
            clear hx
            obtain ⟨u, d⟩ := x
            simp only at h1 h2 h3 h4 hs hsz
            have H2 := Lib.hid h2
            clear h1 h2
            cases u with
            | false =>
              have HX2 : Hid (pgHead z n ++ slsEnc (l.take k) ++ [255] = pgHead z n ++ slsEnc (l.take (k + 1))) := Lib.hid (by rw [HX.out, List.append_assoc]; rfl)
              clear HX
              obtain ⟨q, hq⟩ : ∃ q, pgHead z n ++ slsEnc (l.take k) = q := ⟨_, rfl⟩
              rw [hq] at R HX2 hT0
              clear hq
              go_wp2_with (at_builtin; refine append_byte rfl (.tmp 45) (.tmp 46) rfl w1.heap.size wr _ q 255 _ rfl rfl R.out rfl (by omega) B1.out.size ?_; intro v4 w4 hrow4 hb4)
              go_roundw
              case rel => exact ⟨k + 1, by omega, by go_num, Lib.hid (by rw [HX2.out] at hrow4; exact hrow4), Lib.hid (B1.out.trans hb4)⟩
              case measure => simp [intOf]; omega
            | true =>
              have HX2 : Hid (pgHead z n ++ slsEnc (l.take k) ++ [UInt8.ofNat d.size] ++ d.data.toList = pgHead z n ++ slsEnc (l.take (k + 1))) := Lib.hid (by rw [HX.out, List.append_assoc, List.append_assoc]; rfl)
              clear HX
              obtain ⟨q, hq⟩ : ∃ q, pgHead z n ++ slsEnc (l.take k) = q := ⟨_, rfl⟩
              rw [hq] at R HX2 hT0
              clear hq
              have hdl : d.data.toList.length = d.size := Array.length_toList
              have HDL := Lib.hid hdl
              clear hdl
              go_wp2_with (at_builtin; refine append_byte rfl (.tmp 48) (.tmp 57) rfl w1.heap.size wr _ q (UInt8.ofNat d.size) _ rfl rfl R.out (by simp; omega) (by omega) B1.out.size ?_; intro v4 w4 R4 b4)
              have B4 := Lib.hid (B1.out.trans b4)
              replace R4 := Lib.hid R4
              obtain ⟨q4, hq4⟩ : ∃ q4, q ++ [UInt8.ofNat d.size] = q4 := ⟨_, rfl⟩
              have hq4l : q4.length ≤ 241 := by rw [← hq4]; simp; omega
              rw [hq4] at R4 HX2
              have R5 : Hid (RowB w1.heap.size w4 v4 (q4 ++ d.data.toList.take 0)) := Lib.hid (by rw [List.take_zero, List.append_nil]; exact R4.out)
              obtain ⟨wo, rfl⟩ : ∃ wo : World, wo = wr := ⟨_, rfl⟩
              clear b4 h3 h4 hq4 p1 P1 B1 R
              go_loopw [4, 7] (fun v i wr => ∃ j : Nat, j ≤ d.size ∧ i = .int .i64 j ∧ Hid (RowB w1.heap.size wr v (q4 ++ d.data.toList.take j)) ∧ Hid (Below w1.heap.size w1 wr)) (fun _ i _ => d.size - (intOf i).toNat)
              case atStart => exact ⟨0, by omega, rfl, R5, B4⟩
              case round =>
                clear R5 B4
                obtain ⟨j, hj, rfl, R, B1⟩ := hrel
                have P1 := Lib.hid (P.out.below B1.out)
                have p1 := P1.out.cell 1 _ rfl
                have h3 := (B1.out.cell (p := ⟨b, off + k * 2 + 1, none⟩) hbl).trans H2.out
                by_cases hjd : j < d.size
                · have hT5 : (q4 ++ d.data.toList.take j).length ≤ 1000 := by have := HDL.out; simp; omega
                  obtain ⟨q5, hq5⟩ : ∃ q5, q4 ++ d.data.toList.take j = q5 := ⟨_, rfl⟩
                  have HX5 : Hid (q5 ++ [d[j]] = q4 ++ d.data.toList.take (j + 1)) := Lib.hid (by
                    rw [← hq5, List.take_succ_eq_append_getElem (by rw [HDL.out]; exact hjd), ← List.append_assoc]; rfl)
                  rw [hq5] at R hT5
                  clear hq5
                  go_wp2_with (at_builtin; refine append_byte rfl (.tmp 70) (.tmp 79) rfl w1.heap.size wr _ q5 d[j] _ rfl rfl R.out rfl (by omega) B1.out.size ?_; intro v6 w6 R6 b6)
                  go_roundw
                  case rel => exact ⟨j + 1, by omega, by go_num, Lib.hid (by rw [HX5.out] at R6; exact R6), Lib.hid (B1.out.trans b6)⟩
                  case measure => simp [intOf]; omega
                · have R7 : Hid (RowB w1.heap.size wr u4 (pgHead z n ++ slsEnc (l.take (k + 1)))) := Lib.hid (by
                    have := R.out
                    rw [List.take_of_length_le (by rw [HDL.out]; omega), HX2.out] at this
                    exact this)
                  go_wp2_with fail
                  go_roundw
                  case rel => exact ⟨k + 1, by omega, by go_num, R7, B1⟩
                  case measure => simp [intOf]; omega
          · have hkn : l.take k = l := List.take_of_length_le (by have := Hlen.out; omega)
            rw [hkn] at R
            clear hkn
            have hbd : pgHead z n ++ slsEnc l = pgBody z l := by rw [pgBody, Hlen.out]
            rw [hbd] at R
            clear hbd hT0
            have hL := HL.out
            obtain ⟨q, hq⟩ : ∃ q, pgBody (↑z) l = q := ⟨_, rfl⟩
            have HQ : Hid (q ++ List.replicate (240 - q.length) 0 = pgBytes (↑z) l) := Lib.hid (by rw [pgBytes, hq]; rfl)
            rw [hq] at R hL
            clear hq
            go_wp2_with fail
            have R0 : Hid (RowB w1.heap.size wr u4 (q ++ List.replicate 0 0)) := Lib.hid (by rw [List.replicate_zero, List.append_nil]; exact R.out)
            go_loopw [4] (fun v wr => ∃ m : Nat, q.length + m ≤ 240 ∧ Hid (RowB w1.heap.size wr v (q ++ List.replicate m 0)) ∧ Hid (Below w1.heap.size w1 wr)) (fun v _ => 240 - sliceLenN v)
            case atStart => exact ⟨0, by omega, R0, B1⟩
            case round =>
              clear R0 B1
              obtain ⟨m, hm, R, B1⟩ := hrel
              obtain ⟨A', cap, rfl, hc1, hc2⟩ := R.out.form
              have hlq : (q ++ List.replicate m (0 : UInt8)).length = q.length + m := by simp
              have HLQ := Lib.hid hlq
              obtain ⟨X, hX⟩ : ∃ X, (q ++ List.replicate m (0 : UInt8)).length = X := ⟨_, rfl⟩
              rw [hX] at R hlq hc1 ⊢
              have HX := Lib.hid hX
              have hX240 : X ≤ 240 := by omega
              clear hX hlq
              by_cases hm2 : X < 240
              · have HS := Lib.hid (fill240_step q m)
                go_wp2_with (at_builtin; refine append_byte rfl (.tmp 84) (.tmp 85) rfl w1.heap.size wr _ (q ++ List.replicate m 0) 0 _ rfl rfl R.out rfl (by rw [HX.out]; omega) B1.out.size ?_; intro v6 w6 R6 b6)
                go_roundw
                case rel => exact ⟨m + 1, by have := HLQ.out; have := HX.out; omega, Lib.hid (by rw [HS.out]; exact R6), Lib.hid (B1.out.trans b6)⟩
                case measure =>
                  obtain ⟨A6, cap6, rfl, h61, h62⟩ := R6.form
                  simp only [sliceLenN]
                  rw [List.length_append, HX.out]
                  simp; omega
              · have hm3 : m = 240 - q.length := by have := HLQ.out; have := HX.out; omega
                have R7 : Hid (RowB w1.heap.size wr (.slice A' X cap) (pgBytes (↑z) l)) := Lib.hid (by rw [← HQ.out, ← hm3]; exact R.out)
                have hcv := row_string R7.out
                clear hm3
                go_wp2_with fail
                go_ret2
                exact ⟨by rw [HR.out]; rfl, bup B.out B1.out⟩
      · obtain ⟨j, rfl⟩ : ∃ j, m = j + 1 := ⟨m - 1, by omega⟩
        have hj : j < 8 := by omega
        rw [show (8 * ((j + 1 : Nat) : Int) - 8) = ((8 * j : Nat) : Int) by omega]
        have hl7 : ((highN z 8).take (8 - (j + 1))).length ≤ 8 := by rw [List.length_take]; omega
        have HT7 := Lib.hid (highN_take z j hj)
        have hsh : (0 : Int) ≤ ((8 * j : Nat) : Int) := by omega
        have hsh2 : ((8 * j : Nat) : Int) < 64 := by omega
        clear hm0
        go_wp2_with (at_builtin; refine append_byte rfl (.tmp 16) (.tmp 22) rfl w1.heap.size wr _ _ (UInt8.ofNat (z / 256 ^ j % 256)) _ rfl rfl R.out (u8_pow z j) (by omega) B1.out.size ?_; intro v2 w2 hrow2 hb2)
        go_roundw
        case rel => exact ⟨j, by omega, by go_num, Lib.hid (by rw [HT7.out] at hrow2; exact hrow2), Lib.hid (B1.out.trans hb2)⟩
        case measure => simp [intOf]; omega
end Go.Proofs.Ytakdagmkkelnfaa
