/-
  A page's bytes, gathered in a row of 240: what an append leaves.
-/
import Derived.Test.YtklmoigpalhlmaaSlE
import Derived.Test.YtklmoigpalhlmaaHigh
import Derived.Deep.CutRange
import Derived.Deep.RegionLaw
namespace Go.Proofs.Ytklmoigpalhlmaa
open Go.RowKit
set_option linter.unusedVariables false
set_option linter.unusedSimpArgs false

/-- Bytes, and nothing behind them up to 240. -/
def fill240 (l : List UInt8) : List UInt8 := l ++ List.replicate (240 - l.length) 0
theorem fill240_len (l : List UInt8) (h : l.length ≤ 240) : (fill240 l).length = 240 := by simp [fill240]; omega
theorem byteVals_append (l m : List UInt8) : byteVals (l ++ m) = byteVals l ++ byteVals m := by simp [byteVals]
theorem byteVals_take (l : List UInt8) (n : Nat) : byteVals (l.take n) = (byteVals l).take n := by simp [byteVals]
theorem byteVals_drop (l : List UInt8) (n : Nat) : byteVals (l.drop n) = (byteVals l).drop n := by simp [byteVals]
theorem byteVals_one (l : List UInt8) : ∀ v ∈ byteVals l, v.oneCell' = true := by
  intro v hv
  simp [byteVals] at hv
  obtain ⟨b, _, rfl⟩ := hv
  rfl
theorem fill240_more (l m : List UInt8) (h : l.length + m.length ≤ 240) : (fill240 l).take l.length ++ m ++ (fill240 l).drop (l.length + m.length) = fill240 (l ++ m) := by
  unfold fill240
  rw [List.take_left, List.append_assoc, List.append_assoc]
  congr 2
  rw [List.drop_append, List.drop_eq_nil_of_le (by omega), List.nil_append, List.drop_replicate]
  congr 1
  simp; omega
/-- Block g is a row of 240 bytes that begins with these. -/
def Buf (w : World) (g : Nat) (l : List UInt8) : Prop := l.length ≤ 240 ∧ Has w g (.cells (byteVals (fill240 l)).toArray 5)
theorem Buf.but {w w' : World} {g b : Nat} {l : List UInt8} (h : Buf w g l) (hb : But b w w') (hne : g ≠ b) : Buf w' g l := ⟨h.1, h.2.but hb hne⟩
theorem Buf.below {w w' : World} {g : Nat} {l : List UInt8} (h : Buf w g l) (hb : Below w.heap.size w w') : Buf w' g l := ⟨h.1, h.2.below hb⟩
theorem Buf.drew {w : World} {g : Nat} {l : List UInt8} (h : Buf w g l) : Buf w.drew g l := h
theorem Buf.alloc {w : World} {g : Nat} {l : List UInt8} (h : Buf w g l) (o : Obj) : Buf (w.alloc o) g l := ⟨h.1, h.2.alloc o⟩
theorem run_append_in {P : Program} {w : World} {t ty e : TypeId} {i : TypeInfo} (ht : P.underlying t = some (.slice e)) (hi : P.info? e = some i) (h1 : i.size = 1) {g n cap : Nat} {ad : Addr} {m c : Nat} {cur news : List Value} {te : TypeId}
    (hg : Has w g (.cells cur.toArray te)) (hl : news.length = m) (hnews : ∀ j u, news[j]? = some u → w.cell? (ad.add j) = some u) (ho : ∀ u ∈ news, u.oneCell' = true) (hroom : n + m ≤ cap) (hc : n + m ≤ cur.length) :
    (Builtin.append_ #[t, t] ty #[.slice (some ⟨g, 0, none⟩) n cap, .slice (some ad) m c]).run P w = .ok (.slice (some ⟨g, 0, none⟩) (n + m) cap) (w.setRow g (cur.take n ++ news ++ cur.drop (n + m)).toArray) := by
  have hfc := run_firstCells_some (P := P) w i.size m ad m c news (by rw [h1, Nat.mul_one]; exact hl) hnews
  have hst := run_storeCells_at P g n te news 0 cur.toArray w hg (by simp; omega) ho
  rw [h1] at hfc
  simp only [Nat.add_zero] at hst
  have ea : (⟨g, 0, none⟩ : Addr).add n = ⟨g, n, none⟩ := by unfold Addr.add; split <;> simp_all
  simp [Builtin.append_, run_underlying ht, sizeOf, typeInfo, hi, h1, Builtin.lenOf, hroom, hfc, ea, hst, hl]
theorem run_append_str {P : Program} {w : World} {t tx ty e : TypeId} {i : TypeInfo} (ht : P.underlying t = some (.slice e)) (htx : P.underlying tx = some .string) (hi : P.info? e = some i) (h1 : i.size = 1) {g n cap : Nat} {s : ByteArray} {cur : List Value} {te : TypeId}
    (hg : Has w g (.cells cur.toArray te)) (hroom : n + s.size ≤ cap) (hc : n + s.size ≤ cur.length) :
    (Builtin.append_ #[t, tx] ty #[.slice (some ⟨g, 0, none⟩) n cap, .string s]).run P w = .ok (.slice (some ⟨g, 0, none⟩) (n + s.size) cap) (w.setRow g (cur.take n ++ byteVals s.data.toList ++ cur.drop (n + s.size)).toArray) := by
  have hln : (byteVals s.data.toList).length = s.size := by rw [byteVals_len]; exact Array.length_toList
  have hst := run_storeCells_at P g n te (byteVals s.data.toList) 0 cur.toArray w hg (by simp; omega) (byteVals_one _)
  simp only [Nat.add_zero, hln] at hst
  have ea : (⟨g, 0, none⟩ : Addr).add n = ⟨g, n, none⟩ := by unfold Addr.add; split <;> simp_all
  have hex : (s.extract 0 s.size).data.map (fun b => Value.int .u8 (b.toNat : Int)) = (byteVals s.data.toList).toArray := by
    apply Array.ext'
    simp [byteVals, ByteArray.data_extract]
  simp [Builtin.append_, run_underlying ht, run_underlying htx, sizeOf, typeInfo, hi, h1, Builtin.lenOf, hroom, Builtin.firstCells, ea]
  have e2 : List.take s.size (List.map (fun b => Value.int .u8 (b.toNat : Int)) s.data.toList) = byteVals s.data.toList := List.take_of_length_le (by simp)
  rw [e2, hst]
  simp [List.append_assoc]
theorem Buf.more {w w' : World} {g : Nat} {l m : List UInt8} (h : l.length + m.length ≤ 240) (hw : w' = w.setRow g ((byteVals (fill240 l)).take l.length ++ byteVals m ++ (byteVals (fill240 l)).drop (l.length + m.length)).toArray) (hb : Buf w g l) : Buf w' g (l ++ m) := by
  subst hw
  refine ⟨by simpa using h, ?_⟩
  have := Has.setRow hb.2 ((byteVals (fill240 l)).take l.length ++ byteVals m ++ (byteVals (fill240 l)).drop (l.length + m.length)).toArray
  rw [← byteVals_take, ← byteVals_drop, ← byteVals_append, ← byteVals_append, fill240_more l m h] at this
  rw [← byteVals_take, ← byteVals_drop, ← byteVals_append, ← byteVals_append, fill240_more l m h]
  exact this
section
variable {ops : Array Oper} {rest : List Oper} {o : Oper} {a : Act} {w : World} {Q : Exit → Act → World → Prop} {K : Act → World → Prop} {E : Prop}
theorem buf_len (l : List UInt8) (h : l.length ≤ 240) : (byteVals (fill240 l)).length = 240 := by rw [byteVals_len, fill240_len l h]
/-- One byte more. -/
theorem buf_byte (hgd : o.guard = none) (s x : Operand) (ho : o.op = .call { callee := .builtin .append, args := #[s, x], argTypes := #[36, 36] }) (g : Nat) (l : List UInt8) (m : Nat) (c : UInt8) (k : Int)
    (hs : a.eval s = .slice (some ⟨g, 0, none⟩) m 240) (p : Nat) (hx : a.eval x = .slice (some ⟨p, 0, none⟩) 1 1) (hp : p = w.heap.size) (hb : Buf w g l) (hm : m = l.length) (hk : k = (c.toNat : Int)) (hl : l.length < 240)
    (h : ∀ w', Buf w' g (l ++ [c]) → But g w w' → wpList Try.prog ops Q rest (a.put o.dst (.slice (some ⟨g, 0, none⟩) (m + 1) 240)) w') : wpList Try.prog ops Q (o :: rest) a (w.alloc (.cells #[.int .u8 k] 5)) := by
  obtain ⟨i, hi, hz0, hz1, hz2⟩ := info_parts info8
  subst hm hk hp
  have hB := hb.alloc (.cells #[.int .u8 (c.toNat : Int)] 5)
  have hrun := run_append_in (P := Try.prog) (ty := o.type) (c := 1) (cap := 240) (n := l.length) (m := 1) (news := byteVals [c]) (ad := ⟨w.heap.size, 0, none⟩) Try.underlying36 hi hz1 hB.2 rfl (by
    intro j u hj
    match j, hj with
    | 0, hj =>
      simp [byteVals] at hj
      subst hj
      exact (Has.new w _).cell 0 _ rfl) (byteVals_one _) (by omega) (by rw [buf_len l hb.1]; omega)
  refine wpList_plain hgd fun K hK => ?_
  unfold Oper.wp
  simp [execOp, ho, resolve, invoke, builtin, hs, hx, hrun, Result.andThen]
  refine hK _ _ (h _ (Buf.more (l := l) (m := [c]) (by simp; omega) (by simp) hB) ?_)
  exact (But.of (bnew w _)).trans (But.setRow g _ _)
/-- A text more. -/
theorem buf_text (hgd : o.guard = none) (s x : Operand) (ho : o.op = .call { callee := .builtin .append, args := #[s, x], argTypes := #[36, 9] }) (g : Nat) (l : List UInt8) (m : Nat) (d : ByteArray)
    (hs : a.eval s = .slice (some ⟨g, 0, none⟩) m 240) (hx : a.eval x = .string d) (hb : Buf w g l) (hm : m = l.length) (hl : l.length + d.size ≤ 240)
    (h : ∀ w', Buf w' g (l ++ d.data.toList) → But g w w' → wpList Try.prog ops Q rest (a.put o.dst (.slice (some ⟨g, 0, none⟩) (m + d.size) 240)) w') : wpList Try.prog ops Q (o :: rest) a w := by
  obtain ⟨i, hi, hz0, hz1, hz2⟩ := info_parts info8
  subst hm
  have hd : d.data.toList.length = d.size := Array.length_toList
  have hrun := run_append_str (P := Try.prog) (ty := o.type) (s := d) (cap := 240) (n := l.length) Try.underlying36 Try.underlying9 hi hz1 hb.2 hl (by rw [buf_len l hb.1]; omega)
  refine wpList_plain hgd fun K hK => ?_
  unfold Oper.wp
  simp [execOp, ho, resolve, invoke, builtin, hs, hx, hrun, Result.andThen]
  exact hK _ _ (h _ (Buf.more (l := l) (m := d.data.toList) (by omega) (by simp [hd]) hb) (But.setRow g _ _))
/-- The same at a step of a region that draws its order. -/
theorem step_buf_text (hgd : o.guard = none) (s x : Operand) (ho : o.op = .call { callee := .builtin .append, args := #[s, x], argTypes := #[36, 9] }) (g : Nat) (l : List UInt8) (m : Nat) (d : ByteArray)
    (hs : a.eval s = .slice (some ⟨g, 0, none⟩) m 240) (hx : a.eval x = .string d) (hb : Buf w g l) (hm : m = l.length) (hl : l.length + d.size ≤ 240)
    (h : ∀ w', Buf w' g (l ++ d.data.toList) → But g w w' → K (a.put o.dst (.slice (some ⟨g, 0, none⟩) (m + d.size) 240)) w') : if Region.wanted o (yielded ops a.tmps) = true then Oper.wp Try.prog o a w K Q else E := by
  have hw : Region.wanted o (yielded ops a.tmps) = true := by simp [Region.wanted, hgd]
  rw [if_pos hw]
  obtain ⟨i, hi, hz0, hz1, hz2⟩ := info_parts info8
  subst hm
  have hd : d.data.toList.length = d.size := Array.length_toList
  have hrun := run_append_str (P := Try.prog) (ty := o.type) (s := d) (cap := 240) (n := l.length) Try.underlying36 Try.underlying9 hi hz1 hb.2 hl (by rw [buf_len l hb.1]; omega)
  unfold Oper.wp
  simp [execOp, ho, resolve, invoke, builtin, hs, hx, hrun, Result.andThen]
  exact h _ (Buf.more (l := l) (m := d.data.toList) (by omega) (by simp [hd]) hb) (But.setRow g _ _)
end
/-- The row, made. -/
theorem Buf.made (w : World) : Buf (w.alloc (.cells (List.replicate 240 (.int .u8 0)).toArray 5)) w.heap.size [] := by
  refine ⟨by simp, ?_⟩
  have e : byteVals (fill240 []) = List.replicate 240 (.int .u8 0) := by
    unfold fill240 byteVals
    rw [List.nil_append, List.length_nil, List.map_replicate]
    rfl
  rw [e]; exact Has.new _ _
theorem Buf.text {w : World} {g : Nat} {l : List UInt8} (h : Buf w g l) : (convert 36 9 (.slice (some ⟨g, 0, none⟩) 240 240)).run Try.prog w = .ok (.string (bs (fill240 l))) w := by
  have := bytes_back (l := fill240 l) (more := []) (cap := 240) (by rw [List.append_nil]; exact h.2)
  rw [fill240_len l h.1] at this
  exact this
/-- A slot's bytes. -/
def Sl.enc (x : Sl) : List UInt8 := if x.u then UInt8.ofNat x.d.size :: x.d.data.toList else [255]
def slsEnc (l : List Sl) : List UInt8 := l.flatMap Sl.enc
theorem slsEnc_snoc (l : List Sl) (k : Nat) (x : Sl) (h : l[k]? = some x) : slsEnc (l.take (k + 1)) = slsEnc (l.take k) ++ x.enc := by
  rw [List.take_add_one, h]; simp [slsEnc]
theorem enc_size {x : Sl} (h : x.odd = false) : x.enc.length = 1 + x.d.size := by
  have hl : x.d.data.toList.length = x.d.size := Array.length_toList
  unfold Sl.enc
  split
  · simp; omega
  · rename_i hu
    simp [Sl.odd, hu] at h
    have h2 := h.1
    rw [ByteArray.toList_eq] at h2
    have h3 : x.d.size = 0 := by rw [← hl, h2]; rfl
    simp [h3]
theorem slsEnc_size (l : List Sl) (h : l.any Sl.odd = false) : (slsEnc l).length = slSum l := by
  induction l with
  | nil => rfl
  | cons a l ih =>
    have h1 : a.odd = false ∧ l.any Sl.odd = false := by simpa using h
    have e : slsEnc (a :: l) = a.enc ++ slsEnc l := rfl
    have e2 : slSum (a :: l) = (1 + a.d.size) + slSum l := rfl
    rw [e, e2, List.length_append, enc_size h1.1, ih h1.2]
/-- A page's head. -/
def pgHead (lsn : Int) (n : Nat) : List UInt8 := highN lsn.toNat 8 ++ [UInt8.ofNat n]
theorem pgHead_len (lsn : Int) (n : Nat) : (pgHead lsn n).length = 9 := by simp [pgHead, highN_len]
/-- A page's bytes. -/
def pgBody (lsn : Int) (l : List Sl) : List UInt8 := pgHead lsn l.length ++ slsEnc l
def pgBytes (lsn : Int) (l : List Sl) : List UInt8 := fill240 (pgBody lsn l)
def pgEnc (lsn : Int) (l : List Sl) : List UInt8 × Int := if slGood lsn l then (pgBytes lsn l, 0) else ([], 1)
theorem pgBody_len {lsn : Int} {l : List Sl} (h : slGood lsn l = true) : (pgBody lsn l).length = slSize l := by
  rw [pgBody, List.length_append, pgHead_len, slsEnc_size l ((slGood_iff lsn l).1 h).2.2.1]; rfl
theorem pgBytes_len {lsn : Int} {l : List Sl} (h : slGood lsn l = true) : (pgBytes lsn l).length = 240 := fill240_len _ (by rw [pgBody_len h]; exact ((slGood_iff lsn l).1 h).2.2.2.2)
theorem pgBody_take {lsn : Int} {l : List Sl} (h : slGood lsn l = true) (k : Nat) : (pgHead lsn l.length ++ slsEnc (l.take k)).length ≤ 240 := by
  have h1 := pgBody_len h
  have h2 := ((slGood_iff lsn l).1 h).2.2.2.2
  have e : slsEnc l = slsEnc (l.take k) ++ slsEnc (l.drop k) := by
    unfold slsEnc
    rw [← List.flatMap_append, List.take_append_drop]
  rw [pgBody, e] at h1
  simp only [List.length_append] at h1 ⊢
  omega
end Go.Proofs.Ytklmoigpalhlmaa
