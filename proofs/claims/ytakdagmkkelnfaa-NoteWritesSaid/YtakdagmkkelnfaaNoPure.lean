/-
  A message in plain words: which can be, its bytes, what bytes are.
-/
import Derived.Test.YtakdagmkkelnfaaEntLaw
import Derived.Test.YtakdagmkkelnfaaSlDec
import Derived.Test.YtakdagmkkelnfaaSum
namespace Go.Proofs.Ytakdagmkkelnfaa
open Go.RowKit Go.Sort NibPure SumPure
set_option linter.unusedVariables false
set_option linter.unusedSimpArgs false

structure Ms where
  kind : Int
  page : Int
  x : Bool
  need : Bool
  n : Int
  tc : Int
  te : Int
  tn : Int
  lsn : Int
  sl : List Sl
  en : List Ent
def Ms.zero : Ms := ⟨0, 0, false, false, 0, 0, 0, 0, 0, [], []⟩
/-- Which fields a kind has. -/
def kP (k : Int) : Bool := k == 1 || k == 2 || k == 10 || k == 3 || k == 5 || k == 9
def kX (k : Int) : Bool := k == 1 || k == 2 || k == 10 || k == 9
def kN (k : Int) : Bool := k == 1 || k == 9
def kT (k : Int) : Bool := k == 6 || k == 11
def kC (k : Int) : Bool := k == 7 || k == 8 || k == 13
def kI (k : Int) (need : Bool) : Bool := k == 5 || (k == 9 && need)
def kE (k : Int) : Bool := k == 4
def kIs (k : Int) : Bool := decide (1 ≤ k ∧ k ≤ 13)
def least (k : Int) : Int := if k = 13 then 0 else 1
def Ms.bareB (m : Ms) : Bool :=
  (kP m.kind || m.page == 0) && ((kX m.kind || !m.x) && ((kN m.kind || !m.need) && ((kT m.kind || (m.tc == 0 && (m.te == 0 && m.tn == 0))) &&
    (((kC m.kind && decide (least m.kind ≤ m.n)) || m.n == 0) && ((kI m.kind m.need || (m.lsn == 0 && m.sl.isEmpty)) && ((kE m.kind || m.en.isEmpty) && (!kC m.kind || decide (least m.kind ≤ m.n))))))))
def Ms.good (m : Ms) : Bool :=
  kIs m.kind && (m.bareB && ((!kP m.kind || decide (0 ≤ m.page ∧ m.page ≤ 1023)) && ((!kT m.kind || knownB m.tc m.te m.tn) && ((!kC m.kind || decide (0 ≤ m.n ∧ m.n ≤ 1048576)) &&
    ((!kI m.kind m.need || slGood m.lsn m.sl) && ((!kE m.kind || decide (1 ≤ m.en.length ∧ m.en.length ≤ 16)) && m.en.all Ent.good))))))
def b2i (b : Bool) : Int := if b then 1 else 0
def Ms.b0 (m : Ms) : List UInt8 := enc m.kind
def Ms.b1 (m : Ms) : List UInt8 := if kP m.kind then m.b0 ++ enc m.page else m.b0
def Ms.b2 (m : Ms) : List UInt8 := if kX m.kind then m.b1 ++ enc (b2i m.x) else m.b1
def Ms.b3 (m : Ms) : List UInt8 := if kN m.kind then m.b2 ++ enc (b2i m.need) else m.b2
def Ms.b4 (m : Ms) : List UInt8 := if kT m.kind then m.b3 ++ (enc m.tc ++ enc m.te ++ enc m.tn) else m.b3
def Ms.b5 (m : Ms) : List UInt8 := if kC m.kind then m.b4 ++ enc m.n else m.b4
def Ms.b6 (m : Ms) : List UInt8 := if kI m.kind m.need then m.b5 ++ pgBytes m.lsn m.sl else m.b5
def Ms.b7 (m : Ms) : List UInt8 := if kE m.kind then m.b6 ++ enc m.en.length else m.b6
def entsEnc (l : List Ent) : List UInt8 := l.flatMap Ent.bytes
def Ms.body (m : Ms) : List UInt8 := m.b7 ++ entsEnc m.en
def withSum (l : List UInt8) : List UInt8 := highN (sum l) 4 ++ l
def Ms.encM (m : Ms) : List UInt8 × Int := if m.good then (withSum m.body, 0) else ([], 1)

/-- What is left of bytes, and whether anything was wrong. -/
abbrev Sc := List UInt8 × Bool
def scI (s : Sc) : Int × Sc := ((takeI s.1).1, (takeI s.1).2.1, s.2 || !(takeI s.1).2.2)
def scF (s : Sc) : Bool × Sc := ((scI s).1 == 1, (scI s).2.1, (scI s).2.2 || !(decide (0 ≤ (scI s).1 ∧ (scI s).1 ≤ 1)))
def scP (s : Sc) : (Int × List Sl) × Sc :=
  if s.1.length < 240 then ((0, []), s.1, true) else (((pgDecR (pgDec (s.1.take 240))).1, (pgDecR (pgDec (s.1.take 240))).2.1), s.1.drop 240, s.2 || ((pgDecR (pgDec (s.1.take 240))).2.2 != 0))
def esF : Nat → Int → List Ent → Sc → List Ent × Sc
  | 0, _, out, s => (out, s)
  | f + 1, n, out, s => if (out.length : Int) < min n 17 ∧ s.2 = false then
      match decE s.1 with
      | some (x, r) => esF f n (out ++ [x]) (r, false)
      | none => (out ++ [Ent.zero], [], true)
    else (out, s)
def scE (s : Sc) : List Ent × Sc :=
  ((esF 18 (scI s).1 [] (scI s).2).1, (esF 18 (scI s).1 [] (scI s).2).2.1, (esF 18 (scI s).1 [] (scI s).2).2.2 || ((scI s).1 != ((esF 18 (scI s).1 [] (scI s).2).1.length : Int)))
/-- The state as the fields are read, one by one. -/
abbrev Rd := Ms × Sc
def rd0 (l : List UInt8) : Rd := ({ Ms.zero with kind := (scI (l, false)).1 }, (scI (l, false)).2)
def rd1 (r : Rd) : Rd := if kP r.1.kind then ({ r.1 with page := (scI r.2).1 }, (scI r.2).2) else r
def rd2 (r : Rd) : Rd := if kX r.1.kind then ({ r.1 with x := (scF r.2).1 }, (scF r.2).2) else r
def rd3 (r : Rd) : Rd := if kN r.1.kind then ({ r.1 with need := (scF r.2).1 }, (scF r.2).2) else r
def rdT (r : Rd) : Rd :=
  let a := scI r.2
  let b := scI a.2
  let c := scI b.2
  ({ r.1 with tc := a.1, te := b.1, tn := c.1 }, c.2)
def rd4 (r : Rd) : Rd := if kT r.1.kind then rdT r else r
def rd5 (r : Rd) : Rd := if kC r.1.kind then ({ r.1 with n := (scI r.2).1 }, (scI r.2).2) else r
def rd6 (r : Rd) : Rd := if kI r.1.kind r.1.need then ({ r.1 with lsn := (scP r.2).1.1, sl := (scP r.2).1.2 }, (scP r.2).2) else r
def rd7 (r : Rd) : Rd := if kE r.1.kind then ({ r.1 with en := (scE r.2).1 }, (scE r.2).2) else r
def rdAll (l : List UInt8) : Rd := rd7 (rd6 (rd5 (rd4 (rd3 (rd2 (rd1 (rd0 l)))))))
def decB (l : List UInt8) : Option Ms := if (rdAll l).2.2 = true ∨ (rdAll l).2.1 ≠ [] ∨ (rdAll l).1.good = false then none else some (rdAll l).1
def decM (l : List UInt8) : Ms × Int :=
  if l.length < 4 then (Ms.zero, 3) else if getN (l.take 4) ≠ sum (l.drop 4) then (Ms.zero, 20) else
    match decB (l.drop 4) with
    | none => (Ms.zero, 4)
    | some m => (m, 0)

theorem scI_ok {s : Sc} (h : (scI s).2.2 = false) : s.2 = false ∧ enc (scI s).1 ++ (scI s).2.1 = s.1 := by
  unfold scI at h ⊢
  simp only [Bool.or_eq_false_iff, Bool.not_eq_false'] at h
  exact ⟨h.1, takeI_ok h.2⟩
theorem scI_of {n : Int} (h1 : -9223372036854775808 ≤ n) (h2 : n ≤ 9223372036854775807) (r : List UInt8) : scI (enc n ++ r, false) = (n, r, false) := by
  unfold scI
  rw [takeI_enc h1 h2]
  rfl
theorem scF_ok {s : Sc} (h : (scF s).2.2 = false) : s.2 = false ∧ enc (b2i (scF s).1) ++ (scF s).2.1 = s.1 := by
  unfold scF at h ⊢
  simp only [Bool.or_eq_false_iff, Bool.not_eq_false', decide_eq_true_eq] at h
  obtain ⟨h1, h2, h3⟩ := h
  obtain ⟨a, b⟩ := scI_ok h1
  refine ⟨a, ?_⟩
  have : b2i ((scI s).1 == 1) = (scI s).1 := by
    unfold b2i
    by_cases e : (scI s).1 = 1
    · simp [e]
    · have : (scI s).1 = 0 := by omega
      simp [this]
  rw [this]; exact b
theorem scF_of (b : Bool) (r : List UInt8) : scF (enc (b2i b) ++ r, false) = (b, r, false) := by
  have h : scI (enc (b2i b) ++ r, false) = (b2i b, r, false) := scI_of (by cases b <;> decide) (by cases b <;> decide) r
  unfold scF
  rw [h]
  cases b <;> rfl
theorem scP_ok {s : Sc} (h : (scP s).2.2 = false) : s.2 = false ∧ slGood (scP s).1.1 (scP s).1.2 = true ∧ pgBytes (scP s).1.1 (scP s).1.2 ++ (scP s).2.1 = s.1 := by
  unfold scP at h ⊢
  split at h
  · cases h
  · rename_i hl
    rw [if_neg hl]
    simp only [Bool.or_eq_false_iff, bne_eq_false_iff_eq] at h ⊢
    cases hd : pgDec (s.1.take 240) with
    | none => rw [hd] at h; exact absurd h.2 (by decide)
    | some p =>
      obtain ⟨k, l⟩ := p
      obtain ⟨g, b⟩ := pgDec_bytes hd
      exact ⟨h.1, g, by show pgBytes k l ++ s.1.drop 240 = s.1; rw [b]; exact List.take_append_drop 240 s.1⟩
theorem scP_of {k : Int} {l : List Sl} (h : slGood k l = true) (r : List UInt8) : scP (pgBytes k l ++ r, false) = ((k, l), r, false) := by
  have hl := pgBytes_len h
  have h1 : (pgBytes k l ++ r).take 240 = pgBytes k l := by rw [List.take_append_of_le_length (by omega), List.take_of_length_le (by omega)]
  have h2 : (pgBytes k l ++ r).drop 240 = r := by rw [List.drop_append, hl, List.drop_of_length_le (by omega)]; simp
  unfold scP
  simp only
  rw [if_neg (by rw [List.length_append]; omega), h1, h2, pgDec_good h]
  rfl
theorem entsEnc_append (a b : List Ent) : entsEnc (a ++ b) = entsEnc a ++ entsEnc b := by simp [entsEnc]
theorem esF_ok : ∀ (f : Nat) (n : Int) (out : List Ent) (s : Sc), (esF f n out s).2.2 = false → s.2 = false ∧ ∃ more, (esF f n out s).1 = out ++ more ∧ entsEnc more ++ (esF f n out s).2.1 = s.1
  | 0, n, out, s, h => ⟨h, [], by simp [esF], by simp [esF, entsEnc]⟩
  | f + 1, n, out, s, h => by
    rw [esF] at h ⊢
    split at h
    · rename_i hc
      rw [if_pos hc]
      cases hd : decE s.1 with
      | none => rw [hd] at h; cases h
      | some p =>
        obtain ⟨x, r⟩ := p
        rw [hd] at h
        simp only at h ⊢
        obtain ⟨_, more, e1, e2⟩ := esF_ok f n (out ++ [x]) (r, false) h
        refine ⟨hc.2, x :: more, by rw [e1]; simp, ?_⟩
        rw [show entsEnc (x :: more) = x.bytes ++ entsEnc more from by simp [entsEnc], List.append_assoc, e2]
        exact (bytes_decE hd).2
    · rename_i hc
      rw [if_neg hc]
      exact ⟨h, [], by simp, by simp [entsEnc]⟩
theorem scE_ok {s : Sc} (h : (scE s).2.2 = false) : s.2 = false ∧ enc (scE s).1.length ++ (entsEnc (scE s).1 ++ (scE s).2.1) = s.1 := by
  unfold scE at h ⊢
  simp only [Bool.or_eq_false_iff, bne_eq_false_iff_eq] at h ⊢
  obtain ⟨h1, h2⟩ := h
  obtain ⟨h3, more, e1, e2⟩ := esF_ok _ _ _ _ h1
  obtain ⟨h4, h5⟩ := scI_ok h3
  refine ⟨h4, ?_⟩
  rw [← h2]
  rw [List.nil_append] at e1
  rw [← e1] at e2
  rw [e2, h5]
theorem esF_of (all : List Ent) (r : List UInt8) (hn : all.length ≤ 16) (hg : all.all Ent.good = true) : ∀ (l out : List Ent) (f : Nat), all = out ++ l → l.length < f → esF f (all.length : Int) out (entsEnc l ++ r, false) = (all, r, false)
  | [], out, f + 1, h, hf => by
    rw [List.append_nil] at h
    subst h
    rw [esF, if_neg (by intro hc; have := hc.1; omega)]
    simp [entsEnc]
  | x :: l, out, f + 1, h, hf => by
    have hlen : all.length = out.length + (l.length + 1) := by rw [h]; simp
    have hx : x.good = true := List.all_eq_true.1 hg x (by rw [h]; simp)
    have hd := decE_bytes x hx (entsEnc l ++ r)
    rw [esF, if_pos ⟨by omega, rfl⟩]
    rw [show entsEnc (x :: l) ++ r = x.bytes ++ (entsEnc l ++ r) from by simp [entsEnc]]
    simp only [hd]
    exact esF_of all r hn hg l (out ++ [x]) f (by rw [h]; simp) (by simp only [List.length_cons] at hf; omega)
theorem scE_of {l : List Ent} (hn : l.length ≤ 16) (hg : l.all Ent.good = true) (r : List UInt8) : scE (enc l.length ++ (entsEnc l ++ r), false) = (l, r, false) := by
  have h1 : scI (enc l.length ++ (entsEnc l ++ r), false) = ((l.length : Int), entsEnc l ++ r, false) := scI_of (by omega) (by omega) _
  unfold scE
  rw [h1]
  simp only
  rw [esF_of l r hn hg l [] 18 rfl (by omega)]
  simp
/-- What stands of a message that can be. -/
structure GoodM (m : Ms) : Prop where
  is : 1 ≤ m.kind ∧ m.kind ≤ 13
  p : kP m.kind = true → 0 ≤ m.page ∧ m.page ≤ 1023
  p0 : kP m.kind = false → m.page = 0
  x0 : kX m.kind = false → m.x = false
  n0 : kN m.kind = false → m.need = false
  t : kT m.kind = true → knownB m.tc m.te m.tn = true
  t0 : kT m.kind = false → m.tc = 0 ∧ m.te = 0 ∧ m.tn = 0
  c : kC m.kind = true → 0 ≤ m.n ∧ m.n ≤ 1048576
  c0 : kC m.kind = false → m.n = 0
  i : kI m.kind m.need = true → slGood m.lsn m.sl = true
  i0 : kI m.kind m.need = false → m.lsn = 0 ∧ m.sl = []
  e : kE m.kind = true → m.en.length ≤ 16
  e0 : kE m.kind = false → m.en = []
  g : m.en.all Ent.good = true
theorem good_m {m : Ms} (h : m.good = true) : GoodM m := by
  unfold Ms.good Ms.bareB kIs at h
  simp only [Bool.and_eq_true, Bool.or_eq_true, Bool.not_eq_true', decide_eq_true_eq, beq_iff_eq, List.isEmpty_iff] at h
  obtain ⟨h1, ⟨p1, x1, n1, t1, c1, i1, e1, c2⟩, p2, t2, c3, i2, e2, g⟩ := h
  refine ⟨h1, fun e => ?_, fun e => ?_, fun e => ?_, fun e => ?_, fun e => ?_, fun e => ?_, fun e => ?_, fun e => ?_, fun e => ?_, fun e => ?_, fun e => ?_, fun e => ?_, g⟩
  · rcases p2 with h | h
    · rw [e] at h; cases h
    · exact h
  · rcases p1 with h | h
    · rw [e] at h; cases h
    · exact h
  · rcases x1 with h | h
    · rw [e] at h; cases h
    · exact h
  · rcases n1 with h | h
    · rw [e] at h; cases h
    · exact h
  · rcases t2 with h | h
    · rw [e] at h; cases h
    · exact h
  · rcases t1 with h | h
    · rw [e] at h; cases h
    · exact h
  · rcases c3 with h | h
    · rw [e] at h; cases h
    · exact h
  · rcases c1 with h | h
    · rw [e] at h; exact absurd h.1 (by simp)
    · exact h
  · rcases i2 with h | h
    · rw [e] at h; cases h
    · exact h
  · rcases i1 with h | h
    · rw [e] at h; cases h
    · exact h
  · rcases e2 with h | h
    · rw [e] at h; cases h
    · exact h.2
  · rcases e1 with h | h
    · rw [e] at h; cases h
    · exact h
theorem known_bd {c e n : Int} (h : knownB c e n = true) : (1 ≤ c ∧ c ≤ 8) ∧ (1 ≤ e ∧ e ≤ 1073741824) ∧ (1 ≤ n ∧ n ≤ 1073741824) := by
  unfold knownB at h
  simpa only [Bool.and_eq_true, decide_eq_true_eq] using h
theorem eps_nil (m : Ms) (h : GoodM m) : kE m.kind = false → entsEnc m.en = [] := fun e => by rw [h.e0 e]; rfl
/-- The bytes, behind one another. -/
def Ms.p1 (m : Ms) : List UInt8 := if kP m.kind then enc m.page else []
def Ms.p2 (m : Ms) : List UInt8 := if kX m.kind then enc (b2i m.x) else []
def Ms.p3 (m : Ms) : List UInt8 := if kN m.kind then enc (b2i m.need) else []
def Ms.p4 (m : Ms) : List UInt8 := if kT m.kind then enc m.tc ++ (enc m.te ++ enc m.tn) else []
def Ms.p5 (m : Ms) : List UInt8 := if kC m.kind then enc m.n else []
def Ms.p6 (m : Ms) : List UInt8 := if kI m.kind m.need then pgBytes m.lsn m.sl else []
def Ms.p7 (m : Ms) : List UInt8 := if kE m.kind then enc m.en.length else []
theorem body_parts (m : Ms) : m.body = enc m.kind ++ (m.p1 ++ (m.p2 ++ (m.p3 ++ (m.p4 ++ (m.p5 ++ (m.p6 ++ (m.p7 ++ entsEnc m.en))))))) := by
  have h1 : m.b1 = enc m.kind ++ m.p1 := by unfold Ms.b1 Ms.p1 Ms.b0; split <;> simp
  have h2 : m.b2 = m.b1 ++ m.p2 := by unfold Ms.b2 Ms.p2; split <;> simp
  have h3 : m.b3 = m.b2 ++ m.p3 := by unfold Ms.b3 Ms.p3; split <;> simp
  have h4 : m.b4 = m.b3 ++ m.p4 := by unfold Ms.b4 Ms.p4; split <;> simp
  have h5 : m.b5 = m.b4 ++ m.p5 := by unfold Ms.b5 Ms.p5; split <;> simp
  have h6 : m.b6 = m.b5 ++ m.p6 := by unfold Ms.b6 Ms.p6; split <;> simp
  have h7 : m.b7 = m.b6 ++ m.p7 := by unfold Ms.b7 Ms.p7; split <;> simp
  unfold Ms.body
  rw [h7, h6, h5, h4, h3, h2, h1]
  simp only [List.append_assoc]
/-- A right message's bytes are read as itself. -/
theorem rdAll_of {m : Ms} (h : GoodM m) : rdAll m.body = (m, [], false) := by
  obtain ⟨kind, page, x, need, n, tc, te, tn, lsn, sl, en⟩ := m
  rw [body_parts]
  have hk := h.is
  simp only at hk
  unfold rdAll
  have e0 : ∀ T, rd0 (enc kind ++ T) = (⟨kind, 0, false, false, 0, 0, 0, 0, 0, [], []⟩, T, false) := fun T => by
    unfold rd0
    rw [scI_of (by omega) (by omega)]
    rfl
  have e1 : ∀ T, rd1 (⟨kind, 0, false, false, 0, 0, 0, 0, 0, [], []⟩, (Ms.p1 ⟨kind, page, x, need, n, tc, te, tn, lsn, sl, en⟩) ++ T, false) = (⟨kind, page, false, false, 0, 0, 0, 0, 0, [], []⟩, T, false) := fun T => by
    unfold rd1 Ms.p1
    cases hf : kP kind with
    | true =>
      have := h.p hf
      simp only at this
      simp only [hf, if_true]
      rw [scI_of (by omega) (by omega)]
    | false =>
      have := h.p0 hf
      simp only at this
      subst this
      simp [hf]
  have e2 : ∀ T, rd2 (⟨kind, page, false, false, 0, 0, 0, 0, 0, [], []⟩, (Ms.p2 ⟨kind, page, x, need, n, tc, te, tn, lsn, sl, en⟩) ++ T, false) = (⟨kind, page, x, false, 0, 0, 0, 0, 0, [], []⟩, T, false) := fun T => by
    unfold rd2 Ms.p2
    cases hf : kX kind with
    | true => simp only [hf, if_true]; rw [scF_of]
    | false =>
      have := h.x0 hf
      simp only at this
      subst this
      simp [hf]
  have e3 : ∀ T, rd3 (⟨kind, page, x, false, 0, 0, 0, 0, 0, [], []⟩, (Ms.p3 ⟨kind, page, x, need, n, tc, te, tn, lsn, sl, en⟩) ++ T, false) = (⟨kind, page, x, need, 0, 0, 0, 0, 0, [], []⟩, T, false) := fun T => by
    unfold rd3 Ms.p3
    cases hf : kN kind with
    | true => simp only [hf, if_true]; rw [scF_of]
    | false =>
      have := h.n0 hf
      simp only at this
      subst this
      simp [hf]
  have e4 : ∀ T, rd4 (⟨kind, page, x, need, 0, 0, 0, 0, 0, [], []⟩, (Ms.p4 ⟨kind, page, x, need, n, tc, te, tn, lsn, sl, en⟩) ++ T, false) = (⟨kind, page, x, need, 0, tc, te, tn, 0, [], []⟩, T, false) := fun T => by
    unfold rd4 Ms.p4
    cases hf : kT kind with
    | true =>
      have := known_bd (h.t hf)
      simp only at this
      simp only [hf, if_true]
      unfold rdT
      simp only [List.append_assoc]
      rw [scI_of (by omega) (by omega)]
      simp only
      rw [scI_of (by omega) (by omega)]
      simp only
      rw [scI_of (by omega) (by omega)]
    | false =>
      have := h.t0 hf
      simp only at this
      obtain ⟨rfl, rfl, rfl⟩ := this
      simp [hf]
  have e5 : ∀ T, rd5 (⟨kind, page, x, need, 0, tc, te, tn, 0, [], []⟩, (Ms.p5 ⟨kind, page, x, need, n, tc, te, tn, lsn, sl, en⟩) ++ T, false) = (⟨kind, page, x, need, n, tc, te, tn, 0, [], []⟩, T, false) := fun T => by
    unfold rd5 Ms.p5
    cases hf : kC kind with
    | true =>
      have := h.c hf
      simp only at this
      simp only [hf, if_true]
      rw [scI_of (by omega) (by omega)]
    | false =>
      have := h.c0 hf
      simp only at this
      subst this
      simp [hf]
  have e6 : ∀ T, rd6 (⟨kind, page, x, need, n, tc, te, tn, 0, [], []⟩, (Ms.p6 ⟨kind, page, x, need, n, tc, te, tn, lsn, sl, en⟩) ++ T, false) = (⟨kind, page, x, need, n, tc, te, tn, lsn, sl, []⟩, T, false) := fun T => by
    unfold rd6 Ms.p6
    cases hf : kI kind need with
    | true =>
      have := h.i hf
      simp only at this
      simp only [hf, if_true]
      rw [scP_of this]
    | false =>
      have := h.i0 hf
      simp only at this
      obtain ⟨rfl, rfl⟩ := this
      simp [hf]
  have e7 : rd7 (⟨kind, page, x, need, n, tc, te, tn, lsn, sl, []⟩, (Ms.p7 ⟨kind, page, x, need, n, tc, te, tn, lsn, sl, en⟩) ++ entsEnc en, false) = (⟨kind, page, x, need, n, tc, te, tn, lsn, sl, en⟩, [], false) := by
    unfold rd7 Ms.p7
    cases hf : kE kind with
    | true =>
      have := h.e hf
      simp only at this
      simp only [hf, if_true]
      have hs := scE_of (l := en) this h.g []
      rw [List.append_nil] at hs
      rw [hs]
    | false =>
      have := h.e0 hf
      simp only at this
      subst this
      simp [hf, entsEnc]
  simp only [e0, e1, e2, e3, e4, e5, e6, e7]
theorem decB_of {m : Ms} (h : m.good = true) : decB m.body = some m := by
  unfold decB
  rw [rdAll_of (good_m h)]
  simp [h]
/-- What is read is written as the bytes that it was read of. -/
theorem rd7_ok {r : Rd} (h : (rd7 r).2.2 = false) (hz : r.1.en = []) : r.2.2 = false ∧ (rd7 r).1.p7 ++ (entsEnc (rd7 r).1.en ++ (rd7 r).2.1) = r.2.1 := by
  unfold rd7 at h ⊢
  cases hf : kE r.1.kind with
  | true =>
    simp only [hf, if_true] at h ⊢
    obtain ⟨a, b⟩ := scE_ok h
    exact ⟨a, by unfold Ms.p7; simp only [hf, if_true]; exact b⟩
  | false =>
    simp only [hf, Bool.false_eq_true, if_false] at h ⊢
    exact ⟨h, by unfold Ms.p7; simp [hf, hz, entsEnc]⟩
theorem rd6_ok {r : Rd} (h : (rd6 r).2.2 = false) : r.2.2 = false ∧ (rd6 r).1.p6 ++ (rd6 r).2.1 = r.2.1 ∨ r.2.2 = false ∧ kI r.1.kind r.1.need = false ∧ rd6 r = r := by
  unfold rd6 at h ⊢
  cases hf : kI r.1.kind r.1.need with
  | true =>
    simp only [hf, if_true] at h ⊢
    obtain ⟨a, _, b⟩ := scP_ok h
    exact .inl ⟨a, by unfold Ms.p6; simp only [hf, if_true]; exact b⟩
  | false =>
    simp only [hf, Bool.false_eq_true, if_false] at h ⊢
    exact .inr ⟨h, by first | exact hf | trivial, by first | rfl | trivial⟩
theorem rd6_fin {r : Rd} (h : (rd6 r).2.2 = false) : r.2.2 = false ∧ (rd6 r).1.p6 ++ (rd6 r).2.1 = r.2.1 := by
  rcases rd6_ok h with h | ⟨a, b, c⟩
  · exact h
  · rw [c]; exact ⟨a, by unfold Ms.p6; simp [b]⟩
theorem rd5_ok {r : Rd} (h : (rd5 r).2.2 = false) : r.2.2 = false ∧ (rd5 r).1.p5 ++ (rd5 r).2.1 = r.2.1 := by
  unfold rd5 at h ⊢
  cases hf : kC r.1.kind with
  | true =>
    simp only [hf, if_true] at h ⊢
    obtain ⟨a, b⟩ := scI_ok h
    exact ⟨a, by unfold Ms.p5; simp only [hf, if_true]; exact b⟩
  | false =>
    simp only [hf, Bool.false_eq_true, if_false] at h ⊢
    exact ⟨h, by unfold Ms.p5; simp [hf]⟩
theorem rd4_ok {r : Rd} (h : (rd4 r).2.2 = false) : r.2.2 = false ∧ (rd4 r).1.p4 ++ (rd4 r).2.1 = r.2.1 := by
  unfold rd4 at h ⊢
  cases hf : kT r.1.kind with
  | true =>
    simp only [hf, if_true] at h ⊢
    unfold rdT at h ⊢
    simp only at h ⊢
    obtain ⟨a1, b1⟩ := scI_ok h
    obtain ⟨a2, b2⟩ := scI_ok a1
    obtain ⟨a3, b3⟩ := scI_ok a2
    refine ⟨a3, ?_⟩
    unfold Ms.p4
    simp only [hf, if_true, List.append_assoc]
    rw [b1, b2, b3]
  | false =>
    simp only [hf, Bool.false_eq_true, if_false] at h ⊢
    exact ⟨h, by unfold Ms.p4; simp [hf]⟩
theorem rd3_ok {r : Rd} (h : (rd3 r).2.2 = false) : r.2.2 = false ∧ (rd3 r).1.p3 ++ (rd3 r).2.1 = r.2.1 := by
  unfold rd3 at h ⊢
  cases hf : kN r.1.kind with
  | true =>
    simp only [hf, if_true] at h ⊢
    obtain ⟨a, b⟩ := scF_ok h
    exact ⟨a, by unfold Ms.p3; simp only [hf, if_true]; exact b⟩
  | false =>
    simp only [hf, Bool.false_eq_true, if_false] at h ⊢
    exact ⟨h, by unfold Ms.p3; simp [hf]⟩
theorem rd2_ok {r : Rd} (h : (rd2 r).2.2 = false) : r.2.2 = false ∧ (rd2 r).1.p2 ++ (rd2 r).2.1 = r.2.1 := by
  unfold rd2 at h ⊢
  cases hf : kX r.1.kind with
  | true =>
    simp only [hf, if_true] at h ⊢
    obtain ⟨a, b⟩ := scF_ok h
    exact ⟨a, by unfold Ms.p2; simp only [hf, if_true]; exact b⟩
  | false =>
    simp only [hf, Bool.false_eq_true, if_false] at h ⊢
    exact ⟨h, by unfold Ms.p2; simp [hf]⟩
theorem rd1_ok {r : Rd} (h : (rd1 r).2.2 = false) : r.2.2 = false ∧ (rd1 r).1.p1 ++ (rd1 r).2.1 = r.2.1 := by
  unfold rd1 at h ⊢
  cases hf : kP r.1.kind with
  | true =>
    simp only [hf, if_true] at h ⊢
    obtain ⟨a, b⟩ := scI_ok h
    exact ⟨a, by unfold Ms.p1; simp only [hf, if_true]; exact b⟩
  | false =>
    simp only [hf, Bool.false_eq_true, if_false] at h ⊢
    exact ⟨h, by unfold Ms.p1; simp [hf]⟩
theorem rd0_ok {l : List UInt8} (h : (rd0 l).2.2 = false) : enc (rd0 l).1.kind ++ (rd0 l).2.1 = l := (scI_ok (s := (l, false)) h).2
theorem k1 (r : Rd) : (rd1 r).1.kind = r.1.kind ∧ (rd1 r).1.en = r.1.en := by unfold rd1; split <;> exact ⟨rfl, rfl⟩
theorem k2 (r : Rd) : (rd2 r).1.kind = r.1.kind ∧ (rd2 r).1.en = r.1.en ∧ (rd2 r).1.p1 = r.1.p1 := by unfold rd2; split <;> exact ⟨rfl, rfl, rfl⟩
theorem k3 (r : Rd) : (rd3 r).1.kind = r.1.kind ∧ (rd3 r).1.en = r.1.en ∧ (rd3 r).1.p1 = r.1.p1 ∧ (rd3 r).1.p2 = r.1.p2 := by unfold rd3; split <;> exact ⟨rfl, rfl, rfl, rfl⟩
theorem k4 (r : Rd) : (rd4 r).1.kind = r.1.kind ∧ (rd4 r).1.en = r.1.en ∧ (rd4 r).1.p1 = r.1.p1 ∧ (rd4 r).1.p2 = r.1.p2 ∧ (rd4 r).1.p3 = r.1.p3 := by unfold rd4; split <;> exact ⟨rfl, rfl, rfl, rfl, rfl⟩
theorem k5 (r : Rd) : (rd5 r).1.kind = r.1.kind ∧ (rd5 r).1.en = r.1.en ∧ (rd5 r).1.p1 = r.1.p1 ∧ (rd5 r).1.p2 = r.1.p2 ∧ (rd5 r).1.p3 = r.1.p3 ∧ (rd5 r).1.p4 = r.1.p4 := by unfold rd5; split <;> exact ⟨rfl, rfl, rfl, rfl, rfl, rfl⟩
theorem k6 (r : Rd) : (rd6 r).1.kind = r.1.kind ∧ (rd6 r).1.en = r.1.en ∧ (rd6 r).1.p1 = r.1.p1 ∧ (rd6 r).1.p2 = r.1.p2 ∧ (rd6 r).1.p3 = r.1.p3 ∧ (rd6 r).1.p4 = r.1.p4 ∧ (rd6 r).1.p5 = r.1.p5 := by unfold rd6; split <;> exact ⟨rfl, rfl, rfl, rfl, rfl, rfl, rfl⟩
theorem k7 (r : Rd) : (rd7 r).1.kind = r.1.kind ∧ (rd7 r).1.p1 = r.1.p1 ∧ (rd7 r).1.p2 = r.1.p2 ∧ (rd7 r).1.p3 = r.1.p3 ∧ (rd7 r).1.p4 = r.1.p4 ∧ (rd7 r).1.p5 = r.1.p5 ∧ (rd7 r).1.p6 = r.1.p6 := by unfold rd7; split <;> exact ⟨rfl, rfl, rfl, rfl, rfl, rfl, rfl⟩
theorem rdAll_ok {l : List UInt8} (h : (rdAll l).2.2 = false) : (rdAll l).1.body ++ (rdAll l).2.1 = l := by
  obtain ⟨r0, hr0⟩ : ∃ r, rd0 l = r := ⟨_, rfl⟩
  obtain ⟨r1, hr1⟩ : ∃ r, rd1 r0 = r := ⟨_, rfl⟩
  obtain ⟨r2, hr2⟩ : ∃ r, rd2 r1 = r := ⟨_, rfl⟩
  obtain ⟨r3, hr3⟩ : ∃ r, rd3 r2 = r := ⟨_, rfl⟩
  obtain ⟨r4, hr4⟩ : ∃ r, rd4 r3 = r := ⟨_, rfl⟩
  obtain ⟨r5, hr5⟩ : ∃ r, rd5 r4 = r := ⟨_, rfl⟩
  obtain ⟨r6, hr6⟩ : ∃ r, rd6 r5 = r := ⟨_, rfl⟩
  obtain ⟨r7, hr7⟩ : ∃ r, rd7 r6 = r := ⟨_, rfl⟩
  have hA : rdAll l = r7 := by unfold rdAll; rw [hr0, hr1, hr2, hr3, hr4, hr5, hr6, hr7]
  rw [hA] at h ⊢
  have z0 : r0.1.en = [] := by rw [← hr0]; rfl
  have q1 := k1 r0
  have q2 := k2 r1
  have q3 := k3 r2
  have q4 := k4 r3
  have q5 := k5 r4
  have q6 := k6 r5
  have q7 := k7 r6
  rw [hr1] at q1
  rw [hr2] at q2
  rw [hr3] at q3
  rw [hr4] at q4
  rw [hr5] at q5
  rw [hr6] at q6
  rw [hr7] at q7
  have z6 : r6.1.en = [] := by rw [q6.2.1, q5.2.1, q4.2.1, q3.2.1, q2.2.1, q1.2, z0]
  rw [← hr7] at h
  obtain ⟨h6, s7⟩ := rd7_ok h z6
  rw [hr7] at s7
  rw [← hr6] at h6
  obtain ⟨h5, s6⟩ := rd6_fin h6
  rw [hr6] at s6
  rw [← hr5] at h5
  obtain ⟨h4, s5⟩ := rd5_ok h5
  rw [hr5] at s5
  rw [← hr4] at h4
  obtain ⟨h3, s4⟩ := rd4_ok h4
  rw [hr4] at s4
  rw [← hr3] at h3
  obtain ⟨h2, s3⟩ := rd3_ok h3
  rw [hr3] at s3
  rw [← hr2] at h2
  obtain ⟨h1, s2⟩ := rd2_ok h2
  rw [hr2] at s2
  rw [← hr1] at h1
  obtain ⟨h0, s1⟩ := rd1_ok h1
  rw [hr1] at s1
  rw [← hr0] at h0
  have s0 := rd0_ok h0
  rw [hr0] at s0
  rw [body_parts]
  simp only [List.append_assoc]
  rw [s7]
  rw [q7.2.2.2.2.2.2, s6]
  rw [q7.2.2.2.2.2.1, q6.2.2.2.2.2.2, s5]
  rw [q7.2.2.2.2.1, q6.2.2.2.2.2.1, q5.2.2.2.2.2, s4]
  rw [q7.2.2.2.1, q6.2.2.2.2.1, q5.2.2.2.2.1, q4.2.2.2.2, s3]
  rw [q7.2.2.1, q6.2.2.2.1, q5.2.2.2.1, q4.2.2.2.1, q3.2.2.2, s2]
  rw [q7.2.1, q6.2.2.1, q5.2.2.1, q4.2.2.1, q3.2.2.1, q2.2.2, s1]
  rw [q7.1, q6.1, q5.1, q4.1, q3.1, q2.1, q1.1, s0]
theorem decB_ok {l : List UInt8} {m : Ms} (h : decB l = some m) : m.good = true ∧ m.body = l := by
  unfold decB at h
  split at h
  · cases h
  · rename_i hc
    have h1 : (rdAll l).2.2 = false := by
      cases e : (rdAll l).2.2 with
      | true => exact absurd (.inl e) hc
      | false => rfl
    have h2 : (rdAll l).2.1 = [] := Decidable.byContradiction fun e => hc (.inr (.inl e))
    have h3 : (rdAll l).1.good = true := by
      cases e : (rdAll l).1.good with
      | false => exact absurd (.inr (.inr e)) hc
      | true => rfl
    injection h with h
    subst h
    have := rdAll_ok h1
    rw [h2, List.append_nil] at this
    exact ⟨h3, this⟩
/-- How many bytes. -/
theorem ents_len : ∀ (l : List Ent), l.all Ent.good = true → (entsEnc l).length ≤ 540 * l.length
  | [], _ => by simp [entsEnc]
  | x :: l, h => by
    have h1 := ents_len l (List.all_eq_true.2 (fun y hy => List.all_eq_true.1 h y (List.mem_cons_of_mem _ hy)))
    have h2 := bytes_len x (List.all_eq_true.1 h x (List.mem_cons_self ..))
    rw [show entsEnc (x :: l) = x.bytes ++ entsEnc l from by simp [entsEnc], List.length_append, List.length_cons]
    omega
theorem body_len {m : Ms} (h : m.good = true) : 1 ≤ m.body.length ∧ m.body.length ≤ 9000 := by
  have g := good_m h
  have e0 := enc_len m.kind
  have e0' := enc_pos m.kind
  have e1 : m.p1.length ≤ 10 := by unfold Ms.p1; split; exact enc_len _; simp
  have e2 : m.p2.length ≤ 10 := by unfold Ms.p2; split; exact enc_len _; simp
  have e3 : m.p3.length ≤ 10 := by unfold Ms.p3; split; exact enc_len _; simp
  have e4 : m.p4.length ≤ 30 := by
    unfold Ms.p4
    split
    · have h1 := enc_len m.tc
      have h2 := enc_len m.te
      have h3 := enc_len m.tn
      rw [List.length_append, List.length_append]; omega
    · simp
  have e5 : m.p5.length ≤ 10 := by unfold Ms.p5; split; exact enc_len _; simp
  have e6 : m.p6.length ≤ 240 := by
    unfold Ms.p6
    split
    · rename_i hf; rw [pgBytes_len (g.i hf)]; omega
    · simp
  have e7 : m.p7.length ≤ 10 := by unfold Ms.p7; split; exact enc_len _; simp
  have e8 : (entsEnc m.en).length ≤ 8640 := by
    have h1 := ents_len m.en g.g
    have h2 : m.en.length ≤ 16 := by
      cases hf : kE m.kind with
      | true => exact g.e hf
      | false => rw [g.e0 hf]; simp
    omega
  rw [body_parts]
  simp only [List.length_append]
  omega
theorem sum_lt (l : List UInt8) : sum l < 4294967296 := by unfold sum; omega
/-- A right message's bytes, check and all, are read as itself. -/
theorem decM_of {m : Ms} (h : m.good = true) : decM (withSum m.body) = (m, 0) := by
  have hl := highN_len (sum m.body) 4
  have h1 : (withSum m.body).take 4 = highN (sum m.body) 4 := by unfold withSum; rw [List.take_append_of_le_length (by omega), List.take_of_length_le (by omega)]
  have h2 : (withSum m.body).drop 4 = m.body := by unfold withSum; rw [List.drop_append, hl, List.drop_of_length_le (by omega)]; simp
  unfold decM
  rw [if_neg (by unfold withSum; rw [List.length_append]; omega), h1, h2, getN_highN _ _ (by have := sum_lt m.body; omega), if_neg (by simp), decB_of h]
end Go.Proofs.Ytakdagmkkelnfaa
